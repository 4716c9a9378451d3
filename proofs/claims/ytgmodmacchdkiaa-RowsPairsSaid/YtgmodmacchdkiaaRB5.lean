/- RowsFront, plainly. -/
import Derived.Test.YtgmodmacchdkiaaRB3
import Derived.Test.YtgmodmacchdkiaaRA5
set_option linter.unusedVariables false
set_option linter.unusedSimpArgs false
set_option linter.unusedSectionVars false
set_option maxRecDepth 100000
namespace Go.Proofs.Ytgmodmacchdkiaa
open Go.RowKit
namespace Sr
open Hs
/-- A begin's calls, and those of more. -/
structure Pre (n : Nat) (a b : List Call) : Prop where
  len : a.length ≤ b.length
  old : ∀ m, m < a.length → ((b.getD m Call.z).who = (a.getD m Call.z).who ∧ (b.getD m Call.z).thing = (a.getD m Call.z).thing ∧ (b.getD m Call.z).kind = (a.getD m Call.z).kind ∧ (b.getD m Call.z).arg = (a.getD m Call.z).arg ∧ (b.getD m Call.z).from_ = (a.getD m Call.z).from_) ∧ ((a.getD m Call.z).to_ ≠ -1 → b.getD m Call.z = a.getD m Call.z) ∧ ((a.getD m Call.z).to_ = -1 → (b.getD m Call.z).to_ = -1 ∨ (n : Int) ≤ (b.getD m Call.z).to_)
  new : ∀ m, a.length ≤ m → m < b.length → (n : Int) ≤ (b.getD m Call.z).from_
theorem Pre.refl (n : Nat) (a : List Call) : Pre n a a := ⟨Nat.le_refl _, fun m _ => ⟨⟨rfl, rfl, rfl, rfl, rfl⟩, fun _ => rfl, fun h => .inl h⟩, fun m h1 h2 => absurd h2 (by omega)⟩
theorem Pre.step {N : Nat} {types : List Int} {l : List Event} {n k : Nat} {a b b' : List Call} {op op' : List Int} {v : Event} (P : Pre n a b) (W : WF types l k b op) (hn : n ≤ k) (S : StpX N types b op (k : Int) v b' op') : Pre n a b' := by
  have hlen := P.len
  rcases S.how with ⟨_, _, _, _, rfl, _⟩ | ⟨_, m0, hm, hml, _, _, rfl, _⟩
  · refine ⟨by simp; omega, fun m hm => ?_, fun m h1 h2 => ?_⟩
    · rw [getD_app, if_pos (by omega)]
      exact P.old m hm
    · rw [getD_app]
      by_cases h : m < b.length
      · rw [if_pos h]; exact P.new m h1 h
      · rw [List.length_append, List.length_singleton] at h2
        rw [if_neg h, if_pos (by omega)]
        simp only [begC]; omega
  · have hpend : (b.getD m0 Call.z).to_ = -1 := by
      obtain ⟨h1, h2⟩ := S.who
      exact ((W.pen v.who.toNat (by omega)).2.2 m0 hm).2
    refine ⟨by rw [List.length_set]; exact hlen, fun m hm2 => ?_, fun m h1 h2 => ?_⟩
    · rw [getD_set2 hml]
      by_cases e : m = m0
      · subst e
        rw [if_pos rfl]
        obtain ⟨o1, o2, _⟩ := P.old m hm2
        have ht : (a.getD m Call.z).to_ = -1 := by
          apply Classical.byContradiction
          intro h
          have := o2 h
          rw [this] at hpend
          exact h hpend
        exact ⟨o1, fun h => (h ht).elim, fun _ => .inr (by simp only [endC]; omega)⟩
      · rw [if_neg e]; exact P.old m hm2
    · rw [List.length_set] at h2
      rw [getD_set2 hml]
      by_cases e : m = m0
      · subst e
        rw [if_pos rfl]
        exact P.new m h1 h2
      · rw [if_neg e]; exact P.new m h1 h2
theorem Rn.pre {N : Nat} {types : List Int} {l : List Event} {k : Nat} {out : List Call} {op : List Int} (R : Rn N types l k out op) : ∀ n, n ≤ k → ∃ a oa, Rn N types l n a oa ∧ Pre n a out := by
  induction R with
  | zero => exact fun n hn => ⟨[], [], by obtain rfl : n = 0 := by omega
                                          exact .zero, .refl n []⟩
  | @succ k out out' op op' R hk S ih =>
    intro n hn
    rcases Nat.lt_or_ge n (k + 1) with h | h
    · obtain ⟨a, oa, h1, h2⟩ := ih n (by omega)
      exact ⟨a, oa, h1, h2.step R.wf (by omega) S⟩
    · obtain rfl : n = k + 1 := by omega
      exact ⟨out', op', .succ R hk S, .refl _ _⟩
theorem Rn.take {N : Nat} {types : List Int} {l : List Event} {n m : Nat} {a : List Call} {oa : List Int} (R : Rn N types l n a oa) (h : n ≤ m) : Rn N types (l.take m) n a oa := by
  induction R with
  | zero => exact .zero
  | @succ k out out' op op' R hk S ih =>
    refine .succ (ih (by omega)) (by rw [List.length_take]; omega) ?_
    have e : (l.take m).getD k Event.z = l.getD k Event.z := by
      rw [List.getD_eq_getElem?_getD, List.getElem?_take, if_pos (by omega), ← List.getD_eq_getElem?_getD]
    rw [e]; exact S
end Sr
namespace Rw
open Hs Sr
/-- Calls of a begin, all that take answered, and those of the whole. -/
structure Fr (n : Nat) (a c : List Call) : Prop where
  P : Sr.Pre n a c
  A : Cls a
  tn : ∀ i, i < a.length → (a.getD i Call.z).to_ < n
section
variable {n : Nat} {a c : List Call}
theorem Fr.len (F : Fr n a c) : a.length ≤ c.length := F.P.len
theorem Fr.kd (F : Fr n a c) {i : Nat} (hi : i < a.length) : (c.getD i Call.z).kind = (a.getD i Call.z).kind ∧ (c.getD i Call.z).arg = (a.getD i Call.z).arg ∧ (c.getD i Call.z).from_ = (a.getD i Call.z).from_ := (F.P.old i hi).1.2.2
theorem Fr.an (F : Fr n a c) {i : Nat} (hi : i < a.length) (h : (a.getD i Call.z).to_ ≠ -1) : c.getD i Call.z = a.getD i Call.z := (F.P.old i hi).2.1 h
theorem Fr.dq (F : Fr n a c) {i : Nat} (hi : i < a.length) (h : (a.getD i Call.z).kind = 4) : c.getD i Call.z = a.getD i Call.z := F.an hi (F.A.dn i hi h)
theorem Fr.fd (F : Fr n a c) {x : Int} {d : Nat} (h : Fd a a.length x d) : Fd c c.length x d := by
  have hl := F.len
  obtain ⟨h1, h2, h3, h4⟩ := h
  have e := F.dq h1 h2
  refine ⟨by omega, by rw [e]; exact h2, by rw [e]; exact h3, fun j hj k1 k2 => ?_⟩
  have hja : j < a.length := Nat.lt_trans hj h1
  have k3 : (a.getD j Call.z).kind = 4 := (F.kd hja).1.symm.trans k1
  rw [F.dq hja k3] at k2
  exact h4 j hj k3 k2
theorem Fr.nd (F : Fr n a c) {x : Int} (h : Nd a a.length x) : Nd c c.length x ∨ ∃ d, Fd c c.length x d ∧ (n : Int) ≤ (c.getD d Call.z).from_ := by
  rcases fd_or c x c.length with h1 | ⟨d, h1⟩
  · exact .inl h1
  · refine .inr ⟨d, h1, ?_⟩
    rcases Nat.lt_or_ge d a.length with h2 | h2
    · have k3 : (a.getD d Call.z).kind = 4 := (F.kd h2).1.symm.trans h1.2.1
      exact (h d h2 k3 (by rw [← F.dq h2 k3]; exact h1.2.2.1)).elim
    · exact F.P.new d h2 h1.1
theorem Fr.none (F : Fr n a c) (h1 : ¬ ∃ i, StrayAt c i) (h2 : ¬ ∃ i, TwiceAt c i) (h3 : ¬ ∃ i, EarlyAt c i) (h4 : ¬ ∃ x y, OrdrAt c x y) (h5 : ¬ ∃ i, EmptAt c i) :
    (¬ ∃ i, StrayAt a i) ∧ (¬ ∃ i, TwiceAt a i) ∧ (¬ ∃ i, EarlyAt a i) ∧ (¬ ∃ x y, OrdrAt a x y) ∧ ¬ ∃ i, EmptAt a i := by
  have hl := F.len
  refine ⟨fun ⟨i, S⟩ => ?_, fun ⟨i, S⟩ => h2 ⟨i, ?_⟩, fun ⟨i, S⟩ => h3 ⟨i, ?_⟩, fun ⟨x, y, S⟩ => h4 ⟨x, y, ?_⟩, fun ⟨i, S⟩ => h5 ⟨i, ?_⟩⟩
  · have e := F.dq S.lt S.dq.1
    have hi := S.lt
    refine h1 ⟨i, by omega, by rw [e]; exact S.dq, fun j hj k1 k2 => ?_⟩
    rw [e] at k2
    rcases Nat.lt_or_ge j a.length with g | g
    · exact S.no j g ((F.kd g).1.symm.trans k1) ((F.kd g).2.1.symm.trans k2)
    · refine h3 ⟨i, by omega, by rw [e]; exact S.dq, j, hj, k1, by rw [e]; exact k2, ?_⟩
      have := F.P.new j g hj
      have := F.tn i hi
      rw [e]; omega
  · have e := F.dq S.lt S.dq.1
    have hi := S.lt
    obtain ⟨j, j1, j2, j3⟩ := S.is
    have e2 := F.dq (Nat.lt_trans j1 hi) j2
    exact ⟨by omega, by rw [e]; exact S.dq, j, j1, by rw [e2]; exact j2, by rw [e2, e]; exact j3⟩
  · have e := F.dq S.lt S.dq.1
    have hi := S.lt
    obtain ⟨j, j1, j2, j3, j4⟩ := S.is
    obtain ⟨g1, g2, g3⟩ := F.kd j1
    exact ⟨by omega, by rw [e]; exact S.dq, j, by omega, by rw [g1]; exact j2, by rw [g2, e]; exact j3, by rw [e, g3]; exact j4⟩
  · have hx := S.la
    have hy := S.lb
    obtain ⟨x1, x2, x3⟩ := F.kd hx
    obtain ⟨y1, y2, y3⟩ := F.kd hy
    obtain ⟨d, d1, d2⟩ := S.is
    refine ⟨by omega, by omega, by rw [x1]; exact S.ka, by rw [y1]; exact S.kb, ⟨by rw [F.an hx S.ah.1]; exact S.ah.1, by rw [F.an hx S.ah.1, y3]; exact S.ah.2⟩, d, by rw [y2]; exact F.fd d1, ?_⟩
    rw [x2]
    have ed := F.dq d1.1 d1.2.1
    rcases d2 with d2 | ⟨d', d2, d3⟩
    · rcases F.nd d2 with g | ⟨d', g1, g2⟩
      · exact .inl g
      · refine .inr ⟨d', g1, by rw [ed]; exact F.A.dn d d1.1 d1.2.1, ?_⟩
        have := F.tn d d1.1
        rw [ed]; omega
    · have ed' := F.dq d2.1 d2.2.1
      exact .inr ⟨d', F.fd d2, by unfold Ah; rw [ed, ed']; exact d3⟩
  · have e := F.dq S.lt S.dq.1
    have hi := S.lt
    refine ⟨by omega, by rw [e]; exact S.dq, fun t t1 t2 => ?_⟩
    rw [e] at t1 t2
    obtain ⟨j, j1, j2, j3, j4, j5⟩ := S.is t t1 t2
    have ej := F.an j1 j3
    refine ⟨j, by omega, by rw [ej]; exact j2, by rw [ej]; exact j3, by rw [ej]; exact j4, ?_⟩
    rw [ej]
    rcases j5 with j5 | ⟨d, j5, j6⟩
    · rcases F.nd j5 with g | ⟨d', g1, g2⟩
      · exact .inl g
      · refine .inr ⟨d', g1, ?_⟩
        have := F.tn i hi
        omega
    · exact .inr ⟨d, F.fd j5, by rw [F.dq j5.1 j5.2.1]; exact j6⟩
end
theorem res_fst {c : List Call} {r : Bool × Int × Int × Int × Int} (h : Res c r) : r.2.2.2.2 = 0 := by
  rcases h with ⟨rfl, _⟩ | ⟨_, _, rfl, _⟩ | ⟨_, _, rfl, _⟩ | ⟨_, _, rfl, _⟩ | ⟨_, _, rfl, _⟩ | ⟨_, _, rfl, _⟩ <;> rfl
theorem res_true {c : List Call} {r : Bool × Int × Int × Int × Int} (h : Res c r) (h2 : r.1 = true) : (¬ ∃ i, StrayAt c i) ∧ (¬ ∃ i, TwiceAt c i) ∧ (¬ ∃ i, EarlyAt c i) ∧ (¬ ∃ a b, OrdrAt c a b) ∧ ¬ ∃ i, EmptAt c i := by
  rcases h with ⟨rfl, h⟩ | ⟨_, _, rfl, _⟩ | ⟨_, _, rfl, _⟩ | ⟨_, _, rfl, _⟩ | ⟨_, _, rfl, _⟩ | ⟨_, _, rfl, _⟩
  · exact h
  all_goals cases h2
theorem res_ok {c : List Call} {r : Bool × Int × Int × Int × Int} (h : Res c r) (h1 : ¬ ∃ i, StrayAt c i) (h2 : ¬ ∃ i, TwiceAt c i) (h3 : ¬ ∃ i, EarlyAt c i) (h4 : ¬ ∃ x y, OrdrAt c x y) (h5 : ¬ ∃ i, EmptAt c i) : r = (true, 0, 0, 0, 0) := by
  rcases h with ⟨rfl, h⟩ | ⟨_, _, _, h⟩ | ⟨_, _, _, h, _⟩ | ⟨_, _, _, h, _⟩ | ⟨_, _, _, h, _⟩ | ⟨_, _, _, h, _⟩
  · rfl
  · exact (h1 ⟨_, h⟩).elim
  · exact (h2 ⟨_, h⟩).elim
  · exact (h3 ⟨_, h⟩).elim
  · exact (h4 ⟨_, _, h⟩).elim
  · exact (h5 ⟨_, h⟩).elim
theorem frontLaw {N : Nat} (hN : 300 < N) (hL : alibkeep_rowsLives N = some true) (l : List Event) (n : Int) : alibkeep_RowsFront N l n = some true := by
  refine Wp.eq ?_
  unfold alibkeep_RowsFront
  refine .seq (check_wp hN l) fun r _ hr => .bdO hL (.cond (fun _ => .bdO hL (.one rfl)) fun hg => ?_)
  simp only [Bool.or_eq_false_iff, Bool.not_true, Bool.false_or, Bool.not_eq_false', decide_eq_true_eq, decide_eq_false_iff_not] at hg
  obtain ⟨⟨⟨hg1, hg2⟩, hg3⟩, hg4⟩ := hg
  obtain ⟨n, rfl⟩ : ∃ m : Nat, n = m := ⟨n.toNat, by omega⟩
  rw [Int.toNat_natCast]
  rcases hr with ⟨h, _⟩ | ⟨_, ht, hl, c, op, R, C, hr⟩
  · exact (h hg1).elim
  obtain ⟨p1, p2, p3, p4, p5⟩ := res_true hr hg4
  obtain ⟨a, oa, Ra, P⟩ := Rn.pre R n (by omega)
  have hlt : (l.take n).length = n := by rw [List.length_take]; omega
  have Rt := Rn.take Ra (Nat.le_refl n)
  refine .ck (by simp [slB]; omega) (.seq (check_rn hN (l := l.take n) (c := a) (op := oa) ht (by omega) (by rw [hlt]; exact Rt)) fun r2 _ h2 => .one ?_)
  rcases h2 with ⟨_, rfl⟩ | ⟨A, h2⟩
  · rfl
  · have F : Fr n a c := ⟨P, A, fun i hi => by rcases (Ra.wf.one i hi).to with h | h <;> omega⟩
    obtain ⟨q1, q2, q3, q4, q5⟩ := F.none p1 p2 p3 p4 p5
    rw [res_ok h2 q1 q2 q3 q4 q5]
    rfl
end Rw

end Go.Proofs.Ytgmodmacchdkiaa
