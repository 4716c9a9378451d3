/- CausalMoves, plainly. -/
import Derived.Test.YtkccgokdahlmeaaV3
import Derived.Test.YtkccgokdahlmeaaU2
set_option linter.unusedVariables false
set_option linter.unusedSimpArgs false
set_option linter.unusedSectionVars false
set_option maxRecDepth 100000
namespace Go.Proofs.Ytkccgokdahlmeaa
open Go.RowKit
namespace Hs
theorem tau_tau {k x : Int} : tau k (tau k x) = x := by
  unfold tau
  by_cases h : x = k
  · subst h; rw [if_pos rfl, if_neg (by omega), if_pos rfl]
  · rw [if_neg h]
    by_cases h2 : x = k + 1
    · subst h2; rw [if_pos rfl, if_pos rfl]
    · rw [if_neg h2, if_neg h, if_neg h2]
theorem tmC_tmC {k : Int} {c : Call} : tmC k (tmC k c) = c := by
  obtain ⟨a, b, d, e, f, g, i⟩ := c
  simp only [tmC, tau_tau]
end Hs
namespace Ca
open Rl Hs
/-- The same calls, in other places and at other times. -/
structure Mv (k : Nat) (q : Nat → Nat) (c c' : List Call) : Prop where
  len : c'.length = c.length
  inv : ∀ m, q (q m) = m
  lo : ∀ m, m < c.length → q m < c.length
  at_ : ∀ m, m < c.length → c'.getD (q m) Call.z = tmC k (c.getD m Call.z)
theorem Mv.symm {k : Nat} {q : Nat → Nat} {c c' : List Call} (S : Mv k q c c') : Mv k q c' c := by
  have h := S.len
  refine ⟨h.symm, S.inv, fun m hm => by have := S.lo m (by omega); omega, fun m hm => ?_⟩
  have h2 := S.at_ (q m) (S.lo m (by omega))
  rw [S.inv] at h2
  rw [h2, tmC_tmC]
theorem Mv.lt {k : Nat} {q : Nat → Nat} {c c' : List Call} (S : Mv k q c c') (i : Nat) : q i < c'.length ↔ i < c.length := by
  constructor
  · intro h
    rw [S.len] at h
    have := S.lo _ h
    rwa [S.inv] at this
  · intro h
    rw [S.len]
    exact S.lo i h
theorem Mv.few {types : List Int} {k : Nat} {q : Nat → Nat} {c c' : List Call} (S : Mv k q c c') (F : Few types c) : Few types c' := by
  have hl := S.len
  have hat : ∀ m, m < c'.length → c'.getD m Call.z = tmC k (c.getD (q m) Call.z) ∧ q m < c.length := fun m hm => by
    have h1 : q m < c.length := by have := S.symm.lo m hm; omega
    have h2 := S.at_ (q m) h1
    rw [S.inv] at h2
    exact ⟨h2, h1⟩
  refine ⟨F.ty, fun m hm => ?_, fun i j hj hi => ?_, by have := F.le; omega⟩
  · obtain ⟨h1, h2⟩ := hat m hm
    have h3 := F.to _ h2
    rw [h1]
    simp only [tmC, tau]
    split
    · omega
    · split <;> omega
  · obtain ⟨h1, h2⟩ := hat i hi
    obtain ⟨h3, h4⟩ := hat j (by omega)
    rw [h1, h3]
    simp only [tmC]
    rintro ⟨a1, a2, a3, a4⟩
    rcases Nat.lt_trichotomy (q i) (q j) with h | h | h
    · exact F.wr (q j) (q i) h h4 ⟨a2, a1, a3.symm, a4.symm⟩
    · have := S.inv i
      rw [h, S.inv] at this
      omega
    · exact F.wr (q i) (q j) h h2 ⟨a1, a2, a3, a4⟩
theorem war_le {p p' : Nat → Nat → Bool} {q : Nat → Nat} {n : Nat} (hlo : ∀ m, m < n → q m < n) (hp : ∀ i j, p i j = true → p' (q i) (q j) = true) {i j : Nat} (h : war p n i j = true) : war p' n (q i) (q j) = true :=
  war_least (p := p) (q := fun i j => war p' n (q i) (q j)) (n := n) (fun i j h => war_up (Nat.zero_le n) (hp i j h)) (fun i m j hm h1 h2 => war_trans (hlo m hm) h1 h2) n (Nat.le_refl n) i j h
theorem war_move {p p' : Nat → Nat → Bool} {q : Nat → Nat} {n : Nat} (inv : ∀ m, q (q m) = m) (hlo : ∀ m, m < n → q m < n) (hp : ∀ i j, p' (q i) (q j) = p i j) (i j : Nat) : war p' n (q i) (q j) = war p n i j := by
  rw [Bool.eq_iff_iff]
  constructor
  · intro h
    have := war_le (p := p') (p' := p) hlo (fun i j h => by have h2 := hp (q i) (q j); rw [inv, inv] at h2; rw [← h2]; exact h) h
    rwa [inv, inv] at this
  · exact war_le hlo fun i j h => by rw [hp]; exact h
theorem Fd.move {k : Nat} {q : Nat → Nat} {c c' : List Call} (S : Mv k q c c') {Q Q' : Nat → Nat → Bool} (hQ : ∀ i j, Q' (q i) (q j) = Q i j) {nd p : Nat → Bool} {v : Nat → Int} (h : Fd c Q nd p v) : Fd c' Q' (fun i => nd (q i)) (fun i => p (q i)) v := by
  induction h with
  | done h => exact .done fun i => h (q i)
  | @step p v i h1 h2 h3 h4 h5 _ ih =>
    have hat := S.at_ i h1
    refine .step (q i) ((S.lt i).2 h1) (by rw [S.inv]; exact h2) (by rw [S.inv]; exact h3) (fun j hj => ?_) (by rw [hat]; exact h5) ?_
    · have := hQ i (q j)
      rw [S.inv] at this
      exact h4 (q j) (by rw [← this]; exact hj)
    · rw [hat]
      have e : (fun j => p (q j) || decide (q i = j)) = fun j => p (q j) || decide (i = q j) := by
        funext j
        congr 1
        exact decide_eq_decide.2 ⟨fun h => by rw [← h, S.inv], fun h => by rw [h, S.inv]⟩
      rw [e]
      exact ih
theorem Mv.nd {k : Nat} {q : Nat → Nat} {c c' : List Call} (S : Mv k q c c') (w : Nat) : ndO c' w = fun i => ndO c w (q i) := by
  funext i
  unfold ndO
  have h := S.lt (q i)
  rw [S.inv] at h
  by_cases hi : q i < c.length
  · have h2 := S.at_ (q i) hi
    rw [S.inv] at h2
    rw [h2, decide_eq_true hi, decide_eq_true (h.2 hi)]
    rfl
  · rw [decide_eq_false hi, decide_eq_false fun h' => hi (h.1 h')]
    rfl
theorem Vw.move {k : Nat} {q : Nat → Nat} {c c' : List Call} (S : Mv k q c c') {Q Q' : Nat → Nat → Bool} (hQ : ∀ i j, Q' (q i) (q j) = Q i j) (h : Vw c Q) : Vw c' Q' := fun w hw => by
  rw [S.nd]
  exact Fd.move S hQ (h w hw)
theorem Mv.rd {k : Nat} {q : Nat → Nat} {c c' : List Call} (S : Mv k q c c') (i j : Nat) : rdB c' (q i) (q j) = rdB c i j := by
  unfold rdB
  refine decide_eq_decide.2 ?_
  rw [S.lt, S.lt]
  by_cases h : i < c.length ∧ j < c.length
  · rw [S.at_ i h.1, S.at_ j h.2]; exact Iff.rfl
  · exact ⟨fun h' => (h ⟨h'.1, h'.2.1⟩).elim, fun h' => (h ⟨h'.1, h'.2.1⟩).elim⟩
theorem Mv.pr {types : List Int} {l : List Event} {op : List Int} {n k : Nat} {q : Nat → Nat} {c c' : List Call} (S : Mv k q c c') (W : WF types l n c op) (hne : (l.getD k Event.z).who ≠ (l.getD (k + 1) Event.z).who) (i j : Nat) : prB c' (q i) (q j) = prB c i j := by
  unfold prB
  refine decide_eq_decide.2 ?_
  rw [S.lt, S.lt]
  by_cases h : i < c.length ∧ j < c.length
  · rw [S.at_ i h.1, S.at_ j h.2]
    simp only [tmC]
    have O1 := W.one i h.1
    have O2 := W.one j h.2
    have f1 := O1.fr
    have f2 := O2.fr
    have e1 := congrArg Event.who O1.evf.1
    have e2 := congrArg Event.who O2.evf.1
    simp only at e1 e2
    have key : (c.getD i Call.z).who = (c.getD j Call.z).who → (tau (k : Int) (c.getD i Call.z).from_ < tau (k : Int) (c.getD j Call.z).from_ ↔ (c.getD i Call.z).from_ < (c.getD j Call.z).from_) := by
      intro hw
      have n1 : ¬ ((c.getD i Call.z).from_ = (k : Int) ∧ (c.getD j Call.z).from_ = (k : Int) + 1) := by
        rintro ⟨a, b⟩
        rw [a, Int.toNat_natCast] at e1
        rw [b, show ((k : Int) + 1).toNat = k + 1 by omega] at e2
        exact hne (by rw [e1, e2, hw])
      have n2 : ¬ ((c.getD j Call.z).from_ = (k : Int) ∧ (c.getD i Call.z).from_ = (k : Int) + 1) := by
        rintro ⟨a, b⟩
        rw [a, Int.toNat_natCast] at e2
        rw [b, show ((k : Int) + 1).toNat = k + 1 by omega] at e1
        exact hne (by rw [e1, e2, hw])
      generalize (c.getD i Call.z).from_ = a at n1 n2
      generalize (c.getD j Call.z).from_ = b at n1 n2
      unfold tau
      by_cases a1 : a = k <;> by_cases a2 : a = (k : Int) + 1 <;> by_cases b1 : b = k <;> by_cases b2 : b = (k : Int) + 1 <;> simp only [a1, a2, b1, b2, if_true, if_false] <;> omega
    exact ⟨fun h => ⟨h.1, h.2.1, h.2.2.1, (key h.2.2.1).1 h.2.2.2⟩, fun h => ⟨h.1, h.2.1, h.2.2.1, (key h.2.2.1).2 h.2.2.2⟩⟩
  · exact ⟨fun h' => (h ⟨h'.1, h'.2.1⟩).elim, fun h' => (h ⟨h'.1, h'.2.1⟩).elim⟩
theorem Mv.ca {types : List Int} {l : List Event} {op : List Int} {n k : Nat} {q : Nat → Nat} {c c' : List Call} (S : Mv k q c c') (W : WF types l n c op) (hne : (l.getD k Event.z).who ≠ (l.getD (k + 1) Event.z).who) (i j : Nat) : caB c' (q i) (q j) = caB c i j := by
  unfold caB
  rw [S.pr W hne, S.rd]
theorem Mv.back {k : Nat} {q : Nat → Nat} {c c' : List Call} (S : Mv k q c c') {Q Q' : Nat → Nat → Bool} (hQ : ∀ i j, Q' (q i) (q j) = Q i j) : ∀ i j, Q (q i) (q j) = Q' i j := fun i j => by
  have := hQ (q i) (q j)
  rw [S.inv, S.inv] at this
  exact this.symm
theorem Mv.views {k : Nat} {q : Nat → Nat} {c c' : List Call} (S : Mv k q c c') {Q Q' : Nat → Nat → Bool} (hQ : ∀ i j, Q' (q i) (q j) = Q i j) : Vw c Q ↔ Vw c' Q' := ⟨Vw.move S hQ, Vw.move S.symm (S.back hQ)⟩
theorem acy_move {k : Nat} {q : Nat → Nat} {c c' : List Call} (S : Mv k q c c') (hQ : ∀ i j, caB c' (q i) (q j) = caB c i j) (h : Acy c) : Acy c' := by
  rintro ⟨i, hi, hw⟩
  have hi2 : q i < c.length := (S.lt (q i)).1 (by rw [S.inv]; exact hi)
  refine h ⟨q i, hi2, ?_⟩
  have := war_move (p := caB c) (p' := caB c') (n := c.length) S.inv S.lo hQ (q i) (q i)
  rw [S.inv] at this
  rw [← this, ← S.len]
  exact hw
/-- With two events that follow each other, of unlike people, exchanged. -/
theorem swap_calls {N : Nat} (hN : 300 < N) {types : List Int} {l : List Event} {c : List Call} {k : Nat} (hk : k + 1 < l.length) (hne : (l.getD k Event.z).who ≠ (l.getD (k + 1) Event.z).who) (hc : history_Calls N types l = some (c, 0, 0)) :
    ∃ q c' op, history_Calls N types (swap l k) = some (c', 0, 0) ∧ Mv k q c c' ∧ WF types l l.length c op := by
  obtain ⟨r, hr, h2⟩ := calls_rn (types := types) (l := l) hN
  rw [hc] at hr
  cases hr
  obtain ⟨ht, _, hl, _, op, R⟩ := h2 rfl
  have R : Rn N types l l.length c op := R
  obtain ⟨q, c', op', R', S⟩ := Rn.swap hk hne (by omega) R
  have hlen : (swap l k).length = l.length := by simp [swap]
  refine ⟨q, c', op, calls_of hN ht (by omega) (op := op') (by rw [hlen]; exact R'), ⟨S.len, S.inv, S.lo, S.at_⟩, R.wf⟩
theorem lives : alibkeep_causalLives 18446744073709551616 = some true := by kernel_rfl
theorem movesLaw {N : Nat} (hN : 70000 < N) (hL : alibkeep_causalLives N = some true) (types : List Int) (l : List Event) (k : Int) : alibkeep_CausalMoves N types l k = some true := by
  refine Wp.eq ?_
  unfold alibkeep_CausalMoves
  refine .seq (Check_wp (types := types) (l := l) hN) fun r _ hr => .bdO hL ?_
  rcases hr with ⟨he, c, hc, F, ha, hb⟩ | ⟨he, _⟩
  · have hlen : l.length ≤ 200 := by
      obtain ⟨r, hr, h2⟩ := calls_rn (types := types) (l := l) (N := N) (by omega)
      rw [hc] at hr
      cases hr
      exact (h2 rfl).2.2.1
    rw [decide_eq_true he]
    refine .ck (by rw [ok64_of (by omega)]; simp) ?_
    by_cases hk : 0 ≤ k ∧ k < (l.length : Int) - 1
    · obtain ⟨hk0, hk1⟩ := hk
      obtain ⟨k, rfl⟩ : ∃ n : Nat, k = n := ⟨k.toNat, by omega⟩
      rw [decide_eq_false (show ¬ ((k : Int) < 0) by omega), decide_eq_false (show ¬ ((l.length : Int) - 1 ≤ (k : Int)) by omega)]
      refine .gd (l.getD k Event.z) (fun _ => ?_) fun x15 h15 => .ck (by rw [ok64_of (by omega)]; simp) (.gd (l.getD (k + 1) Event.z) (fun _ => ?_) fun x17 h17 => ?_)
      · rw [ix_of (show k < l.length by omega), getD_of]
      · rw [show (k : Int) + 1 = ((k + 1 : Nat) : Int) by omega, ix_of (show k + 1 < l.length by omega), getD_of]
      rw [h15 rfl, h17 rfl]
      refine .cond (fun _ => .bdO hL (.one rfl)) fun h => ?_
      have hne : (l.getD k Event.z).who ≠ (l.getD (k + 1) Event.z).who := by
        intro e
        rw [decide_eq_true e] at h
        cases h
      refine .ck (limB_of ⟨?_, ?_⟩) (.ck64 (by omega) (.ck64 (by omega) ?_))
      · simp only [List.length_nil, Nat.zero_add]; exact Nat.le_trans (m := 2000) (by omega) (by decide)
      · simp only [List.length_nil]; omega
      simp only [List.nil_append]
      refine .ixD Event.z (by omega) (by omega) (.ixD Event.z (by omega) (by omega) (.ixD Event.z (by omega) (by omega) (.ixD Event.z (by omega) (by rw [List.length_set]; omega) ?_)))
      simp only [show ((k : Int) + 1).toNat = k + 1 by omega, Int.toNat_natCast]
      obtain ⟨q, c', op, hc', S, W⟩ := swap_calls (N := N) (by omega) (show k + 1 < l.length by omega) hne hc
      refine .seq (Check_wp (types := types) (l := swap l k) hN) fun r2 _ hr2 => .one ?_
      rcases hr2 with ⟨he2, c2, hc2, F2, ha2, hb2⟩ | ⟨_, hno⟩
      · rw [hc'] at hc2
        obtain rfl : c' = c2 := by cases hc2; rfl
        have e1 : r.1 = r2.1 := by
          rw [Bool.eq_iff_iff, ha, ha2, S.len]
          have hQ := S.ca W hne
          rw [S.views (Q := war (caB c) c.length) (Q' := war (caB c') c.length) (war_move S.inv S.lo hQ)]
          exact and_congr ⟨acy_move S hQ, acy_move S.symm (S.back hQ)⟩ Iff.rfl
        have e2 : r.2.1 = r2.2.1 := by
          rw [Bool.eq_iff_iff, hb, hb2]
          exact S.views (S.pr W hne)
        rw [decide_eq_true he2, e1, e2]
        simp
      · exact (hno c' hc' (S.few F)).elim
    · have hg : (((((!true) || (!true)) || (decide (k < 0))) || (decide (((l.length : Int) - 1) ≤ k)))) = true := by
        simp only [Bool.not_true, Bool.false_or, Bool.or_eq_true, decide_eq_true_eq]; omega
      rw [hg]
      exact .gd Event.z (fun h => by cases h) fun x15 _ => .ck rfl (.gd Event.z (fun h => by cases h) fun x17 _ => .condT rfl (.bdO hL (.one rfl)))
  · rw [decide_eq_false he]
    refine .ck (by simp) (.gd Event.z (fun h => by simp at h) fun x15 _ => .ck (by simp) (.gd Event.z (fun h => by simp at h) fun x17 _ => .condT (by simp) (.bdO hL (.one rfl))))
end Ca

end Go.Proofs.Ytkccgokdahlmeaa
