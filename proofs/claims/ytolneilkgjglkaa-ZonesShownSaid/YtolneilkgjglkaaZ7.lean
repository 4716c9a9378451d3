/- Zones, plainly: ranks. -/
import Derived.Test.YtolneilkgjglkaaZ6
set_option linter.unusedVariables false
set_option linter.unusedSimpArgs false
set_option linter.unusedSectionVars false
set_option maxRecDepth 100000
namespace Go.Proofs.Ytolneilkgjglkaa
open Go.RowKit
namespace Zo
open Hs
/-- Calls of a register that have ranks. -/
structure Rk (c : List Call) (tg : Nat → Bool) (T : Nat → Int) : Prop where
  dn : ∀ i, i < c.length → (c.getD i Call.z).to_ ≠ -1 → tg i = true
  ord : ∀ a b, a < c.length → b < c.length → (c.getD a Call.z).to_ ≠ -1 → (c.getD a Call.z).to_ < (c.getD b Call.z).from_ → tg b = true → T a ≤ T b ∧ ((c.getD b Call.z).kind = 1 → T a < T b)
  uni : ∀ a b, a < c.length → b < c.length → tg a = true → tg b = true → (c.getD a Call.z).kind = 1 → (c.getD b Call.z).kind = 1 → T a = T b → a = b
  wr : ∀ i, i < c.length → tg i = true → (c.getD i Call.z).kind = 1 → 0 < T i ∧ ((c.getD i Call.z).to_ ≠ -1 → (c.getD i Call.z).res = 0)
  rd : ∀ i, i < c.length → (c.getD i Call.z).to_ ≠ -1 → (c.getD i Call.z).kind ≠ 1 → (T i = 0 ∧ (c.getD i Call.z).res = 0) ∨ ∃ k, k < c.length ∧ tg k = true ∧ (c.getD k Call.z).kind = 1 ∧ T k = T i ∧ (c.getD k Call.z).arg = (c.getD i Call.z).res
/-- What holds of kinds and results. -/
structure Kn (c : List Call) : Prop where
  kind : ∀ i, i < c.length → (c.getD i Call.z).kind = 1 ∨ (c.getD i Call.z).kind = 2
  wres : ∀ i, i < c.length → (c.getD i Call.z).kind = 1 → (c.getD i Call.z).to_ ≠ -1 → (c.getD i Call.z).res = 0
  rres : ∀ i, i < c.length → isRd (c.getD i Call.z) = true → 0 ≤ (c.getD i Call.z).res ∧ (c.getD i Call.z).res ≤ 1000
  ne : ∀ i j, i < c.length → j < c.length → (c.getD i Call.z).to_ ≠ -1 → (c.getD i Call.z).to_ ≠ (c.getD j Call.z).from_
  nf : ∀ i j, i < c.length → j < c.length → (c.getD i Call.z).from_ = (c.getD j Call.z).from_ → i = j
  nt : ∀ i j, i < c.length → j < c.length → (c.getD i Call.z).to_ ≠ -1 → (c.getD i Call.z).to_ = (c.getD j Call.z).to_ → i = j
section
variable {c : List Call}
theorem rd_kind {x : Call} (hk : x.kind ≠ 1) (h : x.kind = 1 ∨ x.kind = 2) (ht : x.to_ ≠ -1) : isRd x = true := isRd_iff.2 ⟨h.resolve_left hk, ht⟩
/-- Ranks: it may be. -/
theorem rk_good (W : Wc c) (D : Dist c) (N : Kn c) {tg : Nat → Bool} {T : Nat → Int} (K : Rk c tg T) : Good c := by
  -- the rank of a value
  have rv : ∀ i j, i < c.length → j < c.length → isRd (c.getD i Call.z) = true → (c.getD j Call.z).kind = 1 → (c.getD j Call.z).arg = (c.getD i Call.z).res → tg j = true ∧ T j = T i := by
    intro i j hi hj h1 h2 h3
    have h1' := isRd_iff.1 h1
    rcases K.rd i hi h1'.2 (by omega) with ⟨h4, h5⟩ | ⟨k, k1, k2, k3, k4, k5⟩
    · have := W.pos j hj h2; omega
    · have : k = j := dist_eq D k1 hj k3 h2 (k5.trans h3.symm)
      subst this; exact ⟨k2, k4⟩
  -- all of one value that count have one rank
  have one : ∀ v i j, i < c.length → j < c.length → inC v (c.getD i Call.z) → inC v (c.getD j Call.z) → (tg i = true ∨ isRd (c.getD i Call.z) = true) → (tg j = true ∨ isRd (c.getD j Call.z) = true) → T i = T j := by
    intro v i j hi hj h1 h2 t1 t2
    rcases h1 with ⟨a1, a2⟩ | ⟨a1, a2⟩
    · rcases h2 with ⟨b1, b2⟩ | ⟨b1, b2⟩
      · have : i = j := dist_eq D hi hj a1 b1 (a2.trans b2.symm)
        rw [this]
      · exact (rv j i hj hi b1 a1 (a2.trans b2.symm)).2
    · rcases h2 with ⟨b1, b2⟩ | ⟨b1, b2⟩
      · exact (rv i j hi hj a1 b1 (b2.trans a2.symm)).2.symm
      · have a3 := isRd_iff.1 a1
        have b3 := isRd_iff.1 b1
        rcases K.rd i hi a3.2 (by omega) with ⟨h4, h5⟩ | ⟨k, k1, k2, k3, k4, k5⟩
        · rcases K.rd j hj b3.2 (by omega) with ⟨h6, h7⟩ | ⟨k, k1, k2, k3, k4, k5⟩
          · omega
          · have := W.pos k k1 k3; omega
        · rw [← k4]
          exact (rv j k hj k1 b1 k3 (by omega)).2
  have cntg : ∀ v i, i < c.length → inC v (c.getD i Call.z) → Cnt c v → tg i = true ∨ isRd (c.getD i Call.z) = true := by
    intro v i hi h1 ⟨j, hj, h2, h3⟩
    rcases h1 with ⟨a1, a2⟩ | ⟨a1, a2⟩
    · rcases h2 with ⟨b1, b2⟩ | ⟨b1, b2⟩
      · have : i = j := dist_eq D hi hj a1 b1 (a2.trans b2.symm)
        subst this; exact .inl (K.dn i hi h3)
      · exact .inl (rv j i hj hi b1 a1 (a2.trans b2.symm)).1
    · exact .inr a1
  have tgr : ∀ i, i < c.length → (tg i = true ∨ isRd (c.getD i Call.z) = true) → tg i = true := fun i hi h => h.elim id fun h => K.dn i hi (isRd_iff.1 h).2
  -- of unlike values, the ranks are unlike
  have neq : ∀ a b i j, a ≠ b → i < c.length → j < c.length → inC a (c.getD i Call.z) → inC b (c.getD j Call.z) → tg i = true → tg j = true → ((c.getD i Call.z).kind ≠ 1 → isRd (c.getD i Call.z) = true) → ((c.getD j Call.z).kind ≠ 1 → isRd (c.getD j Call.z) = true) → T i ≠ T j := by
    intro a b i j hab hi hj h1 h2 t1 t2 r1 r2 e
    have src : ∀ v i, i < c.length → inC v (c.getD i Call.z) → tg i = true → (v = 0 ∧ T i = 0) ∨ ∃ k, k < c.length ∧ tg k = true ∧ (c.getD k Call.z).kind = 1 ∧ T k = T i ∧ (c.getD k Call.z).arg = v := by
      intro v i hi h t
      rcases h with ⟨a1, a2⟩ | ⟨a1, a2⟩
      · exact .inr ⟨i, hi, t, a1, rfl, a2⟩
      · have a3 := isRd_iff.1 a1
        rcases K.rd i hi a3.2 (by omega) with ⟨h4, h5⟩ | ⟨k, k1, k2, k3, k4, k5⟩
        · exact .inl ⟨by omega, h4⟩
        · exact .inr ⟨k, k1, k2, k3, k4, k5.trans a2⟩
    rcases src a i hi h1 t1 with ⟨p1, p2⟩ | ⟨k, k1, k2, k3, k4, k5⟩
    · rcases src b j hj h2 t2 with ⟨q1, q2⟩ | ⟨l, l1, l2, l3, l4, l5⟩
      · omega
      · have := (K.wr l l1 l2 l3).1; omega
    · rcases src b j hj h2 t2 with ⟨q1, q2⟩ | ⟨l, l1, l2, l3, l4, l5⟩
      · have := (K.wr k k1 k2 k3).1; omega
      · have := K.uni k l k1 l1 k2 l2 k3 l3 (by omega)
        subst this
        exact hab (k5.symm.trans l5)
  refine ⟨fun i hi h1 => ?_, fun i j hi hj h1 h2 h3 h4 => ?_, fun a b hab va vb ca cb haa ⟨hab1, hba1⟩ => ?_⟩
  · have h1' := isRd_iff.1 h1
    rcases K.rd i hi h1'.2 (by omega) with ⟨h4, h5⟩ | ⟨k, k1, k2, k3, k4, k5⟩
    · exact .inl h5
    · exact .inr ⟨k, k1, k3, k5⟩
  · obtain ⟨t, e⟩ := rv i j hi hj h1 h2 h3
    have := (K.ord i j hi hj (isRd_iff.1 h1).2 h4 t).2 h2
    omega
  · -- each of a is of a lesser rank than each of b
    have less : ∀ a b, a ≠ b → Cnt c a → Cnt c b → Ah c a b → ∃ i j, i < c.length ∧ j < c.length ∧ inC b (c.getD j Call.z) ∧ tg j = true ∧ ((a = 0 ∧ 0 < T j) ∨ (inC a (c.getD i Call.z) ∧ tg i = true ∧ T i < T j)) := by
      intro a b hab ca cb ⟨j, hj, h1, h2⟩
      have tj := tgr j hj (cntg b j hj h1 cb)
      have rj : (c.getD j Call.z).kind ≠ 1 → isRd (c.getD j Call.z) = true := fun h => h1.elim (fun g => (h g.1).elim) fun g => g.1
      rcases h2 with h2 | ⟨i, hi, h3, h4, h5⟩
      · refine ⟨j, j, hj, hj, h1, tj, .inl ⟨h2, ?_⟩⟩
        by_cases hk : (c.getD j Call.z).kind = 1
        · exact (K.wr j hj tj hk).1
        · have hr := isRd_iff.1 (rj hk)
          rcases K.rd j hj hr.2 hk with ⟨_, h6⟩ | ⟨k, k1, k2, k3, k4, k5⟩
          · rcases h1 with ⟨g, _⟩ | ⟨_, g⟩
            · exact (hk g).elim
            · omega
          · have := (K.wr k k1 k2 k3).1; omega
      · have ti := K.dn i hi h4
        have ri : (c.getD i Call.z).kind ≠ 1 → isRd (c.getD i Call.z) = true := fun h => h3.elim (fun g => (h g.1).elim) fun g => g.1
        have o := (K.ord i j hi hj h4 h5 tj).1
        have n := neq a b i j hab hi hj h3 h1 ti tj ri rj
        exact ⟨i, j, hi, hj, h1, tj, .inr ⟨h3, ti, by omega⟩⟩
    obtain ⟨i, j, hi, hj, p1, p2, p3⟩ := less a b hab ca cb hab1
    obtain ⟨i2, j2, hi2, hj2, q1, q2, q3⟩ := less b a (Ne.symm hab) cb ca hba1
    rcases p3 with ⟨p3, p4⟩ | ⟨p3, p4, p5⟩
    · rcases q3 with ⟨q3, q4⟩ | ⟨q3, q4, q5⟩
      · omega
      · -- a is 0: nothing of it has a rank above
        have e := one b j i2 hj hi2 p1 q3 (.inl p2) (.inl q4)
        have hk : (c.getD j2 Call.z).kind ≠ 1 := fun hk => by
          rcases q1 with ⟨g1, g2⟩ | ⟨g1, g2⟩
          · have := W.pos j2 hj2 g1; omega
          · have := (isRd_iff.1 g1).1; omega
        rcases q1 with ⟨g1, g2⟩ | ⟨g1, g2⟩
        · exact hk g1
        · rcases K.rd j2 hj2 (isRd_iff.1 g1).2 hk with ⟨h6, _⟩ | ⟨k, k1, k2, k3, k4, k5⟩
          · omega
          · have := W.pos k k1 k3; omega
    · rcases q3 with ⟨q3, q4⟩ | ⟨q3, q4, q5⟩
      · have e := one a i j2 hi hj2 p3 q1 (.inl p4) (.inl q2)
        have hk : (c.getD j Call.z).kind ≠ 1 := fun hk => by
          rcases p1 with ⟨g1, g2⟩ | ⟨g1, g2⟩
          · have := W.pos j hj g1; omega
          · have := (isRd_iff.1 g1).1; omega
        rcases p1 with ⟨g1, g2⟩ | ⟨g1, g2⟩
        · exact hk g1
        · rcases K.rd j hj (isRd_iff.1 g1).2 hk with ⟨h6, _⟩ | ⟨k, k1, k2, k3, k4, k5⟩
          · omega
          · have := W.pos k k1 k3; omega
      · have e1 := one a i j2 hi hj2 p3 q1 (.inl p4) (.inl q2)
        have e2 := one b j i2 hj hi2 p1 q3 (.inl p2) (.inl q4)
        omega
end
end Zo

end Go.Proofs.Ytolneilkgjglkaa
