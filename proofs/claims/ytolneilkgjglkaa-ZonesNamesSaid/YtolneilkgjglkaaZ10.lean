/- ZonesNames, plainly. -/
import Derived.Test.YtolneilkgjglkaaZ8
set_option linter.unusedVariables false
set_option linter.unusedSimpArgs false
set_option linter.unusedSectionVars false
set_option maxRecDepth 100000
namespace Go.Proofs.Ytolneilkgjglkaa
open Go.RowKit
namespace Zo
open Hs
/-- Events changed at some places. -/
structure Ch (z : Int) (l m : List Event) (P : Nat → Prop) : Prop where
  len : m.length = l.length
  all : ∀ p, p < l.length → (m.getD p Event.z).who = (l.getD p Event.z).who ∧ (m.getD p Event.z).thing = (l.getD p Event.z).thing ∧ (m.getD p Event.z).kind = (l.getD p Event.z).kind ∧ (P p → (m.getD p Event.z).value = (l.getD p Event.z).value + z) ∧ (¬ P p → (m.getD p Event.z).value = (l.getD p Event.z).value)
theorem Ch.congr {z : Int} {l m : List Event} {P Q : Nat → Prop} (C : Ch z l m P) (h : ∀ p, P p ↔ Q p) : Ch z l m Q :=
  ⟨C.len, fun p hp => by obtain ⟨a, b, d, e, f⟩ := C.all p hp; exact ⟨a, b, d, fun g => e ((h p).2 g), fun g => f fun w => g ((h p).1 w)⟩⟩
theorem Ch.set {z : Int} {l m : List Event} {P : Nat → Prop} (C : Ch z l m P) {q : Nat} (hq : q < l.length) (hP : ¬ P q) : Ch z l (m.set q ⟨(m.getD q Event.z).who, (m.getD q Event.z).thing, (m.getD q Event.z).kind, (m.getD q Event.z).value + z⟩) (fun p => P p ∨ p = q) := by
  have hl := C.len
  refine ⟨by rw [List.length_set]; exact hl, fun p hp => ?_⟩
  obtain ⟨a, b, d, e, f⟩ := C.all p hp
  rw [getD_set3 (by omega)]
  by_cases h : p = q
  · rw [if_pos h]
    subst h
    exact ⟨a, b, d, fun _ => by show (m.getD p Event.z).value + z = _; rw [f hP], fun g => (g (.inr rfl)).elim⟩
  · rw [if_neg h]
    exact ⟨a, b, d, fun g => e (g.resolve_right h), fun g => f fun w => g (.inl w)⟩
def hit (c : List Call) (k p : Nat) : Prop := ∃ i, i < k ∧ (((c.getD i Call.z).kind = 1 ∧ (c.getD i Call.z).from_ = p) ∨ (isRd (c.getD i Call.z) = true ∧ (c.getD i Call.z).res ≠ 0 ∧ (c.getD i Call.z).to_ = p))
/-- Of events alike but for their values, calls alike. -/
theorem rn_skel {N : Nat} {l m : List Event} {n : Nat} (hs : ∀ p, p < n → (m.getD p Event.z).who = (l.getD p Event.z).who ∧ (m.getD p Event.z).kind = (l.getD p Event.z).kind) {k : Nat} {out : List Call} {op : List Int} (R : Rn N [1] l k out op) : k ≤ n → ∀ {out2 : List Call} {op2 : List Int}, Rn N [1] m k out2 op2 → op2 = op ∧ out2.length = out.length ∧ ∀ i, i < out.length → (out2.getD i Call.z).kind = (out.getD i Call.z).kind ∧ (out2.getD i Call.z).from_ = (out.getD i Call.z).from_ ∧ (out2.getD i Call.z).to_ = (out.getD i Call.z).to_ := by
  induction R with
  | zero => intro _ out2 op2 R2; cases R2; exact ⟨rfl, rfl, fun i h => absurd h (Nat.not_lt_zero _)⟩
  | @succ k out out' op op' R hk S ih =>
    intro hkn out2 op2 R2
    cases R2 with
    | @succ _ o2 _ p2 _ R2 hk2 S2 =>
      obtain ⟨rfl, h2, h3⟩ := ih (by omega) R2
      obtain ⟨e1, e2⟩ := hs k (by omega)
      rcases S.how with ⟨a1, a2, a3, a4, rfl, rfl⟩ | ⟨a1, q, a2, a3, a4, a5, rfl, rfl⟩
      · rcases S2.how with ⟨b1, b2, b3, b4, rfl, rfl⟩ | ⟨b1, _⟩
        · refine ⟨by rw [e1, h2], by rw [List.length_append, List.length_append, h2]; rfl, fun i hi => ?_⟩
          rw [List.length_append, List.length_singleton] at hi
          rw [getD_app, getD_app, h2]
          by_cases h : i < out.length
          · rw [if_pos h, if_pos h]; exact h3 i h
          · rw [if_neg h, if_neg h, if_pos (by omega), if_pos (by omega)]
            exact ⟨e2, rfl, rfl⟩
        · rw [e2] at b1; exact (a1 b1).elim
      · rcases S2.how with ⟨b1, _⟩ | ⟨b1, q2, b2, b3, b4, b5, rfl, rfl⟩
        · rw [e2] at b1; exact (b1 a1).elim
        · rw [e1] at b2 ⊢
          obtain rfl : q2 = q := by omega
          refine ⟨rfl, by rw [List.length_set, List.length_set, h2], fun i hi => ?_⟩
          rw [List.length_set] at hi
          rw [getD_set3 b3, getD_set3 a3]
          by_cases h : i = q2
          · rw [if_pos h, if_pos h]
            obtain ⟨g1, g2, _⟩ := h3 q2 a3
            exact ⟨g1, g2, rfl⟩
          · rw [if_neg h, if_neg h]; exact h3 i hi
/-- The new name of a value. -/
def sg (z v : Int) : Int := if v = 0 then 0 else v + z
theorem sg_inj {z a b : Int} (hz : 0 ≤ z) (ha : 0 ≤ a) (hb : 0 ≤ b) : sg z a = sg z b ↔ a = b := by
  unfold sg
  by_cases h : a = 0
  · by_cases h2 : b = 0
    · rw [if_pos h, if_pos h2]; omega
    · rw [if_pos h, if_neg h2]; omega
  · by_cases h2 : b = 0
    · rw [if_neg h, if_pos h2]; omega
    · rw [if_neg h, if_neg h2]; omega
theorem sg_zero {z a : Int} (hz : 0 ≤ z) (ha : 0 ≤ a) : sg z a = 0 ↔ a = 0 := by
  unfold sg
  by_cases h : a = 0
  · rw [if_pos h]; omega
  · rw [if_neg h]; omega
/-- The same calls with other names. -/
structure Sm (z : Int) (c d : List Call) : Prop where
  nn : 0 ≤ z
  len : d.length = c.length
  one : ∀ i, i < c.length → (d.getD i Call.z).kind = (c.getD i Call.z).kind ∧ (d.getD i Call.z).from_ = (c.getD i Call.z).from_ ∧ (d.getD i Call.z).to_ = (c.getD i Call.z).to_
  arg : ∀ i, i < c.length → (c.getD i Call.z).kind = 1 → 0 ≤ (c.getD i Call.z).arg ∧ (d.getD i Call.z).arg = sg z (c.getD i Call.z).arg
  res : ∀ i, i < c.length → isRd (c.getD i Call.z) = true → 0 ≤ (c.getD i Call.z).res ∧ (d.getD i Call.z).res = sg z (c.getD i Call.z).res
section
variable {z : Int} {c d : List Call}
theorem Sm.rd (S : Sm z c d) {i : Nat} (hi : i < c.length) : isRd (d.getD i Call.z) = isRd (c.getD i Call.z) := by
  obtain ⟨h1, h2, h3⟩ := S.one i hi
  unfold isRd; rw [h1, h3]
theorem Sm.inc (S : Sm z c d) {i : Nat} (hi : i < c.length) {v : Int} (hv : 0 ≤ v) : inC (sg z v) (d.getD i Call.z) ↔ inC v (c.getD i Call.z) := by
  unfold inC
  rw [S.rd hi, (S.one i hi).1]
  constructor
  · rintro (⟨h1, h2⟩ | ⟨h1, h2⟩)
    · obtain ⟨g1, g2⟩ := S.arg i hi h1
      rw [g2] at h2; exact .inl ⟨h1, (sg_inj S.nn g1 hv).1 h2⟩
    · obtain ⟨g1, g2⟩ := S.res i hi h1
      rw [g2] at h2; exact .inr ⟨h1, (sg_inj S.nn g1 hv).1 h2⟩
  · rintro (⟨h1, h2⟩ | ⟨h1, h2⟩)
    · exact .inl ⟨h1, by rw [(S.arg i hi h1).2, h2]⟩
    · exact .inr ⟨h1, by rw [(S.res i hi h1).2, h2]⟩
theorem Sm.cnt (S : Sm z c d) {v : Int} (hv : 0 ≤ v) : Cnt d (sg z v) ↔ Cnt c v := by
  unfold Cnt
  constructor
  · rintro ⟨i, hi, h1, h2⟩
    rw [S.len] at hi
    exact ⟨i, hi, (S.inc hi hv).1 h1, by rw [← (S.one i hi).2.2]; exact h2⟩
  · rintro ⟨i, hi, h1, h2⟩
    exact ⟨i, by rw [S.len]; exact hi, (S.inc hi hv).2 h1, by rw [(S.one i hi).2.2]; exact h2⟩
theorem Sm.val (S : Sm z c d) {v : Int} (hv : 0 ≤ v) : Val d (sg z v) ↔ Val c v := by
  unfold Val
  rw [sg_zero S.nn hv]
  constructor
  · rintro (h | ⟨i, hi, h1, h2⟩)
    · exact .inl h
    · rw [S.len] at hi
      rw [(S.one i hi).1] at h1
      obtain ⟨g1, g2⟩ := S.arg i hi h1
      rw [g2] at h2
      exact .inr ⟨i, hi, h1, (sg_inj S.nn g1 hv).1 h2⟩
  · rintro (h | ⟨i, hi, h1, h2⟩)
    · exact .inl h
    · exact .inr ⟨i, by rw [S.len]; exact hi, by rw [(S.one i hi).1]; exact h1, by rw [(S.arg i hi h1).2, h2]⟩
theorem Sm.ah (S : Sm z c d) {a b : Int} (ha : 0 ≤ a) (hb : 0 ≤ b) : Ah d (sg z a) (sg z b) ↔ Ah c a b := by
  unfold Ah
  rw [sg_zero S.nn ha]
  constructor
  · rintro ⟨j, hj, h1, h2⟩
    rw [S.len] at hj
    refine ⟨j, hj, (S.inc hj hb).1 h1, ?_⟩
    rcases h2 with h2 | ⟨i, hi, h3, h4, h5⟩
    · exact .inl h2
    · rw [S.len] at hi
      rw [(S.one i hi).2.2] at h4 h5
      rw [(S.one j hj).2.1] at h5
      exact .inr ⟨i, hi, (S.inc hi ha).1 h3, h4, h5⟩
  · rintro ⟨j, hj, h1, h2⟩
    refine ⟨j, by rw [S.len]; exact hj, (S.inc hj hb).2 h1, ?_⟩
    rcases h2 with h2 | ⟨i, hi, h3, h4, h5⟩
    · exact .inl h2
    · exact .inr ⟨i, by rw [S.len]; exact hi, (S.inc hi ha).2 h3, by rw [(S.one i hi).2.2]; exact h4, by rw [(S.one i hi).2.2, (S.one j hj).2.1]; exact h5⟩
theorem Sm.two (S : Sm z c d) {a b : Int} (ha : 0 ≤ a) (hb : 0 ≤ b) : Two' d (sg z a) (sg z b) ↔ Two' c a b := by
  unfold Two'
  rw [Ne, sg_inj S.nn ha hb, S.val ha, S.val hb, S.cnt ha, S.cnt hb, S.ah ha ha, S.ah ha hb, S.ah hb ha]
theorem Sm.of (S : Sm z c d) {v : Int} (h : Val d v) : ∃ w, 0 ≤ w ∧ v = sg z w := by
  rcases h with h | ⟨i, hi, h1, h2⟩
  · exact ⟨0, by omega, by rw [h]; rfl⟩
  · rw [S.len] at hi
    rw [(S.one i hi).1] at h1
    obtain ⟨g1, g2⟩ := S.arg i hi h1
    exact ⟨_, g1, by rw [← h2, g2]⟩
theorem Sm.nnv (S : Sm z c d) {v : Int} (h : Val c v) : 0 ≤ v := by
  rcases h with h | ⟨i, hi, h1, h2⟩
  · omega
  · have := (S.arg i hi h1).1; omega
theorem Sm.cross (S : Sm z c d) : (∃ a b, Cross d a b) ↔ ∃ a b, Cross c a b := by
  constructor
  · rintro ⟨a, b, h1, h2⟩
    obtain ⟨u, hu, rfl⟩ := S.of h1.2.1
    obtain ⟨w, hw, rfl⟩ := S.of h1.2.2.1
    exact ⟨u, w, (S.two hu hw).1 h1, (S.ah hw hw).1 h2⟩
  · rintro ⟨a, b, h1, h2⟩
    have hu := S.nnv h1.2.1
    have hw := S.nnv h1.2.2.1
    exact ⟨_, _, (S.two hu hw).2 h1, (S.ah hw hw).2 h2⟩
theorem Sm.inside (S : Sm z c d) : (∃ a b, Inside d a b) ↔ ∃ a b, Inside c a b := by
  constructor
  · rintro ⟨a, b, h1, h2⟩
    obtain ⟨u, hu, rfl⟩ := S.of h1.2.1
    obtain ⟨w, hw, rfl⟩ := S.of h1.2.2.1
    exact ⟨u, w, (S.two hu hw).1 h1, fun h => h2 ((S.ah hw hw).2 h)⟩
  · rintro ⟨a, b, h1, h2⟩
    have hu := S.nnv h1.2.1
    have hw := S.nnv h1.2.2.1
    exact ⟨_, _, (S.two hu hw).2 h1, fun h => h2 ((S.ah hw hw).1 h)⟩
theorem Sm.stray (S : Sm z c d) (i : Nat) : Stray d i ↔ Stray c i := by
  unfold Stray
  constructor
  · rintro ⟨hi, h1, h2⟩
    rw [S.len] at hi
    rw [S.rd hi] at h1
    obtain ⟨g1, g2⟩ := S.res i hi h1
    rw [g2, S.val g1] at h2
    exact ⟨hi, h1, h2⟩
  · rintro ⟨hi, h1, h2⟩
    obtain ⟨g1, g2⟩ := S.res i hi h1
    exact ⟨by rw [S.len]; exact hi, by rw [S.rd hi]; exact h1, by rw [g2, S.val g1]; exact h2⟩
theorem Sm.early (S : Sm z c d) (i j : Nat) : Early d i j ↔ Early c i j := by
  unfold Early
  constructor
  · rintro ⟨hi, hj, h1, h2, h3, h4⟩
    rw [S.len] at hi hj
    rw [S.rd hi] at h1
    rw [(S.one j hj).1] at h2
    obtain ⟨g1, g2⟩ := S.res i hi h1
    obtain ⟨f1, f2⟩ := S.arg j hj h2
    rw [g2, f2, sg_inj S.nn f1 g1] at h3
    rw [(S.one i hi).2.2, (S.one j hj).2.1] at h4
    exact ⟨hi, hj, h1, h2, h3, h4⟩
  · rintro ⟨hi, hj, h1, h2, h3, h4⟩
    obtain ⟨g1, g2⟩ := S.res i hi h1
    obtain ⟨f1, f2⟩ := S.arg j hj h2
    exact ⟨by rw [S.len]; exact hi, by rw [S.len]; exact hj, by rw [S.rd hi]; exact h1, by rw [(S.one j hj).1]; exact h2, by rw [g2, f2, h3], by rw [(S.one i hi).2.2, (S.one j hj).2.1]; exact h4⟩
/-- What is told, by what there is. -/
theorem Kd.is {r : Int × Int × Int} (h : Kd c r) : ((∃ i, Stray c i) ∧ r.1 = 1) ∨ ((¬ ∃ i, Stray c i) ∧ (((∃ i j, Early c i j) ∧ r.1 = 3) ∨ ((¬ ∃ i j, Early c i j) ∧ (((∃ a b, Cross c a b) ∧ r.1 = 4) ∨ ((¬ ∃ a b, Cross c a b) ∧ (((∃ a b, Inside c a b) ∧ r.1 = 5) ∨ ((¬ ∃ a b, Inside c a b) ∧ r.1 = 0))))))) := by
  rcases h with ⟨h, i, hi, _⟩ | ⟨n1, h⟩
  · exact .inl ⟨⟨i, hi⟩, h⟩
  refine .inr ⟨fun ⟨i, hi⟩ => n1 i hi, ?_⟩
  rcases h with ⟨h, i, j, hi, _⟩ | ⟨n2, h⟩
  · exact .inl ⟨⟨i, j, hi⟩, h⟩
  refine .inr ⟨fun ⟨i, j, hi⟩ => n2 i j hi, ?_⟩
  rcases h with ⟨h, ht⟩ | ⟨n3, h⟩
  · exact .inl ⟨⟨_, _, ht⟩, h⟩
  refine .inr ⟨fun ⟨i, j, hi⟩ => n3 i j hi, ?_⟩
  rcases h with ⟨h, ht⟩ | ⟨n4, h⟩
  · exact .inl ⟨⟨_, _, ht⟩, h⟩
  · exact .inr ⟨fun ⟨i, j, hi⟩ => n4 i j hi, by rw [h]⟩
theorem Sm.kd (S : Sm z c d) {r s : Int × Int × Int} (h : Kd c r) (h2 : Kd d s) : s.1 = r.1 := by
  have e1 : (∃ i, Stray d i) ↔ ∃ i, Stray c i := exists_congr fun i => S.stray i
  have e2 : (∃ i j, Early d i j) ↔ ∃ i j, Early c i j := exists_congr fun i => exists_congr fun j => S.early i j
  have k1 := h.is
  have k2 := h2.is
  rw [e1, e2, S.cross, S.inside] at k2
  generalize (∃ i, Stray c i) = p1 at k1 k2
  generalize (∃ i j, Early c i j) = p2 at k1 k2
  generalize (∃ a b, Cross c a b) = p3 at k1 k2
  generalize (∃ a b, Inside c a b) = p4 at k1 k2
  rcases k1 with ⟨a1, a2⟩ | ⟨a1, k1⟩ <;> rcases k2 with ⟨b1, b2⟩ | ⟨b1, k2⟩
  · rw [a2, b2]
  · exact (b1 a1).elim
  · exact (a1 b1).elim
  rcases k1 with ⟨a1, a2⟩ | ⟨a1, k1⟩ <;> rcases k2 with ⟨b1, b2⟩ | ⟨b1, k2⟩
  · rw [a2, b2]
  · exact (b1 a1).elim
  · exact (a1 b1).elim
  rcases k1 with ⟨a1, a2⟩ | ⟨a1, k1⟩ <;> rcases k2 with ⟨b1, b2⟩ | ⟨b1, k2⟩
  · rw [a2, b2]
  · exact (b1 a1).elim
  · exact (a1 b1).elim
  rcases k1 with ⟨a1, a2⟩ | ⟨a1, a2⟩ <;> rcases k2 with ⟨b1, b2⟩ | ⟨b1, b2⟩
  · rw [a2, b2]
  · exact (b1 a1).elim
  · exact (a1 b1).elim
  · rw [a2, b2]
end
theorem sm_of {N : Nat} {l m : List Event} {c d : List Call} {op oq : List Int} {z : Int} (hz : 0 ≤ z) (R : Rn N [1] l l.length c op) (R2 : Rn N [1] m m.length d oq) (C : Ch z l m (hit c c.length)) : Sm z c d := by
  have hml := C.len
  have Kc := kn_of R
  have W := R.wf
  have W2 := R2.wf
  rw [hml] at R2
  obtain ⟨_, h2, h3⟩ := rn_skel (n := l.length) (fun p hp => ⟨(C.all p hp).1, (C.all p hp).2.2.1⟩) R (Nat.le_refl _) R2
  refine ⟨hz, h2, h3, fun i hi h1 => ?_, fun i hi h1 => ?_⟩
  · have hp : 1 ≤ (c.getD i Call.z).arg := by
      have g := (Sr.rn_arg R i hi).1
      rw [h1] at g
      exact (Sr.arg_pos g).1
    have O := W.one i hi
    have O2 := W2.one i (by omega)
    have hfr := O.fr
    refine ⟨by omega, ?_⟩
    have e1 : (l.getD (c.getD i Call.z).from_.toNat Event.z).value = (c.getD i Call.z).arg := by rw [O.evf.1]
    have e2 : (m.getD (d.getD i Call.z).from_.toNat Event.z).value = (d.getD i Call.z).arg := by rw [O2.evf.1]
    rw [← e2, (h3 i hi).2.1, (C.all _ (by omega)).2.2.2.1 ⟨i, hi, .inl ⟨h1, by omega⟩⟩, e1]
    unfold sg; rw [if_neg (by omega)]
  · have hr := Kc.rres i hi h1
    obtain ⟨hk, ht⟩ := isRd_iff.1 h1
    have O := W.one i hi
    have O2 := W2.one i (by omega)
    have hto : (c.getD i Call.z).from_ < (c.getD i Call.z).to_ ∧ (c.getD i Call.z).to_ < l.length := by
      rcases O.to with ⟨g, _⟩ | g
      · exact (ht g).elim
      · exact g
    have hfr := O.fr
    refine ⟨hr.1, ?_⟩
    have e1 : (l.getD (c.getD i Call.z).to_.toNat Event.z).value = (c.getD i Call.z).res := by rw [O.evt ht]
    have e2 : (m.getD (d.getD i Call.z).to_.toNat Event.z).value = (d.getD i Call.z).res := by rw [O2.evt (by rw [(h3 i hi).2.2]; exact ht)]
    rw [← e2, (h3 i hi).2.2]
    unfold sg
    by_cases h0 : (c.getD i Call.z).res = 0
    · rw [if_pos h0, (C.all _ (by omega)).2.2.2.2, e1, h0]
      rintro ⟨j, hj, g | ⟨g1, g2, g3⟩⟩
      · exact Kc.ne i j hi hj ht (by rw [g.2]; omega)
      · have := Kc.nt i j hi hj ht (by rw [g3]; omega)
        subst this
        exact g2 h0
    · rw [if_neg h0, (C.all _ (by omega)).2.2.2.1 ⟨i, hi, .inr ⟨h1, h0, by omega⟩⟩, e1]
theorem names_loop {N : Nat} (hN : 300 < N) {l : List Event} {c : List Call} {op : List Int} {z : Int} (hz : 0 ≤ z) (hz2 : z ≤ 1000) (hl : l.length ≤ 200) (R : Rn N [1] l l.length c op) : Wp (iter (alibkeep_ZonesNames_L3 N (c, 0, 0) z) N (l, 0)) fun m => Ch z l m (hit c c.length) := by
  have Kc := kn_of R
  have W := R.wf
  have hcl := W.len
  refine .iter c.length (fun k st => Ch z l st.1 (hit c k) ∧ st.2 = (k : Int)) (by omega) ⟨⟨rfl, fun p hp => ⟨rfl, rfl, rfl, fun ⟨i, h, _⟩ => absurd h (Nat.not_lt_zero _), fun _ => rfl⟩⟩, rfl⟩ ?_ ?_
  · rintro k ⟨m, v⟩ hk ⟨C, hv⟩
    dsimp only at C hv
    subst hv
    simp only [alibkeep_ZonesNames_L3]
    refine .condT (decide_eq_true (by omega)) (.ixD Call.z (by omega) (by omega) ?_)
    simp only [Int.toNat_natCast]
    have O := W.one k hk
    have hfr := O.fr
    have hml := C.len
    have hs : ∀ p, hit c (k + 1) p ↔ hit c k p ∨ (((c.getD k Call.z).kind = 1 ∧ (c.getD k Call.z).from_ = p) ∨ (isRd (c.getD k Call.z) = true ∧ (c.getD k Call.z).res ≠ 0 ∧ (c.getD k Call.z).to_ = p)) := fun p => by
      constructor
      · rintro ⟨i, hi, h⟩
        rcases Nat.lt_or_ge i k with h2 | h2
        · exact .inl ⟨i, h2, h⟩
        · obtain rfl : i = k := by omega
          exact .inr h
      · rintro (⟨i, hi, h⟩ | h)
        · exact ⟨i, by omega, h⟩
        · exact ⟨k, by omega, h⟩
    by_cases h1 : (c.getD k Call.z).kind = 1
    · have hnr : isRd (c.getD k Call.z) = false := by unfold isRd; rw [h1]; rfl
      have ha : 1 ≤ (c.getD k Call.z).arg ∧ (c.getD k Call.z).arg ≤ 1000 := by
        have g := (Sr.rn_arg R k hk).1
        rw [h1] at g
        exact Sr.arg_pos g
      have hq : ¬ hit c k (c.getD k Call.z).from_.toNat := by
        rintro ⟨i, hi, g | ⟨g1, g2, g3⟩⟩
        · have := Kc.nf i k (by omega) hk (by rw [g.2]; omega)
          omega
        · exact Kc.ne i k (by omega) hk (isRd_iff.1 g1).2 (by rw [g3]; omega)
      have hval : (m.getD (c.getD k Call.z).from_.toNat Event.z).value = (c.getD k Call.z).arg := by
        rw [(C.all _ (by omega)).2.2.2.2 hq, O.evf.1]
      refine .seq (P := fun x => x = m.set (c.getD k Call.z).from_.toNat ⟨(m.getD (c.getD k Call.z).from_.toNat Event.z).who, (m.getD (c.getD k Call.z).from_.toNat Event.z).thing, (m.getD (c.getD k Call.z).from_.toNat Event.z).kind, (m.getD (c.getD k Call.z).from_.toNat Event.z).value + z⟩) (.condT (decide_eq_true h1) (.ixD Event.z (by omega) (by omega) (.ck64 (by rw [hval]; omega) (.one rfl)))) fun x _ hx => ?_
      subst hx
      refine .condF (by rw [decide_eq_false (p := (c.getD k Call.z).kind = 2) (by omega)]; rfl) (.ck64 (by omega) (.one ⟨(C.set (by omega) hq).congr fun p => ?_, by simp⟩))
      rw [hs, hnr]
      constructor
      · rintro (h | h)
        · exact .inl h
        · exact .inr (.inl ⟨h1, by omega⟩)
      · rintro (h | ⟨_, h⟩ | ⟨h, _⟩)
        · exact .inl h
        · exact .inr (by omega)
        · exact absurd h (by decide)
    · refine .seq (P := fun x => x = m) (.condF (decide_eq_false h1) (.one rfl)) fun x _ hx => ?_
      subst hx
      have hb : (decide ((c.getD k Call.z).kind = 2) && !decide ((c.getD k Call.z).to_ = -1)) = isRd (c.getD k Call.z) := rfl
      rw [hb]
      refine .cond (fun hg => ?_) fun hg => ?_
      · rw [Bool.and_eq_true, Bool.not_eq_true', decide_eq_false_iff_not] at hg
        obtain ⟨hr, h0⟩ := hg
        obtain ⟨hk2, ht⟩ := isRd_iff.1 hr
        have hto : (c.getD k Call.z).from_ < (c.getD k Call.z).to_ ∧ (c.getD k Call.z).to_ < l.length := by
          rcases O.to with ⟨g, _⟩ | g
          · exact (ht g).elim
          · exact g
        have hrr := Kc.rres k hk hr
        have hq : ¬ hit c k (c.getD k Call.z).to_.toNat := by
          rintro ⟨i, hi, g | ⟨g1, g2, g3⟩⟩
          · exact Kc.ne k i hk (by omega) ht (by rw [g.2]; omega)
          · have := Kc.nt k i hk (by omega) ht (by rw [g3]; omega)
            omega
        have hval : (x.getD (c.getD k Call.z).to_.toNat Event.z).value = (c.getD k Call.z).res := by
          rw [(C.all _ (by omega)).2.2.2.2 hq, O.evt ht]
        refine .ixD Event.z (by omega) (by omega) (.ck64 (by rw [hval]; omega) (.ck64 (by omega) (.one ⟨(C.set (by omega) hq).congr fun p => ?_, by simp⟩)))
        rw [hs]
        constructor
        · rintro (h | h)
          · exact .inl h
          · exact .inr (.inr ⟨hr, h0, by omega⟩)
        · rintro (h | ⟨h, _⟩ | ⟨_, _, h⟩)
          · exact .inl h
          · exact (h1 h).elim
          · exact .inr (by omega)
      · refine .ck64 (by omega) (.one ⟨C.congr fun p => ?_, by simp⟩)
        rw [hs]
        refine ⟨.inl, ?_⟩
        rintro (h | ⟨h, _⟩ | ⟨g1, g2, _⟩)
        · exact h
        · exact (h1 h).elim
        · rw [g1, decide_eq_false g2] at hg
          exact absurd hg (by decide)
  · rintro ⟨m, v⟩ ⟨C, hv⟩
    dsimp only at C hv
    subst hv
    simp only [alibkeep_ZonesNames_L3]
    exact .condF (decide_eq_false (by omega)) (.one C)
theorem namesLaw {N : Nat} (hN : 5000 < N) (hL : alibkeep_zonesLives N = some true) (l : List Event) (z : Int) : alibkeep_ZonesNames N l z = some true := by
  refine Wp.eq ?_
  unfold alibkeep_ZonesNames
  refine .seq (check_all (by omega) l) fun r _ hr => .bdO hL (.cond (fun _ => .bdO hL (.one rfl)) fun hg => ?_)
  simp only [Bool.or_eq_false_iff, Bool.not_true, Bool.not_eq_false', decide_eq_true_eq, decide_eq_false_iff_not] at hg
  obtain ⟨⟨⟨_, h0⟩, n0⟩, n1⟩ := hg
  rcases hr with ⟨h, _⟩ | ⟨_, ht, hl, c, op, R, D, h1, h2⟩
  · exact (h h0).elim
  refine .bdO (calls_of (by omega) ht hl R) (.ck (limB_of ⟨Nat.le_trans (m := 2000) (by omega) (by decide), by omega⟩) (.seq (names_loop (by omega) (by omega) (by omega) hl R) fun m _ C => .seq (check_all (by omega) m) fun s _ hs => .one ?_))
  rcases hs with ⟨h, _⟩ | ⟨_, _, hl2, d, oq, R2, D2, k1, k2⟩
  · simp [h]
  · have e := (sm_of (by omega) R R2 C).kd h2 k2
    have e : s.2.1 = r.2.1 := e
    rw [k1, h1, e]
    simp
end Zo

end Go.Proofs.Ytolneilkgjglkaa
