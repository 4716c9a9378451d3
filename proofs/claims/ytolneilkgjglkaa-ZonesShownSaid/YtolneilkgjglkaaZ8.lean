/- ZonesFront, plainly. -/
import Derived.Test.YtolneilkgjglkaaZ7
import Derived.Test.YtolneilkgjglkaaZ3
set_option linter.unusedVariables false
set_option linter.unusedSimpArgs false
set_option linter.unusedSectionVars false
set_option maxRecDepth 100000
namespace Go.Proofs.Ytolneilkgjglkaa
open Go.RowKit
namespace Sr
open Hs
/-- A begin's calls, and those of more. -/
structure Pre (n : Nat) (a b : List Call) : Prop where
  len : a.length ≤ b.length
  old : ∀ m, m < a.length → ((b.getD m Call.z).who = (a.getD m Call.z).who ∧ (b.getD m Call.z).thing = (a.getD m Call.z).thing ∧ (b.getD m Call.z).kind = (a.getD m Call.z).kind ∧ (b.getD m Call.z).arg = (a.getD m Call.z).arg ∧ (b.getD m Call.z).from_ = (a.getD m Call.z).from_) ∧ ((a.getD m Call.z).to_ ≠ -1 → b.getD m Call.z = a.getD m Call.z) ∧ ((a.getD m Call.z).to_ = -1 → (b.getD m Call.z).to_ = -1 ∨ (n : Int) ≤ (b.getD m Call.z).to_)
  new : ∀ m, a.length ≤ m → m < b.length → (n : Int) ≤ (b.getD m Call.z).from_
theorem Pre.refl (n : Nat) (a : List Call) : Pre n a a := ⟨Nat.le_refl _, fun m _ => ⟨⟨rfl, rfl, rfl, rfl, rfl⟩, fun _ => rfl, fun h => .inl h⟩, fun m h1 h2 => absurd h2 (by omega)⟩
theorem Pre.step {N : Nat} {types : List Int} {l : List Event} {n k : Nat} {a b b' : List Call} {op op' : List Int} {v : Event} (P : Pre n a b) (W : WF types l k b op) (hn : n ≤ k) (S : StpX N types b op (k : Int) v b' op') : Pre n a b' := by
  have hlen := P.len
  rcases S.how with ⟨_, _, _, _, rfl, _⟩ | ⟨_, m0, hm, hml, _, _, rfl, _⟩
  · refine ⟨by simp; omega, fun m hm => ?_, fun m h1 h2 => ?_⟩
    · rw [getD_app, if_pos (by omega)]
      exact P.old m hm
    · rw [getD_app]
      by_cases h : m < b.length
      · rw [if_pos h]; exact P.new m h1 h
      · rw [List.length_append, List.length_singleton] at h2
        rw [if_neg h, if_pos (by omega)]
        simp only [begC]; omega
  · have hpend : (b.getD m0 Call.z).to_ = -1 := by
      obtain ⟨h1, h2⟩ := S.who
      exact ((W.pen v.who.toNat (by omega)).2.2 m0 hm).2
    refine ⟨by rw [List.length_set]; exact hlen, fun m hm2 => ?_, fun m h1 h2 => ?_⟩
    · rw [getD_set2 hml]
      by_cases e : m = m0
      · subst e
        rw [if_pos rfl]
        obtain ⟨o1, o2, _⟩ := P.old m hm2
        have ht : (a.getD m Call.z).to_ = -1 := by
          apply Classical.byContradiction
          intro h
          have := o2 h
          rw [this] at hpend
          exact h hpend
        exact ⟨o1, fun h => (h ht).elim, fun _ => .inr (by simp only [endC]; omega)⟩
      · rw [if_neg e]; exact P.old m hm2
    · rw [List.length_set] at h2
      rw [getD_set2 hml]
      by_cases e : m = m0
      · subst e
        rw [if_pos rfl]
        exact P.new m h1 h2
      · rw [if_neg e]; exact P.new m h1 h2
theorem Rn.pre {N : Nat} {types : List Int} {l : List Event} {k : Nat} {out : List Call} {op : List Int} (R : Rn N types l k out op) : ∀ n, n ≤ k → ∃ a oa, Rn N types l n a oa ∧ Pre n a out := by
  induction R with
  | zero => exact fun n hn => ⟨[], [], by obtain rfl : n = 0 := by omega
                                          exact .zero, .refl n []⟩
  | @succ k out out' op op' R hk S ih =>
    intro n hn
    rcases Nat.lt_or_ge n (k + 1) with h | h
    · obtain ⟨a, oa, h1, h2⟩ := ih n (by omega)
      exact ⟨a, oa, h1, h2.step R.wf (by omega) S⟩
    · obtain rfl : n = k + 1 := by omega
      exact ⟨out', op', .succ R hk S, .refl _ _⟩
theorem Rn.take {N : Nat} {types : List Int} {l : List Event} {n m : Nat} {a : List Call} {oa : List Int} (R : Rn N types l n a oa) (h : n ≤ m) : Rn N types (l.take m) n a oa := by
  induction R with
  | zero => exact .zero
  | @succ k out out' op op' R hk S ih =>
    refine .succ (ih (by omega)) (by rw [List.length_take]; omega) ?_
    have e : (l.take m).getD k Event.z = l.getD k Event.z := by
      rw [List.getD_eq_getElem?_getD, List.getElem?_take, if_pos (by omega), ← List.getD_eq_getElem?_getD]
    rw [e]; exact S
end Sr

namespace Zo
open Hs
theorem tyF1 {k : Int} (h : tyF k = 1) : k = 1 ∨ k = 2 := by
  unfold tyF at h
  by_cases h1 : k = 1 ∨ k = 2
  · exact h1
  · rw [if_neg h1] at h
    exfalso
    revert h
    split
    · decide
    · split
      · decide
      · split
        · decide
        · split <;> decide
theorem kn_of {N : Nat} {l : List Event} {c : List Call} {op : List Int} {n : Nat} (R : Rn N [1] l n c op) : Kn c := by
  have W := R.wf
  have hk : ∀ i, i < c.length → (c.getD i Call.z).kind = 1 ∨ (c.getD i Call.z).kind = 2 := fun i hi => by
    have O := W.one i hi
    have hth := O.thing
    simp only [List.length_singleton] at hth
    have e : (c.getD i Call.z).thing.toNat = 0 := by omega
    have h2 := O.fit.2
    rw [e] at h2
    exact tyF1 h2
  refine ⟨hk, fun i hi h1 h2 => ?_, fun i hi h1 => ?_, fun i j hi hj h1 e => ?_, fun i j hi hj e => ?_, fun i j hi hj h1 e => ?_⟩
  · have := (Sr.rn_arg R i hi).2 h2
    rw [h1] at this
    have e : history_result N 1 (c.getD i Call.z).res = some (decide ((c.getD i Call.z).res = 0)) := rfl
    rw [e] at this
    simpa using this
  · have h2 := isRd_iff.1 h1
    have := (Sr.rn_arg R i hi).2 h2.2
    rw [h2.1] at this
    have e : history_result N 2 (c.getD i Call.z).res = some ((decide (0 ≤ (c.getD i Call.z).res)) && (decide ((c.getD i Call.z).res ≤ 1000))) := rfl
    rw [e] at this
    simpa using this
  · have h2 := (W.one i hi).evt h1
    have h3 := (W.one j hj).evf
    rw [e, h3.1] at h2
    have : (c.getD j Call.z).kind = 0 := congrArg (·.kind) h2
    exact h3.2 this
  · rcases Nat.lt_trichotomy i j with h | h | h
    · have := (W.two i j h hj).fr; omega
    · exact h
    · have := (W.two j i h hi).fr; omega
  · rcases Nat.lt_trichotomy i j with h | h | h
    · exact ((W.two i j h hj).to h1 e).elim
    · exact h
    · exact ((W.two j i h hi).to (by omega) e.symm).elim
section
variable {c : List Call}
/-- The value a call is of. -/
def vl (x : Call) : Int := if x.kind = 1 then x.arg else x.res
theorem vl_in {x : Call} (h : x.kind = 1 ∨ isRd x = true) : inC (vl x) x := by
  unfold vl inC
  by_cases h1 : x.kind = 1
  · rw [if_pos h1]; exact .inl ⟨h1, rfl⟩
  · rw [if_neg h1]; exact .inr ⟨h.resolve_left h1, rfl⟩
theorem in_vl {v : Int} {x : Call} (h : inC v x) : v = vl x := by
  unfold vl
  rcases h with ⟨a, b⟩ | ⟨a, b⟩
  · rw [if_pos a]; exact b.symm
  · rw [if_neg (by rw [(isRd_iff.1 a).1]; decide)]; exact b.symm
open Classical in
noncomputable def tgz (c : List Call) (i : Nat) : Bool := decide (isRd (c.getD i Call.z) = true ∨ ((c.getD i Call.z).kind = 1 ∧ Cnt c (c.getD i Call.z).arg))
open Classical in
/-- Where a value stands. -/
noncomputable def pz (K : List ZonesCluster) (v : Int) : Int := match K.find? (fun y => decide (y.value = v)) with
  | some y => min y.zone.first y.zone.last + 1
  | none => 0
theorem pz_eq {K : List ZonesCluster} (C : Cls c K) {y : ZonesCluster} (hy : y ∈ K) : pz K y.value = min y.zone.first y.zone.last + 1 := by
  unfold pz
  cases h : K.find? (fun x => decide (x.value = y.value)) with
  | none =>
    have := List.find?_eq_none.1 h y hy
    simp at this
  | some x =>
    have h1 := List.find?_some h
    have h2 := List.mem_of_find?_eq_some h
    have : x = y := nodup_inj C.nod x h2 y hy (of_decide_eq_true h1)
    rw [this]
open Classical in
/-- It may be: ranks. -/
theorem good_rk (W : Wc c) (D : Dist c) (N : Kn c) (G : Good c) : ∃ tg T, Rk c tg T := by
  obtain ⟨K, _, C⟩ := sorted_wp (N := 301) (by decide) W.few D W.pos
  have tg1 : ∀ i, i < c.length → tgz c i = true → inC (vl (c.getD i Call.z)) (c.getD i Call.z) ∧ Val c (vl (c.getD i Call.z)) ∧ Cnt c (vl (c.getD i Call.z)) := by
    intro i hi h
    unfold tgz at h
    rcases of_decide_eq_true h with h | ⟨h1, h2⟩
    · have hin := vl_in (x := c.getD i Call.z) (.inr h)
      have e : vl (c.getD i Call.z) = (c.getD i Call.z).res := by unfold vl; rw [if_neg (by rw [(isRd_iff.1 h).1]; decide)]
      exact ⟨hin, by rw [e]; exact G.stray i hi h, ⟨i, hi, hin, (isRd_iff.1 h).2⟩⟩
    · have e : vl (c.getD i Call.z) = (c.getD i Call.z).arg := by unfold vl; rw [if_pos h1]
      exact ⟨vl_in (.inl h1), by rw [e]; exact .inr ⟨i, hi, h1, rfl⟩, by rw [e]; exact h2⟩
  have dn : ∀ i, i < c.length → (c.getD i Call.z).to_ ≠ -1 → tgz c i = true := by
    intro i hi h
    unfold tgz
    refine decide_eq_true ?_
    rcases N.kind i hi with h1 | h1
    · exact .inr ⟨h1, i, hi, .inl ⟨h1, rfl⟩, h⟩
    · exact .inl (isRd_iff.2 ⟨h1, h⟩)
  -- where a value stands: at an event of its own
  have at_ : ∀ v, v ≠ 0 → Val c v → Cnt c v → (∃ i, i < c.length ∧ inC v (c.getD i Call.z) ∧ (c.getD i Call.z).to_ ≠ -1 ∧ pz K v = (c.getD i Call.z).to_ + 1) ∨ (∃ j, j < c.length ∧ inC v (c.getD j Call.z) ∧ pz K v = (c.getD j Call.z).from_ + 1) := by
    intro v h0 hv hc
    obtain ⟨y, hy, rfl⟩ := val_in C hv
    rw [pz_eq C hy]
    obtain ⟨l1, l2⟩ := last_at W D C hy
    obtain ⟨q, hq, hqi, _⟩ := hc
    have hql := l2 q hq hqi
    have hqf := W.fr q hq
    rcases Int.lt_or_le y.zone.first y.zone.last with h | h
    · left
      have hlu : y.zone.last < 200 := by
        rcases l1 with l1 | ⟨j, a, b, e⟩
        · omega
        · have := W.fr j a; omega
      have hf0 : 0 ≤ y.zone.first := by
        apply Classical.byContradiction
        intro hneg
        rcases (first_lt W D C hy (t := 0) (by omega) (by omega)).1 (by omega) with g | ⟨i, a, b, d, e⟩
        · exact h0 g
        · have := W.to i a d; have := W.fr i a; omega
      rcases (first_lt W D C hy (t := y.zone.first + 1) (by omega) (by omega)).1 (by omega) with g | ⟨i, a, b, d, e⟩
      · exact (h0 g).elim
      · refine ⟨i, a, b, d, ?_⟩
        have hti := W.to i a d
        have := (first_lt W D C hy (t := (c.getD i Call.z).to_ + 1) (by have := W.fr i a; omega) (by omega)).2 (.inr ⟨i, a, b, d, by omega⟩)
        rw [Int.min_eq_left (by omega)]; omega
    · right
      rcases l1 with l1 | ⟨j, a, b, e⟩
      · omega
      · exact ⟨j, a, b, by rw [Int.min_eq_right h, e]⟩
  have zero : Val c 0 → Cnt c 0 → pz K 0 = 0 := by
    intro hv hc
    obtain ⟨y, hy, e⟩ := val_in C hv
    rw [← e, pz_eq C hy]
    have h1 := (first_lt W D C hy (t := 0) (by omega) (by omega)).2 (.inl e)
    have h2 := first_ge W C hy
    obtain ⟨q, hq, hqi, _⟩ := hc
    have hql := (last_at W D C hy).2 q hq (by rw [e]; exact hqi)
    have hqf := W.fr q hq
    rw [Int.min_eq_left (by omega)]; omega
  -- who is ahead stands ahead
  have less : ∀ a b, a ≠ b → Val c a → Val c b → Cnt c a → Cnt c b → Ah c a b → pz K a < pz K b := by
    intro a b hab va vb ca cb hA
    obtain ⟨x, hx, rfl⟩ := val_in C va
    obtain ⟨y, hy, rfl⟩ := val_in C vb
    rw [pz_eq C hx, pz_eq C hy]
    have h1 := (ah_iff W D C hx hy).2 hA
    have h2 := ah_iff W D C hy hx
    have fx := ah_iff W D C hx hx
    have fy := ah_iff W D C hy hy
    have g1 := G.zone _ _ hab va vb ca cb
    have g2 := G.zone _ _ (Ne.symm hab) vb va cb ca
    rcases Int.lt_or_le x.zone.first x.zone.last with hfx | hfx
    · have hba : ¬ y.zone.first < x.zone.last := fun h => g1 (fx.1 hfx) ⟨hA, h2.1 h⟩
      rw [Int.min_eq_left (by omega)]
      rcases Int.lt_or_le y.zone.first y.zone.last with hfy | hfy
      · rw [Int.min_eq_left (by omega)]; omega
      · rw [Int.min_eq_right hfy]; omega
    · rw [Int.min_eq_right hfx]
      rcases Int.lt_or_le y.zone.first y.zone.last with hfy | hfy
      · have hba : ¬ y.zone.first < x.zone.last := fun h => g2 (fy.1 hfy) ⟨h2.1 h, hA⟩
        rw [Int.min_eq_left (by omega)]
        -- not the same event
        have hne : x.zone.last ≠ y.zone.first := by
          intro e
          obtain ⟨q, hq, hqi, _⟩ := ca
          have hql := (last_at W D C hx).2 q hq hqi
          have hqf := W.fr q hq
          rcases (last_at W D C hx).1 with l1 | ⟨j, a, b, ej⟩
          · omega
          · by_cases hy0 : y.value = 0
            · have := (first_lt W D C hy (t := 0) (by omega) (by omega)).2 (.inl hy0)
              omega
            · have hjf := W.fr j a
              rcases (first_lt W D C hy (t := y.zone.first + 1) (by omega) (by omega)).1 (by omega) with g | ⟨i, a2, b2, d2, e2⟩
              · exact hy0 g
              · have hti := W.to i a2 d2
                have := (first_lt W D C hy (t := (c.getD i Call.z).to_ + 1) (by have := W.fr i a2; omega) (by omega)).2 (.inr ⟨i, a2, b2, d2, by omega⟩)
                exact N.ne i j a2 a d2 (by omega)
        omega
      · rw [Int.min_eq_right hfy]; omega
  refine ⟨tgz c, fun i => pz K (vl (c.getD i Call.z)), dn, fun a b ha hb h1 h2 h3 => ?_, fun a b ha hb h1 h2 k1 k2 e => ?_, fun i hi h1 h2 => ?_, fun i hi h1 h2 => ?_⟩
  · obtain ⟨a1, a2, a3⟩ := tg1 a ha (dn a ha h1)
    obtain ⟨b1, b2, b3⟩ := tg1 b hb h3
    by_cases e : vl (c.getD a Call.z) = vl (c.getD b Call.z)
    · rw [e]
      refine ⟨Int.le_refl _, fun hk => ?_⟩
      exfalso
      have hto := W.to a ha h1
      have eb : vl (c.getD b Call.z) = (c.getD b Call.z).arg := by unfold vl; rw [if_pos hk]
      rcases N.kind a ha with ka | ka
      · have ea : vl (c.getD a Call.z) = (c.getD a Call.z).arg := by unfold vl; rw [if_pos ka]
        have : a = b := dist_eq D ha hb ka hk (by omega)
        subst this; omega
      · have ea : vl (c.getD a Call.z) = (c.getD a Call.z).res := by unfold vl; rw [if_neg (by omega)]
        exact G.early a b ha hb (isRd_iff.2 ⟨ka, h1⟩) hk (by omega) h2
    · have := less _ _ e a2 b2 a3 b3 ⟨b, hb, b1, .inr ⟨a, ha, a1, h1, h2⟩⟩
      exact ⟨by omega, fun _ => this⟩
  · obtain ⟨a1, a2, a3⟩ := tg1 a ha h1
    obtain ⟨b1, b2, b3⟩ := tg1 b hb h2
    have ea : vl (c.getD a Call.z) = (c.getD a Call.z).arg := by unfold vl; rw [if_pos k1]
    have eb : vl (c.getD b Call.z) = (c.getD b Call.z).arg := by unfold vl; rw [if_pos k2]
    have pa := W.pos a ha k1
    have pb := W.pos b hb k2
    have e : pz K (vl (c.getD a Call.z)) = pz K (vl (c.getD b Call.z)) := e
    have same : ∀ i, inC (vl (c.getD a Call.z)) (c.getD i Call.z) → inC (vl (c.getD b Call.z)) (c.getD i Call.z) → a = b := fun i g1 g2 => dist_eq D ha hb k1 k2 (by have := in_vl g1; have := in_vl g2; omega)
    rcases at_ _ (by omega) a2 a3 with ⟨i, i1, i2, i3, i4⟩ | ⟨i, i1, i2, i4⟩
    · rcases at_ _ (by omega) b2 b3 with ⟨j, j1, j2, j3, j4⟩ | ⟨j, j1, j2, j4⟩
      · have := N.nt i j i1 j1 i3 (by omega)
        subst this; exact same i i2 j2
      · exact (N.ne i j i1 j1 i3 (by omega)).elim
    · rcases at_ _ (by omega) b2 b3 with ⟨j, j1, j2, j3, j4⟩ | ⟨j, j1, j2, j4⟩
      · exact (N.ne j i j1 i1 j3 (by omega)).elim
      · have := N.nf i j i1 j1 (by omega)
        subst this; exact same i i2 j2
  · obtain ⟨a1, a2, a3⟩ := tg1 i hi h1
    have ei : vl (c.getD i Call.z) = (c.getD i Call.z).arg := by unfold vl; rw [if_pos h2]
    have := W.pos i hi h2
    refine ⟨?_, N.wres i hi h2⟩
    show 0 < pz K (vl (c.getD i Call.z))
    rcases at_ _ (by omega) a2 a3 with ⟨j, i1, i2, i3, i4⟩ | ⟨j, i1, i2, i4⟩
    · have := W.to j i1 i3; have := W.fr j i1; omega
    · have := W.fr j i1; omega
  · have hr : isRd (c.getD i Call.z) = true := rd_kind h2 (N.kind i hi) h1
    obtain ⟨a1, a2, a3⟩ := tg1 i hi (dn i hi h1)
    have ei : vl (c.getD i Call.z) = (c.getD i Call.z).res := by unfold vl; rw [if_neg h2]
    rcases G.stray i hi hr with h | ⟨k, k1, k2, k3⟩
    · left
      refine ⟨?_, h⟩
      show pz K (vl (c.getD i Call.z)) = 0
      rw [ei] at a2 a3 ⊢
      rw [h] at a2 a3 ⊢
      exact zero a2 a3
    · right
      have ek : vl (c.getD k Call.z) = (c.getD k Call.z).arg := by unfold vl; rw [if_pos k2]
      refine ⟨k, k1, ?_, k2, ?_, k3⟩
      · unfold tgz
        refine decide_eq_true (.inr ⟨k2, ?_⟩)
        rw [k3, ← ei]; exact a3
      · show pz K (vl (c.getD k Call.z)) = pz K (vl (c.getD i Call.z))
        rw [ek, ei, k3]
/-- Ranks of a begin. -/
theorem rk_pre {n : Nat} {a : List Call} (P : Sr.Pre n a c) (hto : ∀ i, i < a.length → (a.getD i Call.z).to_ ≠ -1 → (a.getD i Call.z).to_ < n) (N : Kn c) {tg : Nat → Bool} {T : Nat → Int} (K : Rk c tg T) : Rk a tg T := by
  have hl := P.len
  have hans : ∀ i, i < a.length → (a.getD i Call.z).to_ ≠ -1 → c.getD i Call.z = a.getD i Call.z := fun i hi h => (P.old i hi).2.1 h
  have hk : ∀ i, i < a.length → (c.getD i Call.z).kind = (a.getD i Call.z).kind ∧ (c.getD i Call.z).arg = (a.getD i Call.z).arg ∧ (c.getD i Call.z).from_ = (a.getD i Call.z).from_ := fun i hi => by
    obtain ⟨_, _, h1, h2, h3⟩ := (P.old i hi).1
    exact ⟨h1, h2, h3⟩
  refine ⟨fun i hi h => K.dn i (by omega) (by rw [hans i hi h]; exact h), fun x y hx hy h1 h2 h3 => ?_, fun x y hx hy h1 h2 k1 k2 => ?_, fun i hi h1 h2 => ?_, fun i hi h1 h2 => ?_⟩
  · have := K.ord x y (by omega) (by omega) (by rw [hans x hx h1]; exact h1) (by rw [hans x hx h1, (hk y hy).2.2]; exact h2) h3
    rwa [(hk y hy).1] at this
  · exact K.uni x y (by omega) (by omega) h1 h2 (by rw [(hk x hx).1]; exact k1) (by rw [(hk y hy).1]; exact k2)
  · obtain ⟨w1, w2⟩ := K.wr i (by omega) h1 (by rw [(hk i hi).1]; exact h2)
    refine ⟨w1, fun h => ?_⟩
    have e := hans i hi h
    rw [e] at w2
    exact w2 h
  · have e := hans i hi h1
    rcases K.rd i (by omega) (by rw [e]; exact h1) (by rw [e]; exact h2) with ⟨h3, h4⟩ | ⟨k, k1, k2, k3, k4, k5⟩
    · exact .inl ⟨h3, by rw [← e]; exact h4⟩
    · right
      have hka : k < a.length := by
        apply Classical.byContradiction
        intro h
        have hf := P.new k (by omega) k1
        have ht := hto i hi h1
        have := (K.ord i k (by omega) k1 (by rw [e]; exact h1) (by rw [e]; omega) k2).2 k3
        omega
      exact ⟨k, hka, k2, by rw [← (hk k hka).1]; exact k3, k4, by rw [← (hk k hka).2.1, ← e]; exact k5⟩
theorem dist_pre {n : Nat} {a : List Call} (P : Sr.Pre n a c) (D : Dist c) : Dist a := by
  intro i j hij hj h1 h2
  have hl := P.len
  obtain ⟨_, _, e1, e2, _⟩ := (P.old i (by omega)).1
  obtain ⟨_, _, e3, e4, _⟩ := (P.old j hj).1
  have := D i j hij (by omega) (by rw [e1]; exact h1) (by rw [e3]; exact h2)
  rwa [e2, e4] at this
end
theorem check_rn {N : Nat} (hN : 300 < N) (ht : history_Types N [1] = some 0) {l : List Event} {c : List Call} {op : List Int} (hl : l.length ≤ 200) (R : Rn N [1] l l.length c op) (D : Dist c) : Wp (zones_Check N l) fun r => r.2.2.2.2 = 0 ∧ r.1 = decide (r.2.1 = 0) ∧ Kd c (r.2.1, r.2.2.1, r.2.2.2.1) := by
  have hc := calls_of hN ht hl R
  obtain ⟨r, h1, h2⟩ := check_all hN l
  refine ⟨r, h1, ?_⟩
  rcases h2 with ⟨h3, _⟩ | ⟨h3, _, _, c', op', R', D', h4, h5⟩
  · exfalso
    unfold zones_Check at h1
    obtain ⟨q, q1, q2⟩ := calls_wp1 hN l hc (fun _ => by have := R.wf.len; omega)
    rcases q2 with ⟨q3, q4⟩ | ⟨q3, _, q5, _⟩
    · rcases q4 with q4 | ⟨_, _, q4⟩
      · exact q3 q4
      · exact q4 D
    · rw [q1, bd_some, q3] at h1
      have hd : (!decide ((0 : Int) = 0)) = false := rfl
      rw [hd, cond_false] at h1
      cases hcl : zones_clusters N q.1 with
      | none => rw [hcl] at h1; cases h1
      | some K =>
        rw [hcl, bd_some] at h1
        cases hrd : zones_reads N q.1 K with
        | none => rw [hrd] at h1; cases h1
        | some t =>
          rw [hrd, bd_some] at h1
          generalize (bif decide (t.1 = 0) then bd (zones_zonesOf N K) fun r19 => bd (zones_pairs N r19) fun r22 => some (r22.1, r22.2.1, r22.2.2) else some (t.1, t.2.1, t.2.2)) = m at h1
          cases m with
          | none => cases h1
          | some v =>
            obtain ⟨k1, k2, k3⟩ := v
            have h1 : some (decide (k1 = 0), k1, k2, k3, (0 : Int)) = some r := h1
            cases h1
            exact h3 rfl
  · have hc' := calls_of hN ht hl R'
    rw [hc] at hc'
    obtain rfl : c = c' := by cases hc'; rfl
    exact ⟨h3, h4, h5⟩
theorem lives : alibkeep_zonesLives 18446744073709551616 = some true := by kernel_rfl
theorem frontLaw {N : Nat} (hN : 5000 < N) (hL : alibkeep_zonesLives N = some true) (l : List Event) (n : Int) : alibkeep_ZonesFront N l n = some true := by
  refine Wp.eq ?_
  unfold alibkeep_ZonesFront
  refine .seq (check_all (by omega) l) fun r _ hr => .bdO hL (.cond (fun _ => .bdO hL (.one rfl)) fun hg => ?_)
  simp only [Bool.or_eq_false_iff, Bool.not_true, Bool.not_eq_false', decide_eq_true_eq, decide_eq_false_iff_not] at hg
  obtain ⟨⟨⟨⟨_, h0⟩, n0⟩, n1⟩, his⟩ := hg
  rcases hr with ⟨h, _⟩ | ⟨_, ht, hl, c, op, R, D, h1, h2⟩
  · exact (h h0).elim
  obtain ⟨m, rfl⟩ : ∃ q : Nat, n = q := ⟨n.toNat, by omega⟩
  refine .ck (by simp [slB]; omega) ?_
  rw [Int.toNat_natCast]
  have G := h2.good.1 (by rw [h1] at his; exact of_decide_eq_true his)
  have W := wc_of hl R
  have Kc := kn_of R
  obtain ⟨tg, T, K⟩ := good_rk W D Kc G
  obtain ⟨a, oa, Ra, P⟩ := Sr.Rn.pre R m (by omega)
  have Rt := Sr.Rn.take Ra (Nat.le_refl m)
  have hml : (l.take m).length = m := by rw [List.length_take]; omega
  have Rt : Rn N [1] (l.take m) (l.take m).length a oa := by rw [hml]; exact Rt
  have hto : ∀ i, i < a.length → (a.getD i Call.z).to_ ≠ -1 → (a.getD i Call.z).to_ < m := fun i hi h => by
    rcases (Ra.wf.one i hi).to with ⟨g, _⟩ | g
    · exact (h g).elim
    · exact g.2
  have Ka := rk_pre P hto Kc K
  have Da := dist_pre P D
  have hlm : (l.take m).length ≤ 200 := by omega
  have Wa := wc_of hlm Rt
  have Ga := rk_good Wa Da (kn_of Rt) Ka
  refine .seq (check_rn (by omega) ht hlm Rt Da) fun r2 _ ⟨q1, q2, q3⟩ => .one ?_
  rw [q1, q2, decide_eq_true (q3.good.2 Ga)]; rfl
end Zo

end Go.Proofs.Ytolneilkgjglkaa
