/- What each reads; orders of people. -/
import Derived.Test.YtkmmagekepoapaaQ3
set_option linter.unusedVariables false
set_option linter.unusedSimpArgs false
set_option linter.unusedSectionVars false
set_option maxRecDepth 100000
namespace Go.Proofs.Ytkmmagekepoapaa
open Go.RowKit
namespace Se
open Rl
/-- A write of x. -/
def wr (l : List Deed) (x : Int) (i : Nat) : Bool := decide ((l.getD i Deed.z).kind = 1) && decide ((l.getD i Deed.z).item = x)
/-- The last write of x in a list that is told backwards. -/
def lastR (l : List Deed) (x : Int) : List Nat → Int
  | [] => -1
  | j :: r => if wr l x j = true then (j : Int) else lastR l x r
/-- What read i reads. -/
def srcR (l : List Deed) : List Nat → Nat → Int
  | [], _ => -1
  | j :: r, i => if i = j ∧ (l.getD j Deed.z).kind = 0 then lastR l (l.getD j Deed.z).item r else srcR l r i
def IsLast (P : Nat → Prop) (B : Nat → Nat → Prop) (v : Int) : Prop := (v = -1 ∧ ∀ j, ¬ P j) ∨ ∃ u : Nat, v = u ∧ P u ∧ ∀ j, P j → j = u ∨ B j u
theorem IsLast.cong {P P' : Nat → Prop} {B : Nat → Nat → Prop} {v : Int} (h : IsLast P B v) (hp : ∀ j, P j ↔ P' j) : IsLast P' B v := by
  rcases h with ⟨h1, h2⟩ | ⟨u, h1, h2, h3⟩
  · exact .inl ⟨h1, fun j hj => h2 j ((hp j).2 hj)⟩
  · exact .inr ⟨u, h1, (hp u).1 h2, fun j hj => h3 j ((hp j).2 hj)⟩
theorem IsLast.uniq {P P' : Nat → Prop} {B B' : Nat → Nat → Prop} {v v' : Int} (h : IsLast P B v) (h' : IsLast P' B' v') (hp : ∀ j, P j ↔ P' j) (hb : ∀ j u, P j → P u → (B' j u → B j u)) (ha : ∀ i j, B i j → B j i → False) : v = v' := by
  rcases h with ⟨h1, h2⟩ | ⟨u, h1, h2, h3⟩ <;> rcases h' with ⟨g1, g2⟩ | ⟨u', g1, g2, g3⟩
  · rw [h1, g1]
  · exact (h2 u' ((hp u').2 g2)).elim
  · exact (g2 u ((hp u).1 h2)).elim
  · have p' := (hp u').2 g2
    rcases h3 u' p' with e | e
    · rw [h1, g1, e]
    · rcases g3 u ((hp u).1 h2) with e2 | e2
      · rw [h1, g1, e2]
      · exact (ha _ _ e (hb u u' h2 p' e2)).elim
theorem lastR_is {l : List Deed} {x : Int} {B : Nat → Nat → Prop} : ∀ {r : List Nat}, r.Pairwise (fun a b => B b a) → IsLast (fun j => j ∈ r ∧ wr l x j = true) B (lastR l x r)
  | [], _ => .inl ⟨rfl, fun j h => by cases h.1⟩
  | j :: r, hr => by
    obtain ⟨h1, h2⟩ := List.pairwise_cons.1 hr
    simp only [lastR]
    by_cases hw : wr l x j = true
    · rw [if_pos hw]
      refine .inr ⟨j, rfl, ⟨List.mem_cons_self .., hw⟩, fun k hk => ?_⟩
      rcases List.mem_cons.1 hk.1 with e | e
      · exact .inl e
      · exact .inr (h1 k e)
    · rw [if_neg hw]
      refine (lastR_is h2).cong fun k => ⟨fun h => ⟨List.mem_cons_of_mem _ h.1, h.2⟩, fun h => ?_⟩
      rcases List.mem_cons.1 h.1 with e | e
      · exact (hw (e ▸ h.2)).elim
      · exact ⟨e, h.2⟩
theorem srcR_is {l : List Deed} {B : Nat → Nat → Prop} (hirr : ∀ i, ¬ B i i) (ha : ∀ i j, B i j → B j i → False) : ∀ {r : List Nat}, r.Pairwise (fun a b => B b a) → ∀ i, i ∈ r → (l.getD i Deed.z).kind = 0 → IsLast (fun j => j ∈ r ∧ wr l (l.getD i Deed.z).item j = true ∧ B j i) B (srcR l r i)
  | [], _, _, h, _ => by cases h
  | j :: r, hr, i, hi, hk => by
    obtain ⟨h1, h2⟩ := List.pairwise_cons.1 hr
    simp only [srcR]
    by_cases e : i = j
    · subst e
      rw [if_pos ⟨rfl, hk⟩]
      refine (lastR_is h2).cong fun k => ⟨fun h => ⟨List.mem_cons_of_mem _ h.1, h.2, h1 k h.1⟩, fun h => ?_⟩
      rcases List.mem_cons.1 h.1 with e2 | e2
      · subst e2; exact (hirr _ h.2.2).elim
      · exact ⟨e2, h.2.1⟩
    · rw [if_neg fun h => e h.1]
      have hi' : i ∈ r := by
        rcases List.mem_cons.1 hi with h | h
        · exact (e h).elim
        · exact h
      refine (srcR_is hirr ha h2 i hi' hk).cong fun k => ⟨fun h => ⟨List.mem_cons_of_mem _ h.1, h.2⟩, fun h => ?_⟩
      rcases List.mem_cons.1 h.1 with e2 | e2
      · subst e2; exact (ha _ _ h.2.2 (h1 i hi')).elim
      · exact ⟨e2, h.2⟩
theorem srcR_not {l : List Deed} : ∀ {r : List Nat} {i : Nat}, (l.getD i Deed.z).kind ≠ 0 → srcR l r i = -1
  | [], _, _ => rfl
  | j :: r, i, h => by
    simp only [srcR]
    rw [if_neg fun (e : i = j ∧ (l.getD j Deed.z).kind = 0) => h (by rw [e.1]; exact e.2)]
    exact srcR_not h
/-- Who does deed i. -/
def wh (l : List Deed) (i : Nat) : Nat := (l.getD i Deed.z).who.toNat
def blk (l : List Deed) (w : Nat) : List Nat := (List.range l.length).filter fun i => decide (wh l i = w)
/-- All deeds, one's behind the other's, told backwards; the people too. -/
def revS (l : List Deed) : List Nat → List Nat
  | [] => []
  | w :: L => (blk l w).reverse ++ revS l L
theorem mem_blk {l : List Deed} {w i : Nat} : i ∈ blk l w ↔ i < l.length ∧ wh l i = w := by simp [blk]
theorem mem_revS {l : List Deed} {i : Nat} : ∀ {L : List Nat}, i ∈ revS l L ↔ i < l.length ∧ wh l i ∈ L
  | [] => by simp [revS]
  | w :: L => by
    simp only [revS, List.mem_append, List.mem_reverse, mem_blk, mem_revS (L := L), List.mem_cons]
    constructor
    · rintro (⟨h1, h2⟩ | ⟨h1, h2⟩)
      · exact ⟨h1, .inl h2⟩
      · exact ⟨h1, .inr h2⟩
    · rintro ⟨h1, h2 | h2⟩
      · exact .inl ⟨h1, h2⟩
      · exact .inr ⟨h1, h2⟩
/-- Ahead, when people stand in an order. -/
def Bp (l : List Deed) (L : List Nat) (i j : Nat) : Prop := bef L (wh l i) (wh l j) = true ∨ (wh l i = wh l j ∧ i < j)
theorem Bp.irr {l : List Deed} {L : List Nat} (hn : L.Nodup) (i : Nat) : ¬ Bp l L i i := by
  rintro (h | h)
  · rw [bef_irr hn] at h; cases h
  · omega
theorem Bp.asy {l : List Deed} {L : List Nat} (hn : L.Nodup) (i j : Nat) (h1 : Bp l L i j) (h2 : Bp l L j i) : False := by
  rcases h1 with h1 | h1 <;> rcases h2 with h2 | h2
  · have := bef_tr hn h1 h2
    rw [bef_irr hn] at this; cases this
  · rw [h2.1, bef_irr hn] at h1; cases h1
  · rw [h1.1, bef_irr hn] at h2; cases h2
  · omega
theorem revS_pw {l : List Deed} : ∀ {L : List Nat}, L.Nodup → (revS l L).Pairwise (fun a b => Bp l L b a)
  | [], _ => List.Pairwise.nil
  | w :: L, hn => by
    obtain ⟨h1, h2⟩ := List.nodup_cons.1 hn
    simp only [revS]
    rw [List.pairwise_append]
    refine ⟨?_, (revS_pw h2).imp fun {a b} h => ?_, fun a ha b hb => ?_⟩
    · rw [List.pairwise_reverse]
      have : (blk l w).Pairwise (· < ·) := List.Pairwise.filter _ List.pairwise_lt_range
      refine this.imp_of_mem fun {a b} ha hb h => .inr ⟨?_, h⟩
      rw [(mem_blk.1 ha).2, (mem_blk.1 hb).2]
    · rcases h with h | h
      · exact .inl (by simp [bef, h])
      · exact .inr h
    · rw [List.mem_reverse, mem_blk] at ha
      rw [mem_revS] at hb
      exact .inl (by simp [bef, ha.2, hb.2])
theorem id_pw (n : Nat) : (List.range n).reverse.Pairwise (fun a b => b < a) := by
  rw [List.pairwise_reverse]; exact List.pairwise_lt_range
/-- All who fight do so as the people stand. -/
def Resp (l : List Deed) (L : List Nat) : Prop := ∀ p q, q < l.length → p < q → conf (l.getD p Deed.z) (l.getD q Deed.z) = true → bef L (wh l p) (wh l q) = true
def Full (L : List Nat) : Prop := L.Nodup ∧ ∀ j, j ∈ L ↔ j < 6
theorem conf_iff {a b : Deed} : conf a b = true ↔ a.who ≠ b.who ∧ a.item = b.item ∧ a.kind ≤ 1 ∧ b.kind ≤ 1 ∧ (a.kind = 1 ∨ b.kind = 1) := by
  unfold conf
  cases hb : ((((decide (a.who = b.who)) || (!(decide (a.item = b.item)))) || (decide (1 < a.kind))) || (decide (1 < b.kind))) with
  | true =>
    simp only [Bool.or_eq_true, decide_eq_true_eq, Bool.not_eq_true', decide_eq_false_iff_not] at hb
    simp only [cond_true, Bool.false_eq_true, false_iff]
    rintro ⟨h1, h2, h3, h4, h5⟩
    rcases hb with ((h | h) | h) | h
    · exact h1 h
    · exact h h2
    · omega
    · omega
  | false =>
    simp only [Bool.or_eq_false_iff, decide_eq_false_iff_not, Bool.not_eq_false', decide_eq_true_eq] at hb
    simp only [cond_false, Bool.or_eq_true, decide_eq_true_eq]
    exact ⟨fun h => ⟨hb.1.1.1, hb.1.1.2, by omega, by omega, h⟩, fun h => h.2.2.2.2⟩
theorem wh_lt {l : List Deed} (D : Dd l) {i : Nat} (hi : i < l.length) : wh l i < 6 ∧ (l.getD i Deed.z).who = (wh l i : Int) := by
  have := D.2 i hi
  unfold OkD at this
  unfold wh
  omega
/-- Of deeds on one item, one of them a write, the people's order and time agree. -/
theorem Resp.iff {l : List Deed} {L : List Nat} (D : Dd l) (F : Full L) (R : Resp l L) {i j : Nat} (hi : i < l.length) (hj : j < l.length) (hk : (l.getD i Deed.z).kind ≤ 1) (hk2 : (l.getD j Deed.z).kind ≤ 1) (hit : (l.getD i Deed.z).item = (l.getD j Deed.z).item) (hw : (l.getD i Deed.z).kind = 1 ∨ (l.getD j Deed.z).kind = 1) : Bp l L i j ↔ i < j := by
  have h1 := wh_lt D hi
  have h2 := wh_lt D hj
  by_cases e : wh l i = wh l j
  · constructor
    · rintro (h | h)
      · rw [e, bef_irr F.1] at h; cases h
      · exact h.2
    · exact fun h => .inr ⟨e, h⟩
  · have hne : (l.getD i Deed.z).who ≠ (l.getD j Deed.z).who := by omega
    constructor
    · rintro (h | h)
      · rcases Nat.lt_trichotomy i j with g | g | g
        · exact g
        · exact (e (by rw [g])).elim
        · have := R j i hi g (conf_iff.2 ⟨hne.symm, hit.symm, hk2, hk, hw.symm⟩)
          have := bef_tr F.1 h this
          rw [bef_irr F.1] at this; cases this
      · exact h.2
    · exact fun g => .inl (R i j hj g (conf_iff.2 ⟨hne, hit, hk, hk2, hw⟩))
theorem wr_iff {l : List Deed} {x : Int} {i : Nat} : wr l x i = true ↔ (l.getD i Deed.z).kind = 1 ∧ (l.getD i Deed.z).item = x := by simp [wr]
theorem resp_src {l : List Deed} {L : List Nat} (D : Dd l) (F : Full L) (R : Resp l L) : (∀ i, i < l.length → srcR l (revS l L) i = srcR l (List.range l.length).reverse i) ∧ ∀ x, lastR l x (revS l L) = lastR l x (List.range l.length).reverse := by
  have mem : ∀ i, i ∈ revS l L ↔ i ∈ (List.range l.length).reverse := fun i => by
    rw [mem_revS, List.mem_reverse, List.mem_range]
    exact ⟨fun h => h.1, fun h => ⟨h, (F.2 _).2 (wh_lt D h).1⟩⟩
  have lt : ∀ {i}, i ∈ (List.range l.length).reverse → i < l.length := fun h => List.mem_range.1 (List.mem_reverse.1 h)
  have ha := Bp.asy (l := l) F.1
  constructor
  · intro i hi
    by_cases hk : (l.getD i Deed.z).kind = 0
    · have hm : i ∈ (List.range l.length).reverse := List.mem_reverse.2 (List.mem_range.2 hi)
      have h1 := srcR_is (l := l) (B := Bp l L) (Bp.irr F.1) ha (revS_pw F.1) i ((mem i).2 hm) hk
      have h2 := srcR_is (l := l) (B := fun a b => a < b) (fun i => Nat.lt_irrefl i) (fun i j h1 h2 => by omega) (id_pw l.length) i hm hk
      refine h1.uniq h2 (fun j => ?_) (fun j u hj hu hb => ?_) ha
      · constructor
        · rintro ⟨g1, g2, g3⟩
          have g1 := (mem j).1 g1
          have g4 := wr_iff.1 g2
          exact ⟨g1, g2, (R.iff D F (lt g1) hi (by omega) (by omega) g4.2 (.inl g4.1)).1 g3⟩
        · rintro ⟨g1, g2, g3⟩
          have g4 := wr_iff.1 g2
          exact ⟨(mem j).2 g1, g2, (R.iff D F (lt g1) hi (by omega) (by omega) g4.2 (.inl g4.1)).2 g3⟩
      · have a := wr_iff.1 hj.2.1
        have b := wr_iff.1 hu.2.1
        exact (R.iff D F (lt ((mem j).1 hj.1)) (lt ((mem u).1 hu.1)) (by omega) (by omega) (by rw [a.2, b.2]) (.inl a.1)).2 hb
    · rw [srcR_not hk, srcR_not hk]
  · intro x
    have h1 := lastR_is (l := l) (x := x) (B := Bp l L) (revS_pw (l := l) F.1)
    have h2 := lastR_is (l := l) (x := x) (B := fun a b => a < b) (id_pw l.length)
    refine h1.uniq h2 (fun j => by rw [mem j]) (fun j u hj hu hb => ?_) ha
    have a := wr_iff.1 hj.2
    have b := wr_iff.1 hu.2
    exact (R.iff D F (lt ((mem j).1 hj.1)) (lt ((mem u).1 hu.1)) (by omega) (by omega) (by rw [a.2, b.2]) (.inl a.1)).2 hb
/-- Each writes only what they read ahead of it. -/
def NoBlind (l : List Deed) : Prop := ∀ k, k < l.length → (l.getD k Deed.z).kind = 1 → ∃ r, r < k ∧ (l.getD r Deed.z).who = (l.getD k Deed.z).who ∧ (l.getD r Deed.z).item = (l.getD k Deed.z).item ∧ (l.getD r Deed.z).kind = 0
/-- The first write of one on an item, and a read ahead of it. -/
theorem NoBlind.first {l : List Deed} (H : NoBlind l) {w : Nat} (hw : w < l.length) (hk : (l.getD w Deed.z).kind = 1) :
    ∃ r, r < w ∧ (l.getD r Deed.z).who = (l.getD w Deed.z).who ∧ (l.getD r Deed.z).item = (l.getD w Deed.z).item ∧ (l.getD r Deed.z).kind = 0 ∧ ∀ v, v < r → (l.getD v Deed.z).kind = 1 → (l.getD v Deed.z).item = (l.getD w Deed.z).item → (l.getD v Deed.z).who ≠ (l.getD w Deed.z).who := by
  induction w using Nat.strongRecOn with
  | ind w ih =>
    obtain ⟨r, h1, h2, h3, h4⟩ := H w hw hk
    by_cases hv : ∃ v, v < r ∧ (l.getD v Deed.z).kind = 1 ∧ (l.getD v Deed.z).item = (l.getD w Deed.z).item ∧ (l.getD v Deed.z).who = (l.getD w Deed.z).who
    · obtain ⟨v, g1, g2, g3, g4⟩ := hv
      obtain ⟨r', k1, k2, k3, k4, k5⟩ := ih v (by omega) (by omega) g2
      exact ⟨r', by omega, by rw [k2, g4], by rw [k3, g3], k4, fun u hu a b => by rw [← g4]; exact k5 u hu a (by rw [b, g3])⟩
    · exact ⟨r, h1, h2, h3, h4, fun v a b c d => hv ⟨v, a, b, c, d⟩⟩
theorem rank_ind {L : List Nat} (hn : L.Nodup) {P : Nat → Prop} (h : ∀ w, (∀ v, bef L v w = true → P v) → P w) : ∀ w, P w := by
  have key : ∀ (L : List Nat), L.Nodup → ∀ (Q : Nat → Prop), (∀ w, (∀ v, bef L v w = true → Q v) → Q w) → ∀ w, w ∈ L → Q w := by
    intro L
    induction L with
    | nil => intro _ Q _ w hw; cases hw
    | cons a L ih =>
      intro hn Q hQ w hw
      obtain ⟨h1, h2⟩ := List.nodup_cons.1 hn
      have inL : ∀ w, w ∈ L → Q w := fun w hw => ih h2 (fun w => w ∈ L → Q w) (fun w hv hw => hQ w fun v hb => by
        simp only [bef, Bool.or_eq_true, Bool.and_eq_true, decide_eq_true_eq] at hb
        rcases hb with ⟨e, _⟩ | hb
        · exact (h1 (e ▸ hw)).elim
        · exact hv v hb (bef_mem hb).1) w hw hw
      rcases List.mem_cons.1 hw with e | hw
      · refine hQ w fun v hb => ?_
        simp only [bef, Bool.or_eq_true, Bool.and_eq_true, decide_eq_true_eq] at hb
        rcases hb with ⟨_, hb⟩ | hb
        · exact inL v hb
        · exact inL v (bef_mem hb).1
      · exact inL w hw
  intro w
  by_cases hw : w ∈ L
  · exact key L hn P h w hw
  · exact h w fun v hb => (hw (bef_mem hb).2).elim
theorem src_resp {l : List Deed} {L : List Nat} (D : Dd l) (F : Full L) (H : NoBlind l) (hs : ∀ i, i < l.length → srcR l (revS l L) i = srcR l (List.range l.length).reverse i) : Resp l L := by
  have mem : ∀ i, i ∈ revS l L ↔ i < l.length := fun i => by
    rw [mem_revS]
    exact ⟨fun h => h.1, fun h => ⟨h, (F.2 _).2 (wh_lt D h).1⟩⟩
  have mem2 : ∀ i, i ∈ (List.range l.length).reverse ↔ i < l.length := fun i => by rw [List.mem_reverse, List.mem_range]
  have ha := Bp.asy (l := l) F.1
  -- what a read reads, by both orders
  have both : ∀ i, i < l.length → (l.getD i Deed.z).kind = 0 → ∀ v, v < l.length → wr l (l.getD i Deed.z).item v = true → (Bp l L v i ∨ v < i) → ∃ u, u < l.length ∧ wr l (l.getD i Deed.z).item u = true ∧ Bp l L u i ∧ u < i ∧ (Bp l L v i → v = u ∨ Bp l L v u) ∧ (v < i → v = u ∨ v < u) := by
    intro i hi hk v hv hwv hor
    have h1 := srcR_is (l := l) (B := Bp l L) (Bp.irr F.1) ha (revS_pw F.1) i ((mem i).2 hi) hk
    have h2 := srcR_is (l := l) (B := fun a b => a < b) (fun i => Nat.lt_irrefl i) (fun i j h1 h2 => by omega) (id_pw l.length) i ((mem2 i).2 hi) hk
    rw [hs i hi] at h1
    rcases h1 with ⟨a1, a2⟩ | ⟨u, a1, a2, a3⟩ <;> rcases h2 with ⟨b1, b2⟩ | ⟨u', b1, b2, b3⟩
    · rcases hor with h | h
      · exact (a2 v ⟨(mem v).2 hv, hwv, h⟩).elim
      · exact (b2 v ⟨(mem2 v).2 hv, hwv, h⟩).elim
    · omega
    · omega
    · obtain rfl : u = u' := by omega
      exact ⟨u, (mem u).1 a2.1, a2.2.1, a2.2.2, b2.2.2, fun h => a3 v ⟨(mem v).2 hv, hwv, h⟩, fun h => b3 v ⟨(mem2 v).2 hv, hwv, h⟩⟩
  -- writes
  have ww : ∀ W, ∀ v w, v < l.length → w < l.length → wh l w = W → wr l (l.getD w Deed.z).item v = true → (l.getD w Deed.z).kind = 1 → bef L (wh l v) (wh l w) = true → v < w := by
    refine rank_ind F.1 fun W ih => ?_
    intro v w hv hw hW hwv hk hb
    obtain ⟨r, h1, h2, h3, h4, h5⟩ := H.first hw hk
    have hrl : r < l.length := by omega
    have hr := wh_lt D hrl
    have hw2 := wh_lt D hw
    have hrw : wh l r = wh l w := by omega
    rw [← h3] at hwv
    obtain ⟨u, g1, g2, g3, g4, g5, g6⟩ := both r hrl h4 v hv hwv (.inl (.inl (by rw [hrw]; exact hb)))
    have g7 := wr_iff.1 g2
    have hub : bef L (wh l u) (wh l w) = true := by
      rcases g3 with g | g
      · rw [← hrw]; exact g
      · have hu := wh_lt D g1
        exact (h5 u g4 g7.1 (by rw [g7.2, h3]) (by omega)).elim
    rcases g5 (.inl (by rw [hrw]; exact hb)) with e | e
    · omega
    · rcases e with e | e
      · have := ih (wh l u) (hW ▸ hub) v u hv g1 rfl (by rw [g7.2]; exact hwv) g7.1 e
        omega
      · omega
  intro p q hq hpq hc
  obtain ⟨c1, c2, c3, c4, c5⟩ := conf_iff.1 hc
  have hp : p < l.length := by omega
  have dp := wh_lt D hp
  have dq := wh_lt D hq
  rcases bef_or ((F.2 _).2 dp.1) ((F.2 _).2 dq.1) (show wh l p ≠ wh l q by omega) with h | h
  · exact h
  · exfalso
    have okp := D.2 p hp
    have okq := D.2 q hq
    unfold OkD at okp okq
    by_cases kp : (l.getD p Deed.z).kind = 1
    · by_cases kq : (l.getD q Deed.z).kind = 1
      · have := ww _ q p hq hp rfl (wr_iff.2 ⟨kq, c2.symm⟩) kp h
        omega
      · -- p writes, q reads later, and stands ahead
        obtain ⟨u, g1, g2, g3, g4, g5, g6⟩ := both q hq (by omega) p hp (wr_iff.2 ⟨kp, c2⟩) (.inr hpq)
        have g7 := wr_iff.1 g2
        have hub : bef L (wh l u) (wh l p) = true := by
          rcases g3 with g | g
          · exact bef_tr F.1 g h
          · rw [g.1]; exact h
        have := ww _ u p g1 hp rfl (wr_iff.2 ⟨g7.1, by rw [g7.2, c2]⟩) kp hub
        rcases g6 hpq with e | e <;> omega
    · have kq : (l.getD q Deed.z).kind = 1 := by omega
      obtain ⟨u, g1, g2, g3, g4, g5, g6⟩ := both p hp (by omega) q hq (wr_iff.2 ⟨kq, c2.symm⟩) (.inl (.inl h))
      have g7 := wr_iff.1 g2
      rcases g5 (.inl h) with e | e
      · omega
      · rcases e with e | e
        · have := ww _ q u hq g1 rfl (wr_iff.2 ⟨kq, by rw [g7.2, c2]⟩) g7.1 e
          omega
        · omega
/-! All orders of six. -/
def permsL : Nat → List Nat → List (List Nat)
  | 0, _ => [[]]
  | n + 1, xs => xs.flatMap fun x => (permsL n (xs.erase x)).map (x :: ·)
theorem mem_permsL : ∀ (n : Nat) (xs l : List Nat), l.length = n → l.Nodup → (∀ a ∈ l, a ∈ xs) → l ∈ permsL n xs
  | 0, xs, l, h, _, _ => by simp [permsL, List.eq_nil_of_length_eq_zero h]
  | n + 1, xs, [], h, _, _ => by cases h
  | n + 1, xs, a :: l, h, hn, hs => by
    obtain ⟨h1, h2⟩ := List.nodup_cons.1 hn
    simp only [permsL, List.mem_flatMap, List.mem_map]
    exact ⟨a, hs a (List.mem_cons_self ..), l, mem_permsL n (xs.erase a) l (by simpa using h) h2 fun b hb => (List.mem_erase_of_ne fun (e : b = a) => h1 (e ▸ hb)).2 (hs b (List.mem_cons_of_mem _ hb)), rfl⟩
abbrev PL : List (List Nat) := permsL 6 [0, 1, 2, 3, 4, 5]
def ints_ (l : List Nat) : List Int := l.map fun (x : Nat) => (x : Int)
theorem pl_len : PL.length = 720 := by kernel_rfl
theorem pl_ok : (PL.all fun p => decide p.Nodup && decide (p.length = 6) && p.all fun x => decide (x < 6)) = true := by kernel_rfl
theorem pl_full {p : List Nat} (h : p ∈ PL) : p.length = 6 ∧ Full p.reverse := by
  have := List.all_eq_true.1 pl_ok p h
  simp only [Bool.and_eq_true, decide_eq_true_eq, List.all_eq_true] at this
  obtain ⟨⟨h1, h2⟩, h3⟩ := this
  refine ⟨h2, by unfold List.Nodup; rw [List.pairwise_reverse]; exact List.Pairwise.imp (fun h => Ne.symm h) h1, fun j => ?_⟩
  rw [List.mem_reverse]
  exact ⟨h3 j, fun hj => pig_all h1 h3 (by omega) hj⟩
end Se

end Go.Proofs.Ytkmmagekepoapaa
