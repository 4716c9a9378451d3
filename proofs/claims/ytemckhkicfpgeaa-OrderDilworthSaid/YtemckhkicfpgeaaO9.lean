/- Dilworth, plainly. -/
import Derived.Test.YtemckhkicfpgeaaO8
set_option linter.unusedVariables false
set_option linter.unusedSimpArgs false
set_option linter.unusedSectionVars false
set_option maxRecDepth 100000
namespace Go.Proofs.Ytemckhkicfpgeaa
open Go.RowKit
namespace Rl
/-! DILWORTH's theorem, by GALVIN's proof. -/
def AC (q : Nat → Nat → Bool) (P l : List Nat) : Prop := l.Nodup ∧ (∀ x ∈ l, x ∈ P) ∧ ∀ x ∈ l, ∀ y ∈ l, q x y = false
theorem maxS (S : Nat → Prop) (b : Nat) (h0 : S 0) (hb : ∀ j, S j → j ≤ b) : ∃ k, S k ∧ ∀ j, S j → j ≤ k := by
  obtain ⟨i, h1, h2⟩ := leastBy S (fun j => b - j) b ⟨0, h0, by omega⟩
  exact ⟨i, h1, fun j hj => by have := h2 j hj; have := hb j hj; have := hb i h1; omega⟩
/-- One with nothing behind it. -/
theorem topmost {n : Nat} {q : Nat → Nat → Bool} (H : Acy n q) (S : Nat → Prop) (hS : ∃ x, S x) : ∃ x, S x ∧ ∀ y, S y → q x y = false := by
  obtain ⟨x0, hx0⟩ := hS
  obtain ⟨x, h1, h2⟩ := leastBy S (fun x => n - cnt n q x) _ ⟨x0, hx0, Nat.le_refl _⟩
  refine ⟨x, h1, fun y hy => ?_⟩
  cases hq : q x y with
  | false => rfl
  | true =>
    have := cnt_lt H hq
    have := h2 y hy
    have := cnt_le n q y
    omega
theorem hits {q : Nat → Nat → Bool} {P l : List Nat} {k : Nat} {g : Nat → Nat} (hg : ∀ x ∈ P, g x < k) (hc : ∀ x ∈ P, ∀ y ∈ P, g x = g y → x = y ∨ q x y = true ∨ q y x = true) (hl : AC q P l) (hk : l.length = k) {c : Nat} (hck : c < k) : ∃ y ∈ l, g y = c := by
  have hnd : (l.map g).Nodup := by
    unfold List.Nodup
    rw [List.pairwise_map]
    refine List.Pairwise.imp_of_mem (fun {a b} ha hb hab e => ?_) hl.1
    rcases hc a (hl.2.1 a ha) b (hl.2.1 b hb) e with h | h | h
    · exact hab h
    · rw [hl.2.2 a ha b hb] at h; cases h
    · rw [hl.2.2 b hb a ha] at h; cases h
  have := pig_all (l := l.map g) (n := k) hnd (fun x hx => by
    obtain ⟨y, hy, rfl⟩ := List.mem_map.1 hx
    exact hg y (hl.2.1 y hy)) (by simp [hk]) hck
  obtain ⟨y, hy, e⟩ := List.mem_map.1 this
  exact ⟨y, hy, e⟩
theorem dilworth {n : Nat} {q : Nat → Nat → Bool} (H : Acy n q) : ∀ (m : Nat) (P : List Nat) (W : Nat), P.length = m → P.Nodup → (∀ l, AC q P l → l.length ≤ W) → ∃ g : Nat → Nat, (∀ x ∈ P, g x < W) ∧ ∀ x ∈ P, ∀ y ∈ P, g x = g y → x = y ∨ q x y = true ∨ q y x = true := by
  intro m
  induction m using Nat.strongRecOn with
  | _ m ih =>
    intro P W hm hP hW
    by_cases hnil : P = []
    · subst hnil
      exact ⟨fun _ => 0, fun x hx => (List.not_mem_nil hx).elim, fun x hx => (List.not_mem_nil hx).elim⟩
    obtain ⟨a, haP, hamax⟩ := topmost H (fun x => x ∈ P) (by cases P with | nil => exact (hnil rfl).elim | cons b t => exact ⟨b, List.mem_cons_self ..⟩)
    have hP'len : (P.erase a).length + 1 = m := by rw [List.length_erase_of_mem haP]; have := List.length_pos_of_mem haP; omega
    have hP'nd : (P.erase a).Nodup := hP.erase a
    have hP'm : ∀ x, x ∈ P.erase a ↔ x ≠ a ∧ x ∈ P := fun x => hP.mem_erase_iff
    obtain ⟨k, ⟨l0, hl0, hl0k⟩, hkmax⟩ := maxS (fun j => ∃ l, AC q (P.erase a) l ∧ l.length = j) m ⟨[], ⟨List.nodup_nil, fun x h => (List.not_mem_nil h).elim, fun x h => (List.not_mem_nil h).elim⟩, rfl⟩ (fun j ⟨l, hl, e⟩ => by have := pig hl.1 hl.2.1; omega)
    have hk' : ∀ l, AC q (P.erase a) l → l.length ≤ k := fun l hl => hkmax _ ⟨l, hl, rfl⟩
    obtain ⟨g, hg1, hg2⟩ := ih (m - 1) (by omega) (P.erase a) k (by omega) hP'nd hk'
    have hkW : k ≤ W := by rw [← hl0k]; exact hW l0 ⟨hl0.1, fun x hx => ((hP'm x).1 (hl0.2.1 x hx)).2, hl0.2.2⟩
    by_cases hlt : k < W
    · -- a stands alone
      refine ⟨fun x => if x = a then k else g x, fun x hx => ?_, fun x hx y hy => ?_⟩
      · simp only
        split
        · exact hlt
        · rename_i e
          have := hg1 x ((hP'm x).2 ⟨e, hx⟩); omega
      · simp only
        by_cases e1 : x = a <;> by_cases e2 : y = a <;> simp only [e1, e2, if_true, if_false]
        · intro _; exact .inl trivial
        · intro h; have := hg1 y ((hP'm y).2 ⟨e2, hy⟩); omega
        · intro h; have := hg1 x ((hP'm x).2 ⟨e1, hx⟩); omega
        · exact hg2 x ((hP'm x).2 ⟨e1, hx⟩) y ((hP'm y).2 ⟨e2, hy⟩)
    · obtain rfl : k = W := by omega
      -- the topmost of each class that lies in a greatest one
      let Cand : Nat → Nat → Prop := fun c x => x ∈ P.erase a ∧ g x = c ∧ ∃ l, AC q (P.erase a) l ∧ l.length = k ∧ x ∈ l
      have hxf : ∀ c, ∃ x, c < k → Cand c x ∧ ∀ y, Cand c y → y = x ∨ q y x = true := by
        intro c
        by_cases hc : c < k
        · obtain ⟨y0, hy0, e0⟩ := hits hg1 hg2 hl0 hl0k hc
          obtain ⟨x, hx, hmax⟩ := topmost H (Cand c) ⟨y0, hl0.2.1 y0 hy0, e0, l0, hl0, hl0k, hy0⟩
          refine ⟨x, fun _ => ⟨hx, fun y hy => ?_⟩⟩
          rcases hg2 y hy.1 x hx.1 (hy.2.1.trans hx.2.1.symm) with h | h | h
          · exact .inl h
          · exact .inr h
          · rw [hmax y hy] at h; cases h
        · exact ⟨0, fun h => (hc h).elim⟩
      let xf : Nat → Nat := fun c => Classical.choose (hxf c)
      have xf1 : ∀ c, c < k → Cand c (xf c) ∧ ∀ y, Cand c y → y = xf c ∨ q y (xf c) = true := fun c hc => Classical.choose_spec (hxf c) hc
      have hac : ∀ i j, i < k → j < k → q (xf j) (xf i) = false := by
        intro i j hi hj
        cases hq : q (xf j) (xf i) with
        | false => rfl
        | true =>
          obtain ⟨⟨_, e1, l, hl, hlk, hxl⟩, _⟩ := xf1 i hi
          obtain ⟨y, hy, e2⟩ := hits hg1 hg2 hl hlk hj
          have h3 := (xf1 j hj).2 y ⟨hl.2.1 y hy, e2, l, hl, hlk, hy⟩
          have h4 : q y (xf i) = true := by
            rcases h3 with rfl | h3
            · exact hq
            · exact H.tr h3 hq
          rw [hl.2.2 y hy _ hxl] at h4; cases h4
      have hex : ∃ c, c < k ∧ q (xf c) a = true := by
        apply Classical.byContradiction
        intro hno
        have hno' : ∀ c, c < k → q (xf c) a = false := fun c hc => by
          cases h : q (xf c) a with
          | false => rfl
          | true => exact (hno ⟨c, hc, h⟩).elim
        have hmem : ∀ x, x ∈ (List.range k).map xf → ∃ c, c < k ∧ xf c = x := fun x hx => by
          obtain ⟨c, hc, e⟩ := List.mem_map.1 hx
          exact ⟨c, List.mem_range.1 hc, e⟩
        have hnd : ((List.range k).map xf).Nodup := by
          unfold List.Nodup
          rw [List.pairwise_map]
          refine List.Pairwise.imp_of_mem (fun {c d} hc hd hcd e => ?_) List.nodup_range
          have h1 := (xf1 c (List.mem_range.1 hc)).1.2.1
          have h2 := (xf1 d (List.mem_range.1 hd)).1.2.1
          rw [e] at h1
          exact hcd (h1.symm.trans h2)
        have hA : AC q P (a :: (List.range k).map xf) := by
          refine ⟨List.nodup_cons.2 ⟨fun h => ?_, hnd⟩, fun x hx => ?_, fun x hx y hy => ?_⟩
          · obtain ⟨c, hc, e⟩ := hmem a h
            have := ((hP'm (xf c)).1 (xf1 c hc).1.1).1
            exact this e
          · rcases List.mem_cons.1 hx with rfl | hx
            · exact haP
            · obtain ⟨c, hc, rfl⟩ := hmem x hx
              exact ((hP'm _).1 (xf1 c hc).1.1).2
          · rcases List.mem_cons.1 hx with rfl | hx <;> rcases List.mem_cons.1 hy with rfl | hy
            · exact H.irr _
            · obtain ⟨c, hc, rfl⟩ := hmem y hy
              exact hamax _ ((hP'm _).1 (xf1 c hc).1.1).2
            · obtain ⟨c, hc, rfl⟩ := hmem x hx
              exact hno' c hc
            · obtain ⟨c, hc, rfl⟩ := hmem x hx
              obtain ⟨d, hd, rfl⟩ := hmem y hy
              exact hac d c hd hc
        have := hW _ hA
        simp at this
        omega
      obtain ⟨c, hc, hqa⟩ := hex
      let K : Nat → Prop := fun x => x = a ∨ (g x = c ∧ (x = xf c ∨ q x (xf c) = true))
      have hKd : ∀ x, Decidable (K x) := fun x => Classical.propDecidable _
      let P2 := P.filter fun x => @decide (¬ K x) (Classical.propDecidable _)
      have hP2 : ∀ x, x ∈ P2 ↔ x ∈ P ∧ ¬ K x := fun x => by
        show x ∈ P.filter _ ↔ _
        rw [List.mem_filter]; simp
      have hP2len : P2.length < m := by
        have h1 : (a :: P2).Nodup := List.nodup_cons.2 ⟨fun h => ((hP2 a).1 h).2 (.inl rfl), hP.filter _⟩
        have := pig (l := a :: P2) (m := P) h1 fun x hx => by
          rcases List.mem_cons.1 hx with rfl | hx
          · exact haP
          · exact ((hP2 x).1 hx).1
        simp only [List.length_cons] at this; omega
      have hsub : ∀ x, x ∈ P2 → x ∈ P.erase a := fun x hx => (hP'm x).2 ⟨fun e => ((hP2 x).1 hx).2 (.inl e), ((hP2 x).1 hx).1⟩
      obtain ⟨g2, h1, h2⟩ := ih P2.length hP2len P2 (k - 1) rfl (hP.filter _) fun l hl => by
        have hl' : AC q (P.erase a) l := ⟨hl.1, fun x hx => hsub x (hl.2.1 x hx), hl.2.2⟩
        have h3 := hk' l hl'
        apply Classical.byContradiction
        intro h4
        obtain ⟨y, hy, e⟩ := hits hg1 hg2 hl' (by omega) hc
        have h5 := (xf1 c hc).2 y ⟨hl'.2.1 y hy, e, l, hl', by omega, hy⟩
        exact ((hP2 y).1 (hl.2.1 y hy)).2 (.inr ⟨e, h5⟩)
      refine ⟨fun x => @ite _ (K x) (Classical.propDecidable _) (k - 1) (g2 x), fun x hx => ?_, fun x hx y hy => ?_⟩
      · by_cases hK : K x
        · simp only [hK, if_true]; omega
        · simp only [hK, if_false]
          have := h1 x ((hP2 x).2 ⟨hx, hK⟩); omega
      · by_cases hKx : K x <;> by_cases hKy : K y <;> simp only [hKx, hKy, if_true, if_false]
        · intro _
          have below : ∀ z, z ∈ P → K z → z ≠ a → q z a = true ∧ z ∈ P.erase a ∧ g z = c := fun z hz hKz hza => by
            rcases hKz with h | ⟨h5, h6⟩
            · exact (hza h).elim
            · refine ⟨?_, (hP'm z).2 ⟨hza, hz⟩, h5⟩
              rcases h6 with rfl | h6
              · exact hqa
              · exact H.tr h6 hqa
          by_cases e1 : x = a <;> by_cases e2 : y = a
          · exact .inl (e1.trans e2.symm)
          · rw [e1]; exact .inr (.inr (below y hy hKy e2).1)
          · rw [e2]; exact .inr (.inl (below x hx hKx e1).1)
          · obtain ⟨_, b1, b2⟩ := below x hx hKx e1
            obtain ⟨_, b3, b4⟩ := below y hy hKy e2
            exact hg2 x b1 y b3 (b2.trans b4.symm)
        · intro h; have := h1 y ((hP2 y).2 ⟨hy, hKy⟩); omega
        · intro h; have := h1 x ((hP2 x).2 ⟨hx, hKx⟩); omega
        · exact h2 x ((hP2 x).2 ⟨hx, hKx⟩) y ((hP2 y).2 ⟨hy, hKy⟩)
end Rl

end Go.Proofs.Ytemckhkicfpgeaa
