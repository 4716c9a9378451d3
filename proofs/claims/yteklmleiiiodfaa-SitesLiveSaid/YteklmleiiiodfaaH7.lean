/- Sites, plainly: letters come back. -/
import Derived.Test.YteklmleiiiodfaaH5b
set_option linter.unusedVariables false
set_option linter.unusedSimpArgs false
set_option linter.unusedSectionVars false
set_option maxRecDepth 100000
namespace Go.Proofs.Yteklmleiiiodfaa
open Go.RowKit
namespace Si
open Hs
section
variable {N : Nat} {fast : Bool} {np n : Nat} {m : M} {g : Gh}
/-- What may come of one who waits, or does not. -/
structure Grow (m m' : M) : Prop where
  pl : m'.people.length = m.people.length
  len : ∀ w, (m'.who w).program.length ≤ (m.who w).program.length
  les : ∀ w, (m.who w).pending = true → (m'.who w).pending = false → (m'.who w).program.length < (m.who w).program.length ∨ (m.who w).program.length = 0
theorem Grow.refl (m : M) : Grow m m := ⟨rfl, fun _ => Nat.le_refl _, fun w h h2 => by rw [h] at h2; cases h2⟩
theorem grow_next {w : Nat} (hw : w < m.people.length) : Grow m (Si.next fast m w) := by
  have rs : ∀ res, Grow m (respond m w res) := fun res => by
    have e : ∀ v, (respond m w res).who v = if v = w then doneP (m.who w) else m.who v := fun v => who_set hw
    refine ⟨by simp [respond], fun v => ?_, fun v h1 h2 => ?_⟩
    · rw [e]; split
      · rename_i h; subst h
        show ((m.who v).program.drop 1).length ≤ _
        rw [List.length_drop]; omega
      · exact Nat.le_refl _
    · rw [e] at h2 ⊢; split
      · rename_i h; subst h
        show ((m.who v).program.drop 1).length < _ ∨ _
        rw [List.length_drop]; omega
      · rename_i h; rw [if_neg h, h1] at h2; cases h2
  have st : ∀ t v, Grow m (start m w true t v) := fun t v => by
    have e : ∀ x, (start m w true t v).who x = if x = w then startP (m.who w) true t v else m.who x := fun x => who_set hw
    refine ⟨by simp [start], fun x => ?_, fun x h1 h2 => ?_⟩
    · rw [e]; split
      · rename_i h; subst h; exact Nat.le_refl _
      · exact Nat.le_refl _
    · rw [e] at h2
      split at h2
      · rename_i h; subst h
        have h2 : (m.who x).pending = false := h2
        rw [h1] at h2; cases h2
      · rw [h1] at h2; cases h2
  unfold Si.next
  split
  · exact Grow.refl m
  · split
    · exact rs _
    · split
      · exact rs _
      · split
        · exact st _ _
        · exact st _ _
theorem grow_back (z : Z N fast np n m g) (i : Int) : Grow m (back fast m i) := by
  rw [back_eq]
  split
  rotate_left
  · exact Grow.refl m
  rename_i hi
  have hj : i.toNat < m.letters.length := by omega
  generalize i.toNat = j at hj ⊢
  have hlt := z.lt j hj
  have hpl := z.pl
  split
  · exact Grow.refl m
  split
  · exact ⟨rfl, fun _ => Nat.le_refl _, fun w h h2 => by
      have h2 : (m.who w).pending = false := h2
      rw [h] at h2; cases h2⟩
  obtain ⟨w0, hw0⟩ : ∃ w0, (m.let_ j).who.toNat = w0 := ⟨_, rfl⟩
  rw [hw0]
  have hw0n : w0 < np := by omega
  have ew : ∀ v, (gotM m j).who v = if v = w0 then countP (m.who w0) (m.let_ j) else m.who v := fun v => by
    have : (gotM m j).people = m.people.set w0 (countP (m.who w0) (m.let_ j)) := by unfold gotM; rw [hw0]
    show (gotM m j).people.getD v SitesProcess.z = _
    rw [this]; exact who_set (by omega)
  obtain ⟨k1, k2, k3, k4, k5⟩ := countP_eq (m.who w0) (m.let_ j)
  have hpp : ∀ w, ((gotM m j).who w).program = (m.who w).program ∧ ((gotM m j).who w).pending = (m.who w).pending := fun w => by
    rw [ew]; split
    · rename_i h; subst h; exact ⟨k1, k2⟩
    · exact ⟨rfl, rfl⟩
  have hgl : (gotM m j).people.length = m.people.length := by simp [gotM]
  split
  · have G := grow_next (fast := fast) (m := gotM m j) (w := w0) (by omega)
    refine ⟨G.pl.trans hgl, fun w => by rw [← (hpp w).1]; exact G.len w, fun w h1 h2 => ?_⟩
    rw [← (hpp w).1]
    exact G.les w (by rw [(hpp w).2]; exact h1) h2
  · refine ⟨hgl, fun w => by rw [(hpp w).1]; exact Nat.le_refl _, fun w h1 h2 => ?_⟩
    rw [(hpp w).2, h1] at h2; cases h2
theorem hand_who (m : M) (i : Int) (w : Nat) : (hand m i).who w = m.who w ∧ (hand m i).people = m.people := by
  unfold hand
  split
  · split
    · exact ⟨rfl, rfl⟩
    · split
      · exact ⟨rfl, rfl⟩
      · split
        · exact ⟨rfl, rfl⟩
        · exact ⟨rfl, rfl⟩
  · exact ⟨rfl, rfl⟩
/-- One calls, if there is something to ask. -/
theorem call_who {w : Nat} (hw : w < m.people.length) : (∀ v, v ≠ w → (call m w).who v = m.who v) ∧ ((call m w).who w).program = (m.who w).program ∧ ((m.who w).program ≠ [] → ((call m w).who w).pending = true) ∧ ((m.who w).pending = true → ((call m w).who w).pending = true) ∧ (call m w).people.length = m.people.length ∧ (call m w).sites = m.sites := by
  unfold call
  cases hpr : (m.who w).program with
  | nil => exact ⟨fun _ _ => rfl, hpr, fun h => (h rfl).elim, id, rfl, rfl⟩
  | cons a rest =>
    simp only
    split
    · rename_i hp
      exact ⟨fun _ _ => rfl, hpr, fun _ => hp, id, rfl, rfl⟩
    · have hP : (start ⟨m.sites, m.people.set w (pendP (m.who w)), m.letters, m.events ++ [⟨w, 0, a.kind, a.arg⟩]⟩ w false ⟨0, 0⟩ 0) = ⟨m.sites, m.people.set w (startP (pendP (m.who w)) false ⟨0, 0⟩ 0), m.letters ++ batch m.sites.length w ((m.who w).round + 1) false ⟨0, 0⟩ 0, m.events ++ [⟨w, 0, a.kind, a.arg⟩]⟩ := by
        have e : M.who ⟨m.sites, m.people.set w (pendP (m.who w)), m.letters, m.events ++ [⟨w, 0, a.kind, a.arg⟩]⟩ w = pendP (m.who w) := by unfold M.who; simp [hw]
        unfold start
        rw [e]
        simp [List.set_set, pendP]
      rw [hP]
      have e : ∀ v, M.who ⟨m.sites, m.people.set w (startP (pendP (m.who w)) false ⟨0, 0⟩ 0), m.letters ++ batch m.sites.length w ((m.who w).round + 1) false ⟨0, 0⟩ 0, m.events ++ [⟨w, 0, a.kind, a.arg⟩]⟩ v = if v = w then startP (pendP (m.who w)) false ⟨0, 0⟩ 0 else m.who v := fun v => who_set hw
      refine ⟨fun v hv => by rw [e, if_neg hv], by rw [e, if_pos rfl]; exact hpr, fun _ => by rw [e, if_pos rfl]; rfl, fun _ => by rw [e, if_pos rfl]; rfl, by simp, rfl⟩
/-- Letters of the ones that are up came back, so far. -/
def Swept (np : Nat) (i : Nat) (m : M) : Prop := ∀ j, j < i → j < m.letters.length → ∀ w, w < np → (m.who w).pending = true → (m.let_ j).who = (w : Int) → (m.let_ j).round = (m.who w).round → (m.site (m.let_ j).site.toNat).down = false → (m.let_ j).received = true
/-- What came back, of the letter in hand. -/
structure Bk (j : Nat) (m m' : M) : Prop where
  sites : m'.sites = m.sites
  ll : m.letters.length ≤ m'.letters.length
  nw : m'.letters.length = m.letters.length ∨ j < m.letters.length
  lt : ∀ k, k < m.letters.length → (m'.let_ k).who = (m.let_ k).who ∧ (m'.let_ k).round = (m.let_ k).round ∧ (m'.let_ k).site = (m.let_ k).site ∧ ((m.let_ k).received = true → (m'.let_ k).received = true)
  pp : ∀ w, (m'.who w).pending = true → (m.who w).pending = true ∧ ((m'.who w).round = (m.who w).round ∨ (m.who w).round < (m'.who w).round)
  rc : j < m.letters.length → (m.let_ j).delivered = true → (m'.let_ j).received = true
theorem bk_next {w : Nat} (hw : w < m.people.length) {j : Nat} (hj : j < m.letters.length) (hr : (m.let_ j).received = true) : Bk j m (Si.next fast m w) := by
  have rs : ∀ res, Bk j m (respond m w res) := fun res => by
    have e : ∀ v, (respond m w res).who v = if v = w then doneP (m.who w) else m.who v := fun v => who_set hw
    refine ⟨rfl, Nat.le_refl _, .inr hj, fun k _ => ⟨rfl, rfl, rfl, id⟩, fun v h => ?_, fun _ _ => hr⟩
    rw [e] at h ⊢
    split at h
    · cases h
    · rename_i h2; rw [if_neg h2]; exact ⟨h, .inl rfl⟩
  have st : ∀ t v, Bk j m (start m w true t v) := fun t v => by
    have e : ∀ x, (start m w true t v).who x = if x = w then startP (m.who w) true t v else m.who x := fun x => who_set hw
    have el : ∀ k, k < m.letters.length → (start m w true t v).let_ k = m.let_ k := fun k hk => getDn_app' hk
    refine ⟨rfl, by simp [start], .inr hj, fun k hk => by rw [el k hk]; exact ⟨rfl, rfl, rfl, id⟩, fun x h => ?_, fun hj _ => by rw [el j hj]; exact hr⟩
    rw [e] at h ⊢
    by_cases h2 : x = w
    · subst h2
      rw [if_pos rfl] at h ⊢
      refine ⟨h, .inr ?_⟩
      show _ < (m.who x).round + 1
      omega
    · rw [if_neg h2] at h ⊢; exact ⟨h, .inl rfl⟩
  unfold Si.next
  split
  · exact ⟨rfl, Nat.le_refl _, .inr hj, fun k _ => ⟨rfl, rfl, rfl, id⟩, fun w h => ⟨h, .inl rfl⟩, fun _ _ => hr⟩
  · split
    · exact rs _
    · split
      · exact rs _
      · split
        · exact st _ _
        · exact st _ _
theorem bk_back (z : Z N fast np n m g) (j : Nat) : Bk j m (back fast m (j : Int)) := by
  rw [back_eq]
  by_cases hi : 0 ≤ (j : Int) ∧ (j : Int) < m.letters.length
  rotate_left
  · rw [if_neg hi]
    exact ⟨rfl, Nat.le_refl _, .inl rfl, fun k _ => ⟨rfl, rfl, rfl, id⟩, fun w h => ⟨h, .inl rfl⟩, fun h => by omega⟩
  rw [if_pos hi, Int.toNat_natCast]
  have hj : j < m.letters.length := by omega
  have hlt := z.lt j hj
  have hpl := z.pl
  have same : ∀ {P : List SitesProcess}, ∀ k, (M.let_ ⟨m.sites, P, m.letters.set j (got (m.let_ j)), m.events⟩ k) = if k = j then got (m.let_ j) else m.let_ k := fun k => let_set hj
  have lts : ∀ {P : List SitesProcess}, ∀ k, k < m.letters.length → (M.let_ ⟨m.sites, P, m.letters.set j (got (m.let_ j)), m.events⟩ k).who = (m.let_ k).who ∧ (M.let_ ⟨m.sites, P, m.letters.set j (got (m.let_ j)), m.events⟩ k).round = (m.let_ k).round ∧ (M.let_ ⟨m.sites, P, m.letters.set j (got (m.let_ j)), m.events⟩ k).site = (m.let_ k).site ∧ ((m.let_ k).received = true → (M.let_ ⟨m.sites, P, m.letters.set j (got (m.let_ j)), m.events⟩ k).received = true) := fun {P} k _ => by
    rw [same (P := P)]
    split
    · rename_i h; subst h; exact ⟨rfl, rfl, rfl, fun _ => rfl⟩
    · exact ⟨rfl, rfl, rfl, id⟩
  split
  · rename_i hd
    exact ⟨rfl, Nat.le_refl _, .inl rfl, fun k _ => ⟨rfl, rfl, rfl, id⟩, fun w h => ⟨h, .inl rfl⟩, fun _ h => hd.elim (fun e => by rw [h] at e; cases e) id⟩
  split
  · exact ⟨rfl, by simp, .inr hj, lts, fun w h => ⟨h, .inl rfl⟩, fun _ _ => by rw [same]; rw [if_pos rfl]; rfl⟩
  obtain ⟨w0, hw0⟩ : ∃ w0, (m.let_ j).who.toNat = w0 := ⟨_, rfl⟩
  rw [hw0]
  have hw0n : w0 < np := by omega
  have ew : ∀ v, (gotM m j).who v = if v = w0 then countP (m.who w0) (m.let_ j) else m.who v := fun v => by
    have : (gotM m j).people = m.people.set w0 (countP (m.who w0) (m.let_ j)) := by unfold gotM; rw [hw0]
    show (gotM m j).people.getD v SitesProcess.z = _
    rw [this]; exact who_set (by omega)
  obtain ⟨k1, k2, k3, k4, k5⟩ := countP_eq (m.who w0) (m.let_ j)
  have hgl : (gotM m j).people.length = m.people.length := by simp [gotM]
  have G : Bk j m (gotM m j) := by
    refine ⟨rfl, by simp [gotM], .inr hj, lts, fun w h => ?_, fun _ _ => by
      have e := same (P := (gotM m j).people) j
      rw [if_pos rfl] at e
      show ((gotM m j).let_ j).received = true
      exact congrArg (·.received) e⟩
    rw [ew] at h ⊢
    split at h
    · rename_i e; subst e; rw [if_pos rfl, k3]; rw [k2] at h; exact ⟨h, .inl rfl⟩
    · rename_i e; rw [if_neg e]; exact ⟨h, .inl rfl⟩
  split
  · have hrj : ((gotM m j).let_ j).received = true := by
      have e := same (P := (gotM m j).people) j
      rw [if_pos rfl] at e
      exact congrArg (·.received) e
    have G2 := bk_next (fast := fast) (m := gotM m j) (w := w0) (by omega) (j := j) (by simpa [gotM] using hj) hrj
    refine ⟨G2.sites.trans G.sites, Nat.le_trans G.ll G2.ll, .inr hj, fun k hk => ?_, fun w h => ?_, fun _ _ => (G2.lt j (by have := G.ll; omega)).2.2.2 hrj⟩
    · obtain ⟨a1, a2, a3, a4⟩ := G.lt k hk
      obtain ⟨b1, b2, b3, b4⟩ := G2.lt k (by have := G.ll; omega)
      exact ⟨b1.trans a1, b2.trans a2, b3.trans a3, fun h => b4 (a4 h)⟩
    · obtain ⟨a1, a2⟩ := G2.pp w h
      obtain ⟨b1, b2⟩ := G.pp w a1
      exact ⟨b1, by omega⟩
  · exact G
/-- What the one letter in hand does. -/
theorem hand_facts (m : M) (j : Nat) (hs : (m.let_ j).site.toNat < m.sites.length) : (hand m j).letters.length = m.letters.length ∧ (∀ k, ((hand m j).let_ k).who = (m.let_ k).who ∧ ((hand m j).let_ k).round = (m.let_ k).round ∧ ((hand m j).let_ k).site = (m.let_ k).site ∧ ((hand m j).let_ k).received = (m.let_ k).received) ∧ (∀ s, ((hand m j).site s).down = (m.site s).down) ∧ (j < m.letters.length → (m.site (m.let_ j).site.toNat).down = false → ((hand m j).let_ j).delivered = true) := by
  unfold hand
  by_cases hi : 0 ≤ (j : Int) ∧ (j : Int) < m.letters.length
  rotate_left
  · rw [if_neg hi]
    exact ⟨rfl, fun k => ⟨rfl, rfl, rfl, rfl⟩, fun s => rfl, fun h => by omega⟩
  rw [if_pos hi, Int.toNat_natCast]
  have hj : j < m.letters.length := by omega
  have same : ∀ {S : List Site} {t : SitesTag} {v : Int}, ∀ k, (M.let_ ⟨S, m.people, m.letters.set j (answered (m.let_ j) t v), m.events⟩ k) = if k = j then answered (m.let_ j) t v else m.let_ k := fun k => let_set hj
  have lts : ∀ {S : List Site} {t : SitesTag} {v : Int}, ∀ k, (M.let_ ⟨S, m.people, m.letters.set j (answered (m.let_ j) t v), m.events⟩ k).who = (m.let_ k).who ∧ (M.let_ ⟨S, m.people, m.letters.set j (answered (m.let_ j) t v), m.events⟩ k).round = (m.let_ k).round ∧ (M.let_ ⟨S, m.people, m.letters.set j (answered (m.let_ j) t v), m.events⟩ k).site = (m.let_ k).site ∧ (M.let_ ⟨S, m.people, m.letters.set j (answered (m.let_ j) t v), m.events⟩ k).received = (m.let_ k).received := fun {S t v} k => by
    rw [same (S := S)]
    split
    · rename_i h; subst h; exact ⟨rfl, rfl, rfl, rfl⟩
    · exact ⟨rfl, rfl, rfl, rfl⟩
  have dl : ∀ {S : List Site} {t : SitesTag} {v : Int}, (M.let_ ⟨S, m.people, m.letters.set j (answered (m.let_ j) t v), m.events⟩ j).delivered = true := fun {S t v} => by
    rw [same (S := S), if_pos rfl]; rfl
  split
  · rename_i hd
    refine ⟨rfl, fun k => ⟨rfl, rfl, rfl, rfl⟩, fun s => rfl, fun _ h => hd.elim id fun e => by rw [h] at e; cases e⟩
  split
  · exact ⟨by simp, lts, fun s => rfl, fun _ _ => dl⟩
  split
  · refine ⟨by simp, lts, fun s => ?_, fun _ _ => dl⟩
    have e : M.site ⟨m.sites.set (m.let_ j).site.toNat ⟨(m.let_ j).tag.stamp, (m.let_ j).tag.who, (m.let_ j).value, (m.site (m.let_ j).site.toNat).down⟩, m.people, m.letters.set j (answered (m.let_ j) (m.let_ j).tag (m.let_ j).value), m.events⟩ s = if s = (m.let_ j).site.toNat then ⟨(m.let_ j).tag.stamp, (m.let_ j).tag.who, (m.let_ j).value, (m.site (m.let_ j).site.toNat).down⟩ else m.site s := site_set hs
    rw [e]
    split
    · rename_i h; rw [h]
    · rfl
  · exact ⟨by simp, lts, fun s => rfl, fun _ _ => dl⟩
end
end Si

end Go.Proofs.Yteklmleiiiodfaa
