/- SitesGrow, plainly. -/
import Derived.Test.YteklmleiiiodfaaS9
import Derived.Test.YteklmleiiiodfaaS2
set_option linter.unusedVariables false
set_option linter.unusedSimpArgs false
set_option linter.unusedSectionVars false
set_option maxRecDepth 100000
namespace Go.Proofs.Yteklmleiiiodfaa
open Go.RowKit
namespace Si
theorem eqE_ok {N : Nat} {a b : List Event} (hN : b.length < N) (hb : b.length ≤ 1000000) (h : a = b) : slices_Equal_api_Event_api_Event N a b = some true := by
  subst h
  unfold slices_Equal_api_Event_api_Event
  refine Wp.eq (.condF (by simp) (.elim (P := fun t => match t with | .inl _ => True | .inr _ => False) (.iter a.length (fun k v => v = (k : Int)) (by omega) rfl ?_ ?_) (fun _ _ _ => .one rfl) (fun _ _ h => h.elim)))
  · rintro k v hk rfl
    simp only [slices_Equal_api_Event_api_Event_L3]
    exact .condT (decide_eq_true (by omega)) (.ix hk (.ix hk (.condF (by simp) (.ck64 (by omega) (.one (by simp))))))
  · rintro v rfl
    simp only [slices_Equal_api_Event_api_Event_L3]
    exact .condF (decide_eq_false (by omega)) (.one trivial)
/-- A site, later. -/
def Le (a b : Site) : Prop := (tlt ⟨a.stamp, a.who⟩ ⟨b.stamp, b.who⟩ ∧ a.down = false) ∨ (a.stamp = b.stamp ∧ a.who = b.who ∧ a.value = b.value ∧ (a.down = true → b.down = true))
theorem Le.refl (a : Site) : Le a a := .inr ⟨rfl, rfl, rfl, id⟩
theorem Le.trans {a b c : Site} (h : Le a b) (k : Le b c) : Le a c := by
  rcases h with ⟨h1, h2⟩ | ⟨h1, h2, h3, h4⟩
  · rcases k with ⟨k1, k2⟩ | ⟨k1, k2, k3, k4⟩
    · refine .inl ⟨?_, h2⟩
      unfold tlt at *; simp only at *; omega
    · refine .inl ⟨?_, h2⟩
      unfold tlt at *; simp only at *; omega
  · rcases k with ⟨k1, k2⟩ | ⟨k1, k2, k3, k4⟩
    · refine .inl ⟨?_, ?_⟩
      · unfold tlt at *; simp only at *; omega
      · cases hd : a.down with
        | false => rfl
        | true => rw [h4 hd] at k2; cases k2
    · exact .inr ⟨h1.trans k1, h2.trans k2, h3.trans k3, fun e => k4 (h4 e)⟩
theorem getD_set {α : Type} {l : List α} {i j : Nat} {v d : α} (h : i < l.length) : (l.set i v).getD j d = if j = i then v else l.getD j d := by
  simp only [List.getD_eq_getElem?_getD]
  by_cases e : j = i
  · subst e; rw [if_pos rfl]; simp [h]
  · rw [if_neg e, List.getElem?_set_ne (fun e2 => e e2.symm)]
theorem act_le {np n k : Nat} {m : M} (h : Inv np n k m) (fast : Bool) {a : Act} (hn : n ≤ 5) (hk : k ≤ 2500) (ha : OkA np n a) (i : Nat) : Le (m.site i) ((act fast m a).site i) := by
  unfold act
  by_cases c1 : a.kind = 1
  · rw [if_pos c1]
    have hb := ha.2.1 c1
    have := (call_ok (N := 301) (by decide) fast h hn (by omega) (w := a.a.toNat) (by omega)).2.2.1
    unfold M.site
    rw [this]
    exact Le.refl _
  rw [if_neg c1]
  by_cases c2 : a.kind = 2
  · rw [if_pos c2]
    unfold hand
    split
    rotate_left
    · exact Le.refl _
    rename_i hi
    split
    · exact Le.refl _
    rename_i hd
    split
    · exact Le.refl _
    split
    rotate_left
    · exact Le.refl _
    rename_i ht
    have hl := h.lt _ (mem_getD (d := SitesLetter.z) (show a.a.toNat < m.letters.length by omega))
    have hlj : m.letters.getD a.a.toNat SitesLetter.z = m.let_ a.a.toNat := rfl
    rw [hlj] at hl
    have hsl := h.sl
    show Le (m.site i) (List.getD (m.sites.set _ _) i Site.z)
    rw [getD_set (by omega)]
    split
    · rename_i e
      subst e
      refine .inl ⟨ht, ?_⟩
      cases hq : (m.site (m.let_ a.a.toNat).site.toNat).down with
      | false => rfl
      | true => exact (hd (.inr hq)).elim
    · exact Le.refl _
  rw [if_neg c2]
  by_cases c3 : a.kind = 3
  · rw [if_pos c3]
    have := (back_ok (N := 301) (by decide) fast h hn hk a.a).2.2.1
    unfold M.site
    rw [this]
    exact Le.refl _
  rw [if_neg c3]
  have hb := ha.four c1 c2 c3
  have hsl := h.sl
  show Le (m.site i) (List.getD (m.sites.set _ _) i Site.z)
  rw [getD_set (by omega)]
  split
  · rename_i e
    subst e
    exact .inr ⟨rfl, rfl, rfl, fun _ => rfl⟩
  · exact Le.refl _
theorem run_le {np n : Nat} (fast : Bool) (hn : n ≤ 5) (i : Nat) : ∀ {acts : List Act} {k : Nat} {m : M}, Inv np n k m → (∀ a ∈ acts, OkA np n a) → k + 2 * acts.length ≤ 2500 → Le (m.site i) ((run fast m acts).site i)
  | [], _, _, _, _, _ => Le.refl _
  | a :: acts, k, m, h, ha, hk => by
    have hk' : k + 2 * (acts.length + 1) ≤ 2500 := hk
    have g1 := (act_ok (N := 301) (by decide) fast h hn (by omega) (a := a) (ha a (.head _)).2.1 (ha a (.head _)).four).1
    exact (act_le h fast hn (by omega) (ha a (.head _)) i).trans (run_le fast hn i (acts := acts) g1 (fun x hx => ha x (.tail _ hx)) (by omega))
theorem growLaw {N : Nat} (hN : 5000 < N) (hL : alibkeep_sitesLives N = some true) (n : Int) (fast : Bool) (people : List (List Ask)) (acts : List Act) (k : Int) (hl : ∀ l ∈ people, l.length < N ∧ l.length ≤ 9223372036854775807) (ha : acts.length < N ∧ acts.length ≤ 9223372036854775807) : alibkeep_SitesGrow N n fast people acts k = some true := by
  obtain ⟨e0, h0, hp⟩ := play_all hN n fast hl
  obtain ⟨e, he, hP⟩ := hp acts ha.1 ha.2
  refine Wp.eq ?_
  unfold alibkeep_SitesGrow
  refine .bdO hP (.bdO hL (.cond (fun _ => .bdO hL (.one rfl)) fun hc => ?_))
  simp only [Bool.or_eq_false_iff, Bool.not_eq_false', decide_eq_true_eq, decide_eq_false_iff_not, Bool.not_true] at hc
  obtain ⟨⟨⟨_, hz⟩, hk0⟩, hk1⟩ := hc
  have e1 : e = 0 := by
    by_cases e1 : e = 0
    · exact e1
    · rw [if_neg e1] at hz; exact hz
  subst e1
  have e00 : e0 = 0 := by
    by_cases e00 : e0 = 0
    · exact e00
    · rw [if_pos e00] at he; omega
  subst e00
  obtain ⟨hn, h8, hok⟩ := h0 rfl
  rw [if_neg (by simp)] at he
  have hlen : acts.length ≤ 1000 := by
    by_cases hlen : acts.length ≤ 1000
    · exact hlen
    · rw [if_pos hlen] at he; omega
  rw [if_neg (by simpa using hlen)] at he
  have hact : ∀ a ∈ acts, OkA people.length n.toNat a := by
    by_cases hact : ∀ a ∈ acts, OkA people.length n.toNat a
    · exact hact
    · rw [if_neg hact] at he; omega
  rw [if_pos rfl]
  obtain ⟨k, rfl⟩ : ∃ q : Nat, k = q := ⟨k.toNat, by omega⟩
  refine .ck (by simp [slB]; omega) ?_
  rw [Int.toNat_natCast]
  obtain ⟨e', he', hP'⟩ := hp (acts.take k) (by simp; omega) (by simp; omega)
  have hact' : ∀ a ∈ acts.take k, OkA people.length n.toNat a := fun a h => hact a (List.mem_of_mem_take h)
  rw [if_neg (by simp), if_neg (by simp; omega), if_pos hact'] at he'
  subst he'
  rw [if_pos rfl] at hP'
  refine .bdO hP' ?_
  obtain ⟨g1, ev1, g2, g3⟩ := run_ok fast (by omega : n.toNat ≤ 5) (inv0 n.toNat people) (acts := acts.take k) hact' (by simp; omega)
  have hd : ∀ a ∈ acts.drop k, OkA people.length n.toNat a := fun a h => hact a (List.mem_of_mem_drop h)
  obtain ⟨g4, ev2, g5, g6⟩ := run_ok fast (by omega : n.toNat ≤ 5) g1 (acts := acts.drop k) hd (by simp; omega)
  have hle : ∀ i, Le ((run fast (m0 n.toNat people) (acts.take k)).site i) ((run fast (run fast (m0 n.toNat people) (acts.take k)) (acts.drop k)).site i) := fun i => run_le fast (by omega) i g1 hd (by simp; omega)
  rw [← run_app, List.take_append_drop] at g4 g5 hle
  generalize run fast (m0 n.toNat people) (acts.take k) = Y at *
  generalize run fast (m0 n.toNat people) acts = X at *
  have hy : Y.events.length ≤ 1000 := by
    have : Y.events.length = ev1.length := by rw [g2]; simp [m0]
    simp at g3; omega
  have hx : X.events.length = Y.events.length + ev2.length := by rw [g5, List.length_append]
  simp only [decide_true, Bool.not_true, Bool.false_or]
  have f1 : decide ((X.events.length : Int) < (Y.events.length : Int)) = false := decide_eq_false (by omega)
  rw [f1]
  have q1 : slices_Equal_api_Event_api_Event N (X.events.take ((Y.events.length : Int)).toNat) Y.events = some true := eqE_ok (by omega) (by omega) (by rw [Int.toNat_natCast, g5, List.take_left])
  rw [q1]
  refine .ck (by simp [slB]; omega) (.bdO (a := true) rfl ?_)
  have s1 := g1.sl
  have s2 := g4.sl
  refine .condF (by simp; omega) ?_
  refine .elim (P := fun t => match t with | .inl _ => True | .inr _ => False) (.iter X.sites.length (fun k v => v = (k : Int)) (by omega) rfl ?_ ?_) (fun _ _ _ => .one rfl) (fun _ _ h => h.elim)
  · rintro i v hi rfl
    simp only [alibkeep_SitesGrow_L3]
    refine .condT (decide_eq_true (by omega)) (.bdO (a := ((Y.site i).stamp, (Y.site i).who, (Y.site i).value, (Y.site i).down, (X.site i).stamp, (X.site i).who, (X.site i).value, (X.site i).down)) ?_ ?_)
    · rw [ixg Site.z (show i < Y.sites.length by omega), ixg Site.z hi]; rfl
    · have hL := hle i
      generalize Y.site i = a at hL ⊢
      generalize X.site i = b at hL ⊢
      refine .condF ?_ (.ck64 (by omega) (.one (by simp)))
      rcases hL with ⟨k1, k2⟩ | ⟨k1, k2, k3, k4⟩
      · unfold tlt at k1
        simp only at k1
        rw [k2]
        simp
        omega
      · rw [k1, k2, k3]
        cases hd : a.down with
        | false => simp
        | true => simp [k4 hd]
  · rintro v rfl
    simp only [alibkeep_SitesGrow_L3]
    exact .condF (decide_eq_false (by omega)) (.one trivial)
end Si

end Go.Proofs.Yteklmleiiiodfaa
