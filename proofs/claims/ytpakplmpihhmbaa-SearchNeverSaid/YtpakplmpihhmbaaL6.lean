/- SearchFound, plainly. -/
import Derived.Test.YtpakplmpihhmbaaL5
import Derived.Test.YtpakplmpihhmbaaA6
set_option linter.unusedVariables false
set_option linter.unusedSimpArgs false
set_option linter.unusedSectionVars false
set_option maxRecDepth 100000
namespace Go.Proofs.Ytpakplmpihhmbaa
open Go.RowKit
namespace Sr
theorem ok_wp {N : Nat} {l : List Int} (hN : l.length < N) (hl : l.length ≤ 1000) : Wp (alibkeep_ok N l) fun r => r = true ↔ ∀ x ∈ l, x = 0 := by
  unfold alibkeep_ok
  refine .elim (P := fun t => match t with | .inl _ => ∀ x ∈ l, x = 0 | .inr r => r = false ∧ ∃ x ∈ l, x ≠ 0) (.iter l.length (fun k v => v = (k : Int) ∧ ∀ j, (h : j < l.length) → j < k → l[j] = 0) hN ⟨rfl, fun j _ h => absurd h (Nat.not_lt_zero _)⟩ ?_ ?_) (fun _ _ h => .one ⟨fun _ => h, fun _ => rfl⟩) (fun r _ h => .one ?_)
  · rintro k v hk ⟨rfl, hr⟩
    simp only [alibkeep_ok_L3]
    refine .condT (decide_eq_true (by omega)) (.ix hk (.cond (fun h => .one ⟨rfl, l[k], List.getElem_mem hk, by simpa using h⟩) (fun h => .ck64 (by omega) (.one ⟨by simp, fun j hj hjk => ?_⟩))))
    rcases Nat.lt_or_ge j k with h1 | h1
    · exact hr j hj h1
    · obtain rfl : j = k := by omega
      simpa using h
  · rintro v ⟨rfl, hr⟩
    simp only [alibkeep_ok_L3]
    refine .condF (decide_eq_false (by omega)) (.one fun x hx => ?_)
    obtain ⟨j, hj, rfl⟩ := List.mem_iff_getElem.1 hx
    exact hr j hj hj
  · have h : r = false ∧ ∃ x ∈ l, x ≠ 0 := h
    obtain ⟨rfl, x, hx, hn⟩ := h
    exact ⟨fun h => (by cases h), fun h => absurd (h x hx) hn⟩
end Sr
namespace Sr
open Rl Hs
theorem Pl.rng {types : List Int} {c : List Call} {q : Nat → Nat → Bool} : ∀ {t : List Step} {S : List (List Int)} {w : List Nat}, Pl types c q S w t → ∀ s ∈ t, 0 ≤ s.call ∧ s.call < c.length
  | [], _, _, _, s, hs => by cases hs
  | a :: t, S, w, ⟨i, n, h1, h2, _, _, _, _, h7⟩, s, hs => by
    rcases List.mem_cons.1 hs with rfl | hs
    · omega
    · exact Pl.rng h7 s hs
theorem compare_wp {N : Nat} (hN : 300 < N) {x w : List Step} (hx : x.length ≤ 12) (hw : w.length ≤ 12) (bx : ∀ s ∈ x, 0 ≤ s.call ∧ s.call < 100) (bw : ∀ s ∈ w, 0 ≤ s.call ∧ s.call < 100) (h : lex x w) : Wp (slices_CompareFunc_api_Step_api_Step_api_Step_api_Step N x w) fun r => r ≤ 0 := by
  unfold slices_CompareFunc_api_Step_api_Step_api_Step_api_Step
  refine .elim (P := fun t => match t with | .inl _ => True | .inr r => r ≤ 0) (.iter x.length (fun k v => v = (k : Int) ∧ lex (x.drop k) (w.drop k)) (by omega) ⟨rfl, h⟩ ?_ ?_) (fun _ _ _ => .cond (fun _ => .one (by decide)) fun _ => .one (by decide)) (fun r _ h => .one h)
  · rintro k v hk ⟨rfl, hl⟩
    simp only [slices_CompareFunc_api_Step_api_Step_api_Step_api_Step_L3]
    rw [List.drop_eq_getElem_cons hk] at hl
    have hkw : k < w.length := by
      rcases Nat.lt_or_ge k w.length with h | h
      · exact h
      · rw [List.drop_eq_nil_of_le h] at hl; exact hl.elim
    rw [List.drop_eq_getElem_cons hkw] at hl
    have b1 := bx x[k] (List.getElem_mem hk)
    have b2 := bw w[k] (List.getElem_mem hkw)
    have e : alibkeep_SearchFound_1 N x[k] w[k] = some () := by
      unfold alibkeep_SearchFound_1
      exact ck64 (by omega)
    refine .condT (decide_eq_true (by omega)) (.ix hk (.condF (decide_eq_false (by omega)) (.ix hkw (.bdO e ?_))))
    rcases hl with hl | ⟨h1, h2⟩
    · exact .condT (by simp; omega) (.one (by simp only; omega))
    · exact .condF (by simp; omega) (.ck64 (by omega) (.one ⟨by simp, h2⟩))
  · rintro v ⟨rfl, hl⟩
    simp only [slices_CompareFunc_api_Step_api_Step_api_Step_api_Step_L3]
    exact .condF (decide_eq_false (by omega)) (.one trivial)
theorem lives : alibkeep_searchLives 18446744073709551616 = some true := by kernel_rfl
theorem okd {N : Nat} {l : List Int} (hN : l.length < N) (hl : l.length ≤ 1000) : alibkeep_ok N l = some (decide (∀ e ∈ l, e = 0)) := by
  obtain ⟨o, h1, h2⟩ := ok_wp hN hl
  rw [h1]
  congr 1
  cases o with
  | true => exact (decide_eq_true (h2.1 rfl)).symm
  | false => exact (decide_eq_false fun h => by have := h2.2 h; cases this).symm
theorem Fnd.len {types : List Int} {c : List Call} {rel : Rel} {q : Nat → Nat → Bool} (X : Cx types c rel q) {x : List Step} {b : Bool} (h : Fnd types c q x b) : x.length ≤ c.length := by
  rcases h with ⟨_, h, _⟩ | ⟨_, rfl, _⟩
  · exact h.len X
  · simp
theorem cx9 {N : Nat} {types : List Int} {l : List Event} {c : List Call} (H : Hc N types l c) (hN : 300 < N) : ∃ rel, Cx types c rel (bfA c) := by
  have hf := H.few
  obtain ⟨a, _, ha⟩ := ahead_wp hN (c := c) (by omega)
  exact ⟨_, cx_of (n := a.1) H.his (by omega) ha.2.2⟩
theorem foundLaw {N : Nat} (hN : 5000 < N) (hL : alibkeep_searchLives N = some true) (types : List Int) (l : List Event) (w : List Step) (hw : w.length < N) : alibkeep_SearchFound N types l w = some true := by
  refine Wp.eq ?_
  unfold alibkeep_SearchFound
  obtain ⟨⟨c, e⟩, hc, hcs⟩ := calls9_wp (N := N) (by omega) types l
  have HH : e = 0 → Hc N types l c := fun h => by
    rcases hcs with ⟨_, H, _⟩ | ⟨h2, _⟩
    · exact H
    · exact (h2 h).elim
  refine .seq (find_wp (by omega) hc) fun r _ ⟨f1, f2, f3⟩ => ?_
  have hx : r.1.length ≤ 12 := by
    by_cases h0 : e = 0
    · obtain ⟨rel, X⟩ := cx9 (HH h0) (by omega)
      have := (f3 h0 (HH h0)).len X
      have := X.cl
      omega
    · rw [(f2 h0).1]; simp
  refine .seq (right_wp (by omega) hc (w := r.1) (by omega)) fun r2 _ ⟨g1, g2, g3⟩ => .seq (right_wp (by omega) hc hw) fun r3 _ ⟨k1, k2, k3⟩ => ?_
  rw [f1, g1, k1]
  refine .seq (P := fun v => v = decide (e ≠ 0)) (.bdO hL (.condT rfl (.bdO (okd (by simp; omega) (by simp)) (.one ?_)))) fun v _ hv => ?_
  · by_cases h : e = 0
    · subst h; rfl
    · have h1 : decide (∀ x ∈ [e, e, e], x = 0) = false := decide_eq_false fun hh => h (hh e (.head _))
      rw [h1, decide_eq_true h]; rfl
  · subst hv
    by_cases h0 : e = 0
    · refine .condF (by simp [h0]) ?_
      have H := HH h0
      obtain ⟨rel, X⟩ := cx9 H (by omega)
      have hF := f3 h0 H
      have hR := g3 h0 H
      have hW := k3 h0 H
      have hcl := X.cl
      rcases hF with ⟨b1, gd, hlex⟩ | ⟨b1, b2, hno⟩
      · have e2 : r2.1 = true := hR.2 gd
        rw [b1, e2]
        refine .condF rfl ?_
        cases h3 : r3.1 with
        | false => exact .bdO (a := 0) rfl (.one rfl)
        | true =>
          have gw := hW.1 h3
          have hwl := gw.len X
          refine .seq (P := fun r => r ≤ 0) (.condT rfl (compare_wp (by omega) hx (by omega) (fun s hs => ?_) (fun s hs => ?_) (hlex w gw))) fun r _ hr => .one (by simpa using hr)
          · have := gd.1.rng s hs; omega
          · have := gw.1.rng s hs; omega
      · have e3 : r3.1 = false := by
          cases h3 : r3.1 with
          | false => rfl
          | true => exact (hno w (hW.1 h3)).elim
        rw [b1, b2, e3]
        exact .condF rfl (.bdO (a := 0) rfl (.one rfl))
    · refine .condT (decide_eq_true h0) (.bdO hL (.one ?_))
      obtain ⟨h1, h2⟩ := f2 h0
      rw [h1, h2]
      simp
end Sr

end Go.Proofs.Ytpakplmpihhmbaa
