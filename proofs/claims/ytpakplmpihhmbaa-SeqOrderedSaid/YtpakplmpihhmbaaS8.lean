/- SeqWeaker, SeqCalm, plainly. -/
import Derived.Test.YtpakplmpihhmbaaS7
set_option linter.unusedVariables false
set_option linter.unusedSimpArgs false
set_option linter.unusedSectionVars false
set_option maxRecDepth 100000
namespace Go.Proofs.Ytpakplmpihhmbaa
open Go.RowKit
namespace Sr
open Rl Hs
theorem weakLaw {N : Nat} (hN : 5000 < N) (hL : alibkeep_seqLives N = some true) (types : List Int) (l : List Event) : alibkeep_SeqWeaker N types l = some true := by
  refine Wp.eq ?_
  unfold alibkeep_SeqWeaker
  obtain ⟨⟨c, e⟩, hc, hcs⟩ := calls9_wp (N := N) (by omega) types l
  refine .seq (find_wp (by omega) hc) fun r _ ⟨f1, f2, f3⟩ => .seq (sfind_wp (by omega) hc) fun r2 _ ⟨g1, _, g3⟩ => .seq (quiet_wp (by omega) hc) fun r3 _ ⟨k1, _, k3⟩ => ?_
  have hx : r.1.length ≤ 12 := by
    rcases hcs with ⟨h0, H, _⟩ | ⟨h0, _⟩
    · obtain ⟨rel, X⟩ := cx9 H (by omega)
      have hcl := X.cl
      rcases f3 h0 H with ⟨_, g, _⟩ | ⟨_, h, _⟩
      · have := g.len X
        omega
      · rw [h]; simp
    · rw [(f2 h0).1]; simp
  refine .seq (sright_wp (by omega) hc (w := r.1) (by omega)) fun r4 _ ⟨n1, _, n3⟩ => ?_
  rw [f1, g1, k1, n1]
  refine .seq (P := fun v => v = decide (e ≠ 0)) (.bdO hL (.condT rfl (.bdO (okd (by simp; omega) (by simp)) (.one ?_)))) fun v _ hv => ?_
  · by_cases h : e = 0
    · subst h; rfl
    · have h1 : decide (∀ x ∈ [e, e, e, e], x = 0) = false := decide_eq_false fun hh => h (hh e (.head _))
      rw [h1, decide_eq_true h]; rfl
  · subst hv
    by_cases h0 : e = 0
    · refine .condF (by simp [h0]) (.one ?_)
      rcases hcs with ⟨_, H, hcalls⟩ | ⟨h2, _⟩
      · obtain ⟨t1, t2, op, R⟩ := rn_of (by omega) hcalls
        rcases f3 h0 H with ⟨b1, g, _⟩ | ⟨b1, _⟩
        · have e2 := (g3 h0 H).iff.2 ⟨_, g.mono fun i j => prS_bf R.wf⟩
          have e3 := (k3 h0 H).iff.2 ⟨_, g.mono fun i j => caE_bf (rn_ep R)⟩
          have e4 := (n3 h0 H).2 (g.mono fun i j => prS_bf R.wf)
          rw [b1, e2, e3, e4]; rfl
        · rw [b1]; rfl
      · exact (h2 h0).elim
    · exact .condT (by simp [h0]) (.bdO hL (.one (by simp)))
theorem calmLaw {N : Nat} (hN : 5000 < N) (hL : alibkeep_seqLives N = some true) (types : List Int) (l : List Event) : alibkeep_SeqCalm N types l = some true := by
  refine Wp.eq ?_
  unfold alibkeep_SeqCalm
  obtain ⟨⟨c, e⟩, hc, hcs⟩ := calls9_wp (N := N) (by omega) types l
  refine .seq (find_wp (by omega) hc) fun r _ ⟨f1, f2, f3⟩ => .seq (quiet_wp (by omega) hc) fun r3 _ ⟨k1, _, k3⟩ => .seq (calm_wp (by omega) hc) fun r4 _ ⟨n1, n2⟩ => ?_
  rw [f1, k1, n1]
  refine .seq (P := fun v => v = decide (e ≠ 0)) (.bdO hL (.condT rfl (.bdO (okd (by simp; omega) (by simp)) (.one ?_)))) fun v _ hv => ?_
  · by_cases h : e = 0
    · subst h; rfl
    · have h1 : decide (∀ x ∈ [e, e, e], x = 0) = false := decide_eq_false fun hh => h (hh e (.head _))
      rw [h1, decide_eq_true h]; rfl
  · subst hv
    by_cases h0 : e = 0
    · refine .condF (by simp [h0]) ?_
      rcases hcs with ⟨_, H, hcalls⟩ | ⟨h2, _⟩
      · obtain ⟨t1, t2, op, R⟩ := rn_of (by omega) hcalls
        replace R : Rn N types l l.length c op := R
        have P := rn_ep R
        replace n2 := n2 h0
        obtain ⟨E4, e4⟩ := r4
        simp only at n2 n1
        subst n2
        have hle : (epR l l.length).1.length = c.length := P.len
        have hf : c.length ≤ 9 := H.few
        refine .elim (P := fun t => match t with | .inl _ => ∀ i, i + 1 < c.length → (epR l l.length).1.getD i 0 < (epR l l.length).1.getD (i + 1) 0 | .inr b => b = true) (.iter ((epR l l.length).1.length - 1) (fun k v => v = (k : Int) + 1 ∧ ∀ i, i < k → (epR l l.length).1.getD i 0 < (epR l l.length).1.getD (i + 1) 0) (by omega) ⟨rfl, fun i h => absurd h (Nat.not_lt_zero _)⟩ ?_ ?_) (fun _ _ hall => ?_) (fun b _ h => .one h)
        · rintro k v hk ⟨rfl, hr⟩
          simp only [alibkeep_SeqCalm_L3]
          have hm := P.mono k (k + 1) (by omega) (by omega)
          refine .condT (decide_eq_true (by omega)) (.ixD 0 (by omega) (by omega) (.ck64 (by omega) (.ixD 0 (by omega) (by omega) ?_)))
          have e1 : ((k : Int) + 1).toNat = k + 1 := by omega
          have e2 : ((k : Int) + 1 - 1).toNat = k := by omega
          rw [e1, e2]
          refine .condF (decide_eq_false (by omega)) (.ck64 (by omega) (.cond (fun _ => .one rfl) fun h => .ck64 (by omega) (.one ⟨by simp, fun i hi => ?_⟩)))
          rcases Nat.lt_or_ge i k with h1 | h1
          · exact hr i h1
          · obtain rfl : i = k := by omega
            have := of_decide_eq_false h
            omega
        · rintro v ⟨rfl, hr⟩
          simp only [alibkeep_SeqCalm_L3]
          exact .condF (decide_eq_false (by omega)) (.one fun i hi => hr i (by omega))
        · have hall : ∀ i, i + 1 < c.length → (epR l l.length).1.getD i 0 < (epR l l.length).1.getD (i + 1) 0 := hall
          have strict : ∀ i j, i < j → j < c.length → (epR l l.length).1.getD i 0 < (epR l l.length).1.getD j 0 := by
            intro i j hij hj
            have h1 := hall i (by omega)
            rcases Nat.lt_or_ge (i + 1) j with h | h
            · have := P.mono (i + 1) j h hj
              omega
            · obtain rfl : j = i + 1 := by omega
              exact h1
          have W := R.wf
          have back : ∀ i j, bfA c i j = true → caE (epR l l.length).1 i j = true := by
            intro i j h
            obtain ⟨h1, h2, h3, h4⟩ := of_decide_eq_true h
            have hij : i < j := by
              rcases (W.one i h1).to with ⟨h5, _⟩ | ⟨h5, _⟩
              · exact (h3 h5).elim
              · rcases Nat.lt_trichotomy i j with h6 | h6 | h6
                · exact h6
                · subst h6; omega
                · have := (W.two j i h6 h1).fr
                  omega
            exact decide_eq_true ⟨by omega, by omega, strict i j hij h2⟩
          refine .one ?_
          have a1 := (f3 h0 H).iff
          have a2 := (k3 h0 H).iff
          have e : r3.2.1 = r.2.1 := by
            rw [Bool.eq_iff_iff, a1, a2]
            exact ⟨fun ⟨u, g⟩ => ⟨u, g.mono back⟩, fun ⟨u, g⟩ => ⟨u, g.mono fun i j => caE_bf P⟩⟩
          rw [e]; simp
      · exact (h2 h0).elim
    · exact .condT (by simp [h0]) (.bdO hL (.one (by simp)))
end Sr

end Go.Proofs.Ytpakplmpihhmbaa
