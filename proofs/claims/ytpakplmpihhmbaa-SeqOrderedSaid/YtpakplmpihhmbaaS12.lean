/- SeqOrdered, plainly. -/
import Derived.Test.YtpakplmpihhmbaaS11
set_option linter.unusedVariables false
set_option linter.unusedSimpArgs false
set_option linter.unusedSectionVars false
set_option maxRecDepth 100000
namespace Go.Proofs.Ytpakplmpihhmbaa
open Go.RowKit
namespace Sr
open Rl Hs
theorem Pl.rng {types : List Int} {c : List Call} {q : Nat → Nat → Bool} : ∀ {t : List Step} {S : List (List Int)} {w : List Nat}, Pl types c q S w t → ∀ s ∈ t, 0 ≤ s.call ∧ s.call < c.length
  | [], _, _, _, s, hs => by cases hs
  | a :: t, S, w, ⟨i, n, h1, h2, _, _, _, _, h7⟩, s, hs => by
    rcases List.mem_cons.1 hs with rfl | hs
    · omega
    · exact Pl.rng h7 s hs
end Sr

namespace Sr
open Rl Hs Ca
theorem pl_fit {N : Nat} {types : List Int} {l : List Event} {k : Nat} {c : List Call} {op : List Int} (R : Rn N types l k c op) {q : Nat → Nat → Bool} : ∀ {t : List Step} {S : List (List Int)} {w : List Nat}, Pl types c q S w t → ∀ s ∈ t, Fit N types c s
  | [], _, _, _, s, hs => by cases hs
  | a :: t, S, w, ⟨i, n, h1, h2, _, _, _, h6, h7⟩, s, hs => by
    rcases List.mem_cons.1 hs with rfl | hs
    · have ec : cal c s = c.getD i Call.z := by unfold cal; rw [h1, Int.toNat_natCast]
      have O := R.wf.one i h2
      unfold Fit
      rw [ec]
      exact ⟨O.who, O.thing, ⟨O.evf.2, O.fit, (rn_arg R i h2).1⟩, res_ok N h6⟩
    · exact pl_fit R h7 s hs
theorem ordLaw {N : Nat} (hN : 5000 < N) (hL : alibkeep_seqLives N = some true) (types : List Int) (l : List Event) : alibkeep_SeqOrdered N types l = some true := by
  refine Wp.eq ?_
  unfold alibkeep_SeqOrdered
  obtain ⟨⟨c, e⟩, hc, hcs⟩ := calls9_wp (N := N) (by omega) types l
  obtain ⟨h, hh, _⟩ := calls_rn (types := types) (l := l) (N := N) (by omega)
  refine .seq (sfind_wp (by omega) hc) fun r _ ⟨f1, _, f3⟩ => .bdO hh ?_
  rw [f1]
  refine .seq (P := fun v => v = false → e = 0 ∧ r.2.1 = true) (.bdO hL (.condT rfl (.bdO (okd (by simp; omega) (by simp)) (.one ?_)))) fun v _ hv => ?_
  · intro h1
    simp only [Bool.not_true, Bool.false_or, Bool.or_eq_false_iff, Bool.not_eq_false', decide_eq_true_eq] at h1
    exact ⟨h1.1 _ (.head _), h1.2⟩
  · refine .cond (fun _ => .bdO hL (.one rfl)) fun h1 => ?_
    obtain ⟨b, hr⟩ := hv h1
    rcases hcs with ⟨_, H, hcalls⟩ | ⟨h2, _⟩
    · rw [hcalls] at hh
      obtain rfl : h = (c, 0, 0) := by cases hh; rfl
      obtain ⟨t1, t2, op, R⟩ := rn_of (by omega) hcalls
      have hf : c.length ≤ 9 := H.few
      have g : Gd types c (prS c) (S0 types) [] r.1 := by
        rcases f3 b H with ⟨_, g, _⟩ | ⟨h2, _⟩
        · exact g
        · rw [hr] at h2; cases h2
      clear f3 f1 hv hr
      obtain ⟨w, fd, er⟩ := r
      replace g : Gd types c (prS c) (S0 types) [] w := g
      replace R : Rn N types l l.length c op := R
      have hwl : w.length ≤ c.length := (pl_ac g.1).len
      have hrng := g.1.rng
      refine .elim (P := fun t => match t with | .inl m => m = evs c w | .inr _ => False) (.iter w.length (fun k st => st.2 = (k : Int) ∧ st.1 = evs c (w.take k)) (by omega) ⟨rfl, rfl⟩ ?_ ?_) (fun m _ hm => ?_) (fun b _ h => h.elim)
      · rintro k ⟨m, v⟩ hk ⟨hv, hm⟩
        simp only at hv hm
        subst hv; subst hm
        simp only [alibkeep_SeqOrdered_L3]
        have hx := hrng w[k] (List.getElem_mem hk)
        have hel := evs_len c (w.take k)
        rw [List.length_take] at hel
        refine .condT (decide_eq_true (by omega)) (.ix hk (.condF ?_ (.ixD Call.z (by omega) (by omega) (.ck (limB_of ⟨?_, ?_⟩) (.ck64 (by omega) (.one ⟨by simp, ?_⟩))))))
        · simp only [Bool.or_eq_false_iff, decide_eq_false_iff_not]
          omega
        · exact Nat.le_trans (m := 2000) (by simp only [List.length_cons, List.length_nil]; omega) (by decide)
        · simp only [List.length_cons, List.length_nil]; omega
        · rw [← List.take_append_getElem hk, evs_app]; rfl
      · rintro ⟨m, v⟩ ⟨hv, hm⟩
        simp only at hv hm
        subst hv; subst hm
        simp only [alibkeep_SeqOrdered_L3]
        exact .condF (decide_eq_false (by omega)) (.one (by rw [List.take_length]))
      · have hm : m = evs c w := hm
        subst hm
        obtain ⟨op2, R2, _⟩ := evs_rn (pl_fit R g.1) w.length (Nat.le_refl _)
        rw [List.take_length, ← evs_len c w] at R2
        have hl2 := evs_len c w
        have hc2 : history_Calls N types (evs c w) = some (ncs c 0 w, 0, 0) := calls_of (by omega) t1 (by omega) R2
        have hn := ncs_len c 0 w
        have hs := calls9_of hc2 (by omega)
        have H2 := hc_of (by omega) hs
        refine .seq (find_wp (by omega) hs) fun r2 _ ⟨k1, _, k3⟩ => .one ?_
        have hget := fun i (h : i < w.length) => ncs_get c w 0 i h
        have := (k3 rfl H2).iff.2 ⟨lin 0 w, pl_line (c := c) (fun j hj => by
          rw [hget j (by omega), Nat.zero_add]
          exact ⟨rfl, rfl⟩) w 0 _ [] (by omega) (fun i hi => by
          rw [show 0 + i = i by omega, hget i hi]
          exact ⟨rfl, rfl, rfl, rfl⟩) g.1, fun i hi _ => by
          rw [List.nil_append]
          exact lin_mem w 0 i (Nat.zero_le _) (by omega)⟩
        rw [k1, this]; rfl
    · exact (h2 b).elim
end Sr

end Go.Proofs.Ytpakplmpihhmbaa
