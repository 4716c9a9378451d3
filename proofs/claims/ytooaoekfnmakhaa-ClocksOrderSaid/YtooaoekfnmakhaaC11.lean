/- ClocksOrder, plainly. -/
import Derived.Test.YtooaoekfnmakhaaC9
import Derived.Test.YtooaoekfnmakhaaO1
set_option linter.unusedVariables false
set_option linter.unusedSimpArgs false
set_option linter.unusedSectionVars false
set_option maxRecDepth 100000
namespace Go.Proofs.Ytooaoekfnmakhaa
open Go.RowKit
namespace Ck
open Rl
theorem ordered {N : Nat} (hN : 300 < N) (hL : alibkeep_clocksLives N = some true) (l : List Mark) : alibkeep_ClocksOrder N l = some true := by
  refine Wp.eq ?_
  unfold alibkeep_ClocksOrder
  rcases two l hN with ⟨S, out, G⟩ | ⟨a, x, hc, hx⟩
  · have K := G.kn
    by_cases h12 : l.length ≤ 12
    · refine .seq (before_wp hN G h12) fun b _ hb => .bdO hL (.condF (by simp [hb.2.1]) ?_)
      have hu : RelU ⟨b.1, b.2.1⟩ := fun i hi => (hb.2.2 i hi).rng
      have hp : ∀ i j, pOf ⟨b.1, b.2.1⟩ i j = bfB l out i j := by
        intro i j
        by_cases hi : i < 12
        · exact (hu.row hi).uniq (hb.2.2 i hi) j
        · cases h1 : bfB l out i j with
          | false =>
            cases h2 : pOf ⟨b.1, b.2.1⟩ i j with
            | false => rfl
            | true => exact absurd (pOf_lt h2) hi
          | true => have := (of_decide_eq_true h1).1; omega
      have V : RelV ⟨b.1, b.2.1⟩ l.length := ⟨hu, hb.1, h12, fun i j h => by rw [hp] at h; have := of_decide_eq_true h; exact ⟨this.1, this.2.1⟩⟩
      have tr : ∀ i m j, m < l.length → pOf ⟨b.1, b.2.1⟩ i m = true → pOf ⟨b.1, b.2.1⟩ m j = true → pOf ⟨b.1, b.2.1⟩ i j = true := by
        intro i m j _ h1 h2
        rw [hp] at h1 h2 ⊢
        have h3 := of_decide_eq_true h1
        have h4 := of_decide_eq_true h2
        have h5 := K.knows' h3.1 h3.2.1 h3.2.2.2
        have h6 := K.knows' h4.1 h4.2.1 h4.2.2.2
        exact decide_eq_true ⟨h3.1, h4.2.1, by omega, Int.le_trans h3.2.2.2 (h6.1 _ (K.w8 i h3.1))⟩
      have hwar := war_same tr l.length (Nat.le_refl _)
      refine .seq (ordClose_wp hN hu) fun c _ hc => ?_
      rcases hc with ⟨n, V', h1, h2, h3, h4⟩ | ⟨hv, _⟩
      · obtain rfl := V.uniq V'
        have hround : c.2.2.1 = false := by
          cases h : c.2.2.1 with
          | false => rfl
          | true =>
            obtain ⟨i, hi, hw⟩ := h4.1 h
            rw [hwar, hp] at hw
            exact absurd rfl (of_decide_eq_true hw).2.2.1
        have heq : eqA 12 c.2.1 b.2.1 = true := eqA_of fun i hi => (h3 i hi).eq ((hb.2.2 i hi).cong fun j => by rw [hwar, hp])
        refine .condF (by simp [h1, h2, hround, heq, hb.1]) ?_
        refine .elim (P := fun t => t = .inl ()) (.iter l.length (fun k v => v = (k : Int)) (by omega) rfl ?_ ?_) (fun _ _ _ => .one rfl) (fun _ _ h => by cases h)
        · rintro i v hi rfl
          simp only [alibkeep_ClocksOrder_L3]
          refine .condT (decide_eq_true (by omega)) (.axN (by omega) (.ck (decide_eq_true (by omega)) (.condF ?_ (.ck64 (by omega) (.one (by simp))))))
          rw [((hb.2.2 i (by omega)).and (Row.upto (v := i) (by omega))).empty.2 fun j => ?_]
          · rfl
          · cases h : bfB l out i j with
            | false => rfl
            | true =>
              have h3 := of_decide_eq_true h
              have h5 := K.knows' h3.1 h3.2.1 h3.2.2.2
              rw [Bool.true_and]
              exact decide_eq_false (by omega)
        · rintro v rfl
          simp only [alibkeep_ClocksOrder_L3]
          exact .condF (by simp) (.one rfl)
      · exact absurd V (hv _)
    · exact .bdO (before_large G h12) (.bdO hL (.condT rfl (.bdO hL (.one rfl))))
  · exact .bdO (before_bad hc hx) (.bdO hL (.condT (by simpa using hx) (.bdO hL (.one rfl))))
end Ck

end Go.Proofs.Ytooaoekfnmakhaa
