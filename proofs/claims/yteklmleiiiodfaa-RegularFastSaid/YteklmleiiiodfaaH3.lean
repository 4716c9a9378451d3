/- Sites, plainly: one gets a tag, one stores. -/
import Derived.Test.YteklmleiiiodfaaH2
set_option linter.unusedVariables false
set_option linter.unusedSimpArgs false
set_option linter.unusedSectionVars false
set_option maxRecDepth 100000
namespace Go.Proofs.Yteklmleiiiodfaa
open Go.RowKit
namespace Si
open Hs
section
variable {N : Nat} {fast : Bool} {np n : Nat} {m : M} {g : Gh}
/-- With more calls, and more that have a tag, what was good is. -/
theorem Good.mono {g g' : Gh} (hl : g.c.length ≤ g'.c.length) (hc : ∀ i, i < g.c.length → (g'.call i).kind = (g.call i).kind ∧ (g'.call i).arg = (g.call i).arg) (ht : ∀ i, i < g.c.length → g.tg i = true → g'.tg i = true ∧ g'.tag i = g.tag i) {t : SitesTag} {v : Int} (h : Good g t v) : Good g' t v := by
  rcases h with h | ⟨i, h1, h2, h3, h4, h5⟩
  · exact .inl h
  · obtain ⟨t1, t2⟩ := ht i h1 h2
    obtain ⟨c1, c2⟩ := hc i h1
    exact .inr ⟨i, by omega, t1, by rw [c1]; exact h3, by rw [t2]; exact h4, by rw [c2]; exact h5⟩
theorem Good.ge (z : Z N fast np n m g) {t : SitesTag} {v : Int} (h : Good g t v) : 0 ≤ t.stamp ∧ (t = ⟨0, 0⟩ ∨ 1 ≤ t.stamp) := by
  rcases h with ⟨rfl, _⟩ | ⟨i, h1, h2, h3, h4, _⟩
  · exact ⟨by decide, .inl rfl⟩
  · have := (z.tw i h1 h2 h3).2
    rw [h4] at this
    exact ⟨by omega, .inr this⟩
/-- What one who asked gets as a tag. -/
theorem z_tag (z : Z N fast np n m g) (u : Un np m g np) {w i : Nat} (hw : w < np) (P : Pd fast n m g w i) (hs : (m.who w).store = false) (hm : (n : Int) < 2 * (m.who w).replies) :
    ∃ g' : Gh, Z N fast np n m g' ∧ Un np m g' w ∧ Pd fast n m g' w i ∧ g'.tg i = true ∧ g'.c = g.c ∧ g'.B = g.B ∧
      (((g.call i).kind = 1 ∧ g'.tag i = ⟨(m.who w).best.stamp + 1, w⟩ ∧ Good g' ⟨(m.who w).best.stamp + 1, w⟩ (g.call i).arg) ∨ ((g.call i).kind ≠ 1 ∧ g'.tag i = (m.who w).best ∧ Good g' (m.who w).best (m.who w).value)) := by
  obtain ⟨t, ht⟩ : ∃ t : SitesTag, t = if (g.call i).kind = 1 then ⟨(m.who w).best.stamp + 1, w⟩ else (m.who w).best := ⟨_, rfl⟩
  have hp := z.wait hw P.opn
  have hun := u w hw (by omega) hp hs i P.opn
  have Q := P.qry hs
  have n1 := z.n1
  have hgood := Q.good (by omega)
  have hbge := Good.ge z hgood
  let g' : Gh := ⟨g.c, g.op, fun j => if j = i then true else g.tg j, fun j => if j = i then t else g.tag j, g.B⟩
  have gt1 : g'.tg i = true := if_pos rfl
  have gt2 : g'.tag i = t := if_pos rfl
  have gn1 : ∀ j, j ≠ i → g'.tg j = g.tg j := fun j h => if_neg h
  have gn2 : ∀ j, j ≠ i → g'.tag j = g.tag j := fun j h => if_neg h
  have old : ∀ j, g.tg j = true → g'.tg j = true ∧ g'.tag j = g.tag j := fun j h => by
    have : j ≠ i := fun e => by rw [e, hun] at h; cases h
    rw [gn1 j this, gn2 j this]; exact ⟨h, rfl⟩
  have gm : ∀ {t v}, Good g t v → Good g' t v := fun h => Good.mono (g := g) (g' := g') (Nat.le_refl _) (fun _ _ => ⟨rfl, rfl⟩) (fun j _ => old j) h
  have hcall : ∀ j, g'.call j = g.call j := fun j => rfl
  have most : Most n fun s => (m.let_ (g.B w + s)).received := by
    have := P.rep
    unfold Most; omega
  -- who is done ahead of it has no greater tag
  have ahead : ∀ a, a < g.c.length → (g.call a).to_ ≠ -1 → (g.call a).to_ < (g.call i).from_ → Strong fast (g.call a) → ¬ tlt (m.who w).best (g.tag a) := by
    intro a h1 h2 h3 h4
    obtain ⟨s, hs2, r1, r2⟩ := most.meet (Q.low a h1 h2 h4 h3)
    have hb := P.bat.1
    have hdel := z.rd (g.B w + s) (by omega) r1
    have hbest := Q.best s hs2 r1
    simp only [Bool.and_eq_true, Bool.or_eq_true, Bool.not_eq_true', decide_eq_true_eq, hdel] at r2
    have r3 := r2.2.resolve_left (by decide)
    unfold tlt at *; omega
  have anst : ∀ j, j < g.c.length → (g.call j).to_ ≠ -1 → j ≠ i := fun j _ h e => h (by rw [e]; exact P.cal.2.1)
  have lowm : ∀ {v k : Nat}, Pd fast n m g v k → (m.who v).store = false → ∀ a, a < g.c.length → (g.call a).to_ ≠ -1 → Strong fast (g.call a) → (g.call a).to_ < (g.call k).from_ → Most n fun s => decide (¬ tlt (stg (m.site s)) (g'.tag a)) && (!(m.let_ (g.B v + s)).delivered || decide (¬ tlt (m.let_ (g.B v + s)).tag (g'.tag a))) := by
    intro v k Pv hv a h1 h2 h3 h4
    rw [gn2 a (anst a h1 h2)]
    exact (Pv.qry hv).low a h1 h2 h3 h4
  have mkP : ∀ {v k : Nat}, Pd fast n m g v k → Pd fast n m g' v k := by
    intro v k Pv
    refine ⟨Pv.ilt, Pv.opn, Pv.cal, Pv.bat, Pv.own, Pv.rep, Pv.zero, fun hv => ⟨(Pv.qry hv).best, fun h => gm ((Pv.qry hv).good h), lowm Pv hv⟩, fun hv => ?_⟩
    obtain ⟨a1, a2, a3⟩ := Pv.sto hv
    obtain ⟨b1, b2⟩ := old k a1.1
    exact ⟨⟨b1, b2.trans a1.2⟩, gm a2, a3⟩
  have hwp := z.fr P.ilt
  refine ⟨g', ⟨z.n1, z.np8, z.sl, z.pl, z.run, z.idle, fun v hv hpv => ?_, z.ask, z.wn, fun s h => gm (z.sg s h), z.lt, fun j hj h => gm (z.lg j hj h), z.ls, z.rd, z.old, fun j hj h1 h2 => ?_, fun j hj ha => ?_, fun a b ha hb h1 h2 h3 h4 => ?_, fun a b ha hb h1 h2 k1 k2 e => ?_⟩, fun v hv hne hpv hsv k hk => ?_, mkP P, gt1, rfl, rfl, ?_⟩
  · obtain ⟨k, Pv⟩ := z.pend v hv hpv
    exact ⟨k, mkP Pv⟩
  · by_cases e : j = i
    · subst e
      rw [gt2, ht, hcall]
      have h2 : (g.call j).kind = 1 := h2
      rw [if_pos h2]
      exact ⟨P.cal.1.symm, by simp only; omega⟩
    · rw [gn1 j e] at h1
      rw [gn2 j e]; exact z.tw j hj h1 h2
  · have e := anst j hj ha
    obtain ⟨d1, d2, d3, d4⟩ := z.dn j hj ha
    rw [gn1 j e, gn2 j e]
    refine ⟨d1, d2, d3, fun hk => ?_⟩
    rcases d4 hk with h | ⟨k, q1, q2, q3, q4, q5⟩
    · exact .inl h
    · obtain ⟨o1, o2⟩ := old k q2
      exact .inr ⟨k, q1, o1, q3, o2.trans q4, q5⟩
  · have ea := anst a ha h1
    rw [gn2 a ea]
    by_cases e : b = i
    · subst e
      rw [gt2, ht]
      have hA := ahead a ha h1 h2 h3
      by_cases hk : (g.call b).kind = 1
      · rw [if_pos hk]
        refine ⟨?_, fun _ => ?_⟩
        · unfold tlt at *; simp only; omega
        · unfold tlt at *; simp only; omega
      · rw [if_neg hk]
        exact ⟨hA, fun h => (hk h).elim⟩
    · rw [gn1 b e] at h4
      rw [gn2 b e]
      exact z.ord a b ha hb h1 h2 h3 h4
  · -- unlike writes have unlike tags
    have key : ∀ a, a < g.c.length → a ≠ i → g.tg a = true → (g.call a).kind = 1 → (g.call i).kind = 1 → g.tag a = t → False := by
      intro a ha hne htg hka hki e
      rw [ht, if_pos hki] at e
      have hwho := (z.tw a ha htg hka).1
      rw [e] at hwho
      have hwho : ((w : Int)) = (g.call a).who := hwho
      have same : (g.call a).who = (g.call i).who := by rw [← hwho, P.cal.1]
      rcases Nat.lt_trichotomy a i with h | h | h
      · have T := z.run.wf.two a i h P.ilt
        have o := T.own same
        have hlt := ahead a ha o.1 o.2 (.inr hka)
        rw [e] at hlt
        unfold tlt at hlt; simp only at hlt; omega
      · exact hne h
      · have T := z.run.wf.two i a h ha
        exact (T.own same.symm).1 P.cal.2.1
    by_cases ea : a = i
    · by_cases eb : b = i
      · rw [ea, eb]
      · exfalso
        subst ea
        rw [gn1 b eb] at h2
        rw [gt2, gn2 b eb] at e
        exact key b hb eb h2 k2 k1 e.symm
    · by_cases eb : b = i
      · exfalso
        subst eb
        rw [gn1 a ea] at h1
        rw [gt2, gn2 a ea] at e
        exact key a ha ea h1 k1 k2 e
      · rw [gn1 a ea] at h1
        rw [gn1 b eb] at h2
        rw [gn2 a ea, gn2 b eb] at e
        exact z.uni a b ha hb h1 h2 k1 k2 e
  · have := u v hv (by omega) hpv hsv k hk
    rw [gn1 k (fun e => hne ?_)]
    · exact this
    · have Pv := z.pd hv hpv hk
      have h1 := Pv.cal.1
      rw [e, P.cal.1] at h1
      omega
  · rw [gt2, ht]
    by_cases hk : (g.call i).kind = 1
    · rw [if_pos hk]
      exact .inl ⟨hk, rfl, .inr ⟨i, P.ilt, gt1, hk, by rw [gt2, ht, if_pos hk], rfl⟩⟩
    · rw [if_neg hk]
      exact .inr ⟨hk, rfl, gm hgood⟩
/-- One begins to store. -/
theorem z_start (z : Z N fast np n m g) {w i : Nat} (hw : w < np) (P : Pd fast n m g w i) (u : Un np m g w) (hs : (m.who w).store = false) {t : SitesTag} {v : Int} (h1 : g.tg i = true) (h2 : g.tag i = t) (h3 : Good g t v) :
    ∃ g' : Gh, Z N fast np n (start m w true t v) g' ∧ Un np (start m w true t v) g' np ∧ g'.c = g.c := by
  have hpl := z.pl
  have hsl := z.sl
  have hp := z.wait hw P.opn
  let g' : Gh := ⟨g.c, g.op, g.tg, g.tag, fun x => if x = w then m.letters.length else g.B x⟩
  have hB : g'.B w = m.letters.length := if_pos rfl
  have hB2 : ∀ x, x ≠ w → g'.B x = g.B x := fun x h => if_neg h
  obtain ⟨m', hm'⟩ : ∃ m', m' = start m w true t v := ⟨_, rfl⟩
  rw [← hm']
  have ew : ∀ x, m'.who x = if x = w then startP (m.who w) true t v else m.who x := fun x => by rw [hm']; exact who_set (by omega)
  have hll : m'.letters.length = m.letters.length + n := by rw [hm']; show (m.letters ++ batch _ _ _ _ _ _).length = _; rw [List.length_append, batch_len, hsl]
  have el : ∀ j, j < m.letters.length → m'.let_ j = m.let_ j := fun j hj => by rw [hm']; exact getDn_app' hj
  have el2 : ∀ s, s < n → m'.let_ (m.letters.length + s) = ⟨w, (m.who w).round + 1, (s : Int), true, t, v, false, false⟩ := fun s hs2 => by
    rw [hm']
    show (m.letters ++ batch _ _ _ _ _ _).getD _ _ = _
    rw [getDn_app2, batch_get (by omega)]
  have split : ∀ j, j < m'.letters.length → j < m.letters.length ∨ ∃ s, s < n ∧ j = m.letters.length + s := fun j hj => by
    rcases Nat.lt_or_ge j m.letters.length with h | h
    · exact .inl h
    · exact .inr ⟨j - m.letters.length, by omega, by omega⟩
  have hsi : ∀ s, m'.site s = m.site s := fun s => by rw [hm']; rfl
  have hev : m'.events = m.events := by rw [hm']; rfl
  have hlt := z.lt
  refine ⟨g', ⟨z.n1, z.np8, by rw [hm']; exact z.sl, by rw [hm']; simpa [start] using z.pl, by rw [hev]; exact z.run, fun x hx hpx => ?_, fun x hx hpx => ?_, fun x hx => ?_, z.wn, fun s h => by rw [hsi]; exact z.sg s h, fun j hj => ?_, fun j hj h => ?_, fun j hj h4 h5 => ?_, fun j hj h => ?_, fun j hj => ?_, z.tw, fun j hj ha => ?_, z.ord, z.uni⟩, fun x hx hne hpx hsx k hk => ?_, rfl⟩
  · rw [ew] at hpx
    split at hpx
    · have hpx : (m.who w).pending = false := hpx
      rw [hp] at hpx; cases hpx
    · exact z.idle x hx hpx
  · by_cases e : x = w
    · subst e
      have e1 : m'.who x = startP (m.who x) true t v := by rw [ew, if_pos rfl]
      refine ⟨i, P.ilt, P.opn, by rw [e1]; exact P.cal, ⟨by rw [hB, hll]; omega, fun s hs2 => ?_⟩, fun j hj k1 k2 => ?_, ?_, fun h => (by rw [e1] at h; cases h), fun h => (by rw [e1] at h; cases h), fun _ => ⟨?_, ?_, fun s hs2 => ?_⟩⟩
      · rw [hB, el2 s hs2, e1]; exact ⟨rfl, rfl, rfl, rfl⟩
      · rw [hB]
        rcases split j hj with h | ⟨s, hs2, rfl⟩
        · rw [el j h] at k1 k2
          have := (z.old j h).1
          rw [k1, Int.toNat_natCast] at this
          rw [e1] at k2
          have k2 : (m.let_ j).round = (m.who x).round + 1 := k2
          omega
        · omega
      · rw [e1]
        show (0 : Int) = _
        rw [List.countP_eq_zero.2]
        · rfl
        · intro s hs2
          rw [hB, el2 s (List.mem_range.1 hs2)]; simp
      · rw [e1]; exact ⟨h1, h2⟩
      · rw [e1]; exact h3
      · rw [hB, el2 s hs2, e1]; rfl
    · have e1 : m'.who x = m.who x := by rw [ew, if_neg e]
      rw [e1] at hpx
      obtain ⟨k, Pk⟩ := z.pend x hx hpx
      have hbl : ∀ s, s < n → m'.let_ (g.B x + s) = m.let_ (g.B x + s) := fun s hs2 => el _ (by have := Pk.bat.1; omega)
      refine ⟨k, Pk.ilt, Pk.opn, by rw [e1]; exact Pk.cal, ⟨by rw [hB2 x e, hll]; have := Pk.bat.1; omega, fun s hs2 => ?_⟩, fun j hj k1 k2 => ?_, ?_, by rw [e1]; exact Pk.zero, fun h => ?_, fun h => ?_⟩
      · rw [hB2 x e, hbl s hs2, e1]; exact Pk.bat.2 s hs2
      · rw [hB2 x e]
        rcases split j hj with h | ⟨s, hs2, rfl⟩
        · rw [el j h] at k1 k2
          rw [e1] at k2
          exact Pk.own j h k1 k2
        · rw [el2 s hs2] at k1
          have k1 : (w : Int) = x := k1
          omega
      · rw [e1, Pk.rep, hB2 x e]
        congr 1
        refine List.countP_congr fun s hs2 => ?_
        rw [hbl s (List.mem_range.1 hs2)]
      · rw [e1] at h
        have Q := Pk.qry h
        refine ⟨fun s hs2 hr => ?_, by rw [e1]; exact Q.good, fun a a1 a2 a3 a4 => (Q.low a a1 a2 a3 a4).mono fun s hs2 hh => ?_⟩
        · rw [hB2 x e, hbl s hs2] at hr ⊢
          rw [e1]; exact Q.best s hs2 hr
        · rw [hB2 x e, hbl s hs2, hsi]; exact hh
      · rw [e1] at h
        have Q := Pk.sto h
        exact ⟨by rw [e1]; exact Q.tag, by rw [e1]; exact Q.good, fun s hs2 => by rw [hB2 x e, hbl s hs2, e1]; exact Q.lets s hs2⟩
  · rw [ew]
    split
    · rename_i e; subst e; exact z.ask x hx
    · exact z.ask x hx
  · rcases split j hj with h | ⟨s, hs2, rfl⟩
    · rw [el j h]; exact z.lt j h
    · rw [el2 s hs2]; simp only; omega
  · rcases split j hj with h6 | ⟨s, hs2, rfl⟩
    · rw [el j h6] at h ⊢; exact z.lg j h6 h
    · rw [el2 s hs2]; exact h3
  · rcases split j hj with h6 | ⟨s, hs2, rfl⟩
    · rw [el j h6] at h4 h5 ⊢; rw [hsi]; exact z.ls j h6 h4 h5
    · rw [el2 s hs2] at h5; cases h5
  · rcases split j hj with h6 | ⟨s, hs2, rfl⟩
    · rw [el j h6] at h ⊢; exact z.rd j h6 h
    · rw [el2 s hs2] at h; cases h
  · rcases split j hj with h6 | ⟨s, hs2, rfl⟩
    · rw [el j h6, ew]
      have := z.old j h6
      split
      · rename_i e
        rw [e] at this
        refine ⟨?_, fun h => ?_⟩
        · show _ ≤ (m.who w).round + 1
          omega
        · have h : (m.who w).pending = false := h
          rw [hp] at h; cases h
      · exact this
    · rw [el2 s hs2]
      simp only [Int.toNat_natCast]
      rw [ew, if_pos rfl]
      refine ⟨Int.le_refl _, fun h => ?_⟩
      have h : (m.who w).pending = false := h
      rw [hp] at h; cases h
  · obtain ⟨d1, d2, d3⟩ := z.dn j hj ha
    exact ⟨d1, fun h => (d2 h).mono fun s hs2 h => by rw [hsi]; exact h, d3⟩
  · rw [ew] at hpx hsx
    by_cases e : x = w
    · rw [if_pos e] at hsx; cases hsx
    · rw [if_neg e] at hpx hsx
      exact u x hx e hpx hsx k hk
end
end Si

end Go.Proofs.Yteklmleiiiodfaa
