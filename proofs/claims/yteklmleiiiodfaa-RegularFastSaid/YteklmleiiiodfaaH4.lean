/- Sites, plainly: one calls, one is answered. -/
import Derived.Test.YteklmleiiiodfaaH3
set_option linter.unusedVariables false
set_option linter.unusedSimpArgs false
set_option linter.unusedSectionVars false
set_option maxRecDepth 100000
namespace Go.Proofs.Yteklmleiiiodfaa
open Go.RowKit
namespace Si
open Hs
section
variable {N : Nat} {fast : Bool} {np n : Nat} {m : M} {g : Gh}
theorem okK_arg {a : Ask} (h : OkK a) : a.kind ≠ 0 ∧ tyF a.kind = 1 ∧ history_Argument N a.kind a.arg = some true := by
  rcases h with ⟨h1, h2, h3⟩ | ⟨h1, h2⟩
  · rw [h1]
    refine ⟨by decide, by decide, ?_⟩
    unfold history_Argument
    simp [bd, h2, h3]
  · rw [h1, h2]
    exact ⟨by decide, by decide, rfl⟩
/-- One calls. -/
theorem z_inv (z : Z N fast np n m g) (u : Un np m g np) {w : Nat} (hw : w < np) (hp : (m.who w).pending = false) {a : Ask} {rest : List Ask} (hpr : (m.who w).program = a :: rest) {m' : M} (hm' : m' = ⟨m.sites, m.people.set w (startP (pendP (m.who w)) false ⟨0, 0⟩ 0), m.letters ++ batch n w ((m.who w).round + 1) false ⟨0, 0⟩ 0, m.events ++ [⟨w, 0, a.kind, a.arg⟩]⟩) :
    ∃ g' : Gh, Z N fast np n m' g' ∧ Un np m' g' np ∧ g'.c.length = g.c.length + 1 := by
  have hpl := z.pl
  have hsl := z.sl
  have h8 := z.np8
  have hask := z.ask w hw a (by rw [hpr]; exact .head _)
  obtain ⟨k0, k1, k2⟩ := okK_arg (N := N) hask
  have hopw := z.idle w hw hp
  let i := g.c.length
  let v0 : Event := ⟨w, 0, a.kind, a.arg⟩
  let g' : Gh := ⟨g.c ++ [begC v0 m.events.length], setA 8 0 g.op w ((g.c.length : Int) + 1), fun j => if j = g.c.length then false else g.tg j, g.tag, fun x => if x = w then m.letters.length else g.B x⟩
  have hB : g'.B w = m.letters.length := if_pos rfl
  have hB2 : ∀ x, x ≠ w → g'.B x = g.B x := fun x h => if_neg h
  have hcl : g'.c.length = g.c.length + 1 := by show (g.c ++ [_]).length = _; simp
  have hc1 : ∀ j, j < g.c.length → g'.call j = g.call j := fun j hj => getDn_app' hj
  have hc2 : g'.call g.c.length = begC v0 m.events.length := by show (g.c ++ [_]).getD _ _ = _; rw [getD_app, if_neg (Nat.lt_irrefl _), if_pos rfl]
  have htg : ∀ j, j < g.c.length → g'.tg j = g.tg j := fun j hj => if_neg (by omega)
  have htg2 : g'.tg g.c.length = false := if_pos rfl
  have hop : ∀ x, x < np → g'.op.getD x 0 = if x = w then (g.c.length : Int) + 1 else g.op.getD x 0 := fun x hx => by
    show (setA 8 0 g.op w _).getD x 0 = _
    rw [setA_get (by omega), Int.toNat_natCast]
  have gm : ∀ {t v}, Good g t v → Good g' t v := fun h => Good.mono (g := g) (g' := g') (by omega) (fun j hj => by rw [hc1 j hj]; exact ⟨rfl, rfl⟩) (fun j hj h => ⟨by rw [htg j hj]; exact h, rfl⟩) h
  have ew : ∀ x, m'.who x = if x = w then startP (pendP (m.who w)) false ⟨0, 0⟩ 0 else m.who x := fun x => by rw [hm']; exact who_set (by omega)
  have hll : m'.letters.length = m.letters.length + n := by rw [hm']; show (m.letters ++ batch _ _ _ _ _ _).length = _; rw [List.length_append, batch_len]
  have el : ∀ j, j < m.letters.length → m'.let_ j = m.let_ j := fun j hj => by rw [hm']; exact getDn_app' hj
  have el2 : ∀ s, s < n → m'.let_ (m.letters.length + s) = ⟨w, (m.who w).round + 1, (s : Int), false, ⟨0, 0⟩, 0, false, false⟩ := fun s hs2 => by
    rw [hm']
    show (m.letters ++ batch _ _ _ _ _ _).getD _ _ = _
    rw [getDn_app2, batch_get (by omega)]
  have split : ∀ j, j < m'.letters.length → j < m.letters.length ∨ ∃ s, s < n ∧ j = m.letters.length + s := fun j hj => by
    rcases Nat.lt_or_ge j m.letters.length with h | h
    · exact .inl h
    · exact .inr ⟨j - m.letters.length, by omega, by omega⟩
  have csplit : ∀ j, j < g'.c.length → j < g.c.length ∨ j = g.c.length := fun j hj => by omega
  have hsi : ∀ s, m'.site s = m.site s := fun s => by rw [hm']; rfl
  have hfr : ∀ j, j < g.c.length → (g.call j).to_ < m.events.length := fun j hj => by
    have O := z.run.wf.one j hj
    rcases O.to with ⟨h, _⟩ | h
    · show (g.c.getD j Call.z).to_ < _
      omega
    · exact h.2
  have hS : StpX N [1] g.c g.op (m.events.length : Int) v0 g'.c g'.op := by
    refine ⟨⟨Int.natCast_nonneg _, by show (w : Int) < 8; omega⟩, ⟨by show (0 : Int) ≤ 0; decide, by show (0 : Int) < 1; decide⟩, .inl ⟨k0, ⟨by show ([1] : List Int).getD (0 : Int).toNat 0 ≠ 0; decide, k1⟩, k2, ?_, rfl, rfl⟩⟩
    show g.op.getD ((w : Int)).toNat 0 ≤ 0
    rw [Int.toNat_natCast, hopw]; exact Int.le_refl 0
  have hrun : Rn N [1] m'.events m'.events.length g'.c g'.op := by
    have := rn_more z.run hS
    rw [hm']; exact this
  have e1 : m'.who w = startP (pendP (m.who w)) false ⟨0, 0⟩ 0 := by rw [ew, if_pos rfl]
  refine ⟨g', ⟨z.n1, z.np8, by rw [hm']; exact z.sl, by rw [hm']; simpa using z.pl, hrun, fun x hx hpx => ?_, fun x hx hpx => ?_, fun x hx => ?_, fun j hj => (by rcases csplit j hj with hj | rfl; rw [hc1 j hj]; exact z.wn j hj; rw [hc2]; show (w : Int) < np; omega), fun s h => by rw [hsi]; exact gm (z.sg s h), fun j hj => ?_, fun j hj h => ?_, fun j hj h4 h5 => ?_, fun j hj h => ?_, fun j hj => ?_, fun j hj h1 h2 => ?_, fun j hj ha => ?_, fun x y hx hy h1 h2 h3 h4 => ?_, fun x y hx hy h1 h2 k1 k2 e => ?_⟩, fun x hx hne hpx hsx k hk => ?_, hcl⟩
  · rw [ew] at hpx
    rw [hop x hx]
    split at hpx
    · cases hpx
    · rename_i e; rw [if_neg e]; exact z.idle x hx hpx
  · by_cases e : x = w
    · subst e
      refine ⟨g.c.length, by omega, by rw [hop x hx, if_pos rfl], ⟨by rw [hc2]; rfl, by rw [hc2]; rfl, a, rest, by rw [e1]; exact hpr, by rw [hc2]; rfl, by rw [hc2]; rfl⟩, ⟨by rw [hB, hll]; omega, fun s hs2 => ?_⟩, fun j hj k1 k2 => ?_, ?_, fun _ _ => by rw [e1]; rfl, fun h => ⟨fun s hs2 hr => ?_, fun h => ?_, fun b b1 b2 b3 b4 => ?_⟩, fun h => (by rw [e1] at h; cases h)⟩
      · rw [hB, el2 s hs2, e1]; exact ⟨rfl, rfl, rfl, rfl⟩
      · rw [hB]
        rcases split j hj with h | ⟨s, hs2, rfl⟩
        · rw [el j h] at k1 k2
          have := (z.old j h).1
          rw [k1, Int.toNat_natCast] at this
          rw [e1] at k2
          have k2 : (m.let_ j).round = (m.who x).round + 1 := k2
          omega
        · omega
      · rw [e1]
        show (0 : Int) = _
        rw [List.countP_eq_zero.2]
        · rfl
        · intro s hs2
          rw [hB, el2 s (List.mem_range.1 hs2)]; simp
      · rw [hB, el2 s hs2] at hr; cases hr
      · rw [e1] at h; exact absurd h (by show ¬ (1 : Int) ≤ 0; decide)
      · rcases csplit b b1 with hb | rfl
        · rw [hc1 b hb] at b2 b3
          refine ((z.dn b hb b2).2.1 b3).mono fun s hs2 hh => ?_
          rw [hB, el2 s hs2, hsi]
          simp only [Bool.not_false, Bool.true_or, Bool.and_true]
          exact hh
        · rw [hc2] at b2; exact (b2 rfl).elim
    · have e2 : m'.who x = m.who x := by rw [ew, if_neg e]
      rw [e2] at hpx
      obtain ⟨k, Pk⟩ := z.pend x hx hpx
      have hbl : ∀ s, s < n → m'.let_ (g.B x + s) = m.let_ (g.B x + s) := fun s hs2 => el _ (by have := Pk.bat.1; omega)
      refine ⟨k, by have := Pk.ilt; omega, by rw [hop x hx, if_neg e]; exact Pk.opn, by rw [e2, hc1 k Pk.ilt]; exact Pk.cal, ⟨by rw [hB2 x e, hll]; have := Pk.bat.1; omega, fun s hs2 => ?_⟩, fun j hj k1 k2 => ?_, ?_, by rw [e2]; exact Pk.zero, fun h => ?_, fun h => ?_⟩
      · rw [hB2 x e, hbl s hs2, e2]; exact Pk.bat.2 s hs2
      · rw [hB2 x e]
        rcases split j hj with h | ⟨s, hs2, rfl⟩
        · rw [el j h] at k1 k2
          rw [e2] at k2
          exact Pk.own j h k1 k2
        · rw [el2 s hs2] at k1
          have k1 : (w : Int) = x := k1
          omega
      · rw [e2, Pk.rep, hB2 x e]
        congr 1
        refine List.countP_congr fun s hs2 => ?_
        rw [hbl s (List.mem_range.1 hs2)]
      · rw [e2] at h
        have Q := Pk.qry h
        refine ⟨fun s hs2 hr => ?_, fun h => by rw [e2] at h ⊢; exact gm (Q.good h), fun b b1 b2 b3 b4 => ?_⟩
        · rw [hB2 x e, hbl s hs2] at hr ⊢
          rw [e2]; exact Q.best s hs2 hr
        · rcases csplit b b1 with hb | rfl
          · rw [hc1 b hb] at b2 b3 b4
            rw [hc1 k Pk.ilt] at b4
            refine (Q.low b hb b2 b3 b4).mono fun s hs2 hh => ?_
            rw [hB2 x e, hbl s hs2, hsi]; exact hh
          · rw [hc2] at b2; exact (b2 rfl).elim
      · rw [e2] at h
        have Q := Pk.sto h
        refine ⟨by rw [e2, htg k Pk.ilt]; exact Q.tag, by rw [e2]; exact gm Q.good, fun s hs2 => by rw [hB2 x e, hbl s hs2, e2]; exact Q.lets s hs2⟩
  · rw [ew]
    split
    · rename_i e; subst e; exact z.ask x hx
    · exact z.ask x hx
  · rcases split j hj with h | ⟨s, hs2, rfl⟩
    · rw [el j h]; exact z.lt j h
    · rw [el2 s hs2]; simp only; omega
  · rcases split j hj with h6 | ⟨s, hs2, rfl⟩
    · rw [el j h6] at h ⊢; exact gm (z.lg j h6 h)
    · rw [el2 s hs2] at h; rcases h with h | h <;> cases h
  · rcases split j hj with h6 | ⟨s, hs2, rfl⟩
    · rw [el j h6] at h4 h5 ⊢; rw [hsi]; exact z.ls j h6 h4 h5
    · rw [el2 s hs2] at h5; cases h5
  · rcases split j hj with h6 | ⟨s, hs2, rfl⟩
    · rw [el j h6] at h ⊢; exact z.rd j h6 h
    · rw [el2 s hs2] at h; cases h
  · rcases split j hj with h6 | ⟨s, hs2, rfl⟩
    · rw [el j h6, ew]
      have := z.old j h6
      split
      · rename_i e
        rw [e] at this
        refine ⟨?_, fun h => by cases h⟩
        show _ ≤ (m.who w).round + 1
        omega
      · exact this
    · rw [el2 s hs2]
      simp only [Int.toNat_natCast]
      rw [ew, if_pos rfl]
      exact ⟨Int.le_refl _, fun h => by cases h⟩
  · rcases csplit j hj with hj | rfl
    · rw [htg j hj] at h1
      rw [hc1 j hj] at h2 ⊢
      exact z.tw j hj h1 h2
    · rw [htg2] at h1; cases h1
  · rcases csplit j hj with hj | rfl
    · rw [hc1 j hj] at ha ⊢
      obtain ⟨d1, d2, d3, d4⟩ := z.dn j hj ha
      rw [htg j hj]
      refine ⟨d1, fun h => (d2 h).mono fun s hs2 h => by rw [hsi]; exact h, d3, fun h => ?_⟩
      rcases d4 h with h | ⟨k, q1, q2, q3, q4, q5, q6⟩
      · exact .inl h
      · refine .inr ⟨k, by omega, by rw [htg k q1]; exact q2, ?_⟩
        rw [hc1 k q1]; exact ⟨q3, q4, q5, q6⟩
    · rw [hc2] at ha; exact (ha rfl).elim
  · rcases csplit x hx with hx | rfl
    · rw [hc1 x hx] at h1 h2 h3
      rcases csplit y hy with hy | rfl
      · rw [hc1 y hy] at h2 ⊢
        rw [htg y hy] at h4
        exact z.ord x y hx hy h1 h2 h3 h4
      · rw [htg2] at h4; cases h4
    · rw [hc2] at h1; exact (h1 rfl).elim
  · rcases csplit x hx with hx | rfl
    · rcases csplit y hy with hy | rfl
      · rw [htg x hx] at h1
        rw [htg y hy] at h2
        rw [hc1 x hx] at k1
        rw [hc1 y hy] at k2
        exact z.uni x y hx hy h1 h2 k1 k2 e
      · rw [htg2] at h2; cases h2
    · rw [htg2] at h1; cases h1
  · rw [ew] at hpx hsx
    rw [hop x hx] at hk
    by_cases e : x = w
    · rw [if_pos e] at hk
      obtain rfl : k = g.c.length := by omega
      exact htg2
    · rw [if_neg e] at hpx hsx hk
      rw [htg k (by have := (z.pd hx hpx hk).ilt; exact this)]
      exact u x hx (by omega) hpx hsx k hk
/-- One is answered. -/
theorem z_resp (z : Z N fast np n m g) {w i : Nat} (hw : w < np) (P : Pd fast n m g w i) (u : Un np m g w) (h1 : g.tg i = true) {res : Int} (hres : history_result N (g.call i).kind res = some true) (hst : Strong fast (g.call i) → Most n fun s => decide (¬ tlt (stg (m.site s)) (g.tag i))) (hwr : (g.call i).kind = 1 → res = 0) (hrd : (g.call i).kind ≠ 1 → Good g (g.tag i) res) :
    ∃ g' : Gh, Z N fast np n (respond m w res) g' ∧ Un np (respond m w res) g' np ∧ g'.c.length = g.c.length := by
  have hpl := z.pl
  have h8 := z.np8
  have hp := z.wait hw P.opn
  let v0 : Event := ⟨w, 0, 0, res⟩
  have hil := P.ilt
  let g' : Gh := ⟨g.c.set i (endC (g.call i) res m.events.length), setA 8 0 g.op w 0, g.tg, g.tag, g.B⟩
  have hcl : g'.c.length = g.c.length := by show (g.c.set i _).length = _; simp
  have hc : ∀ j, g'.call j = if j = i then endC (g.call i) res m.events.length else g.call j := fun j => getD_set2 hil
  have hck : ∀ j, (g'.call j).kind = (g.call j).kind ∧ (g'.call j).arg = (g.call j).arg ∧ (g'.call j).from_ = (g.call j).from_ ∧ (g'.call j).who = (g.call j).who := fun j => by
    rw [hc]; split
    · rename_i e; subst e; exact ⟨rfl, rfl, rfl, rfl⟩
    · exact ⟨rfl, rfl, rfl, rfl⟩
  have hstr : ∀ j, Strong fast (g'.call j) ↔ Strong fast (g.call j) := fun j => by unfold Strong; rw [(hck j).1]
  have hop : ∀ x, x < np → g'.op.getD x 0 = if x = w then 0 else g.op.getD x 0 := fun x hx => by
    show (setA 8 0 g.op w _).getD x 0 = _
    rw [setA_get (by omega), Int.toNat_natCast]
  have gm : ∀ {t v}, Good g t v → Good g' t v := fun h => Good.mono (g := g) (g' := g') (by omega) (fun j hj => ⟨(hck j).1, (hck j).2.1⟩) (fun j hj h => ⟨h, rfl⟩) h
  obtain ⟨m', hm'⟩ : ∃ m', m' = respond m w res := ⟨_, rfl⟩
  rw [← hm']
  have ew : ∀ x, m'.who x = if x = w then doneP (m.who w) else m.who x := fun x => by rw [hm']; exact who_set (by omega)
  have hl : ∀ j, m'.let_ j = m.let_ j := fun j => by rw [hm']; rfl
  have hll : m'.letters.length = m.letters.length := by rw [hm']; rfl
  have hsi : ∀ s, m'.site s = m.site s := fun s => by rw [hm']; rfl
  have hth : (g.c.getD i Call.z).thing = 0 := by
    have := (z.run.wf.one i hil).thing
    simp only [List.length_singleton] at this
    omega
  have hS : StpX N [1] g.c g.op (m.events.length : Int) v0 g'.c g'.op := by
    refine ⟨⟨Int.natCast_nonneg _, by show (w : Int) < 8; omega⟩, ⟨by show (0 : Int) ≤ 0; decide, by show (0 : Int) < 1; decide⟩, .inr ⟨rfl, i, ?_, hil, hth, hres, rfl, rfl⟩⟩
    show g.op.getD ((w : Int)).toNat 0 = _
    rw [Int.toNat_natCast]; exact P.opn
  have hrun : Rn N [1] m'.events m'.events.length g'.c g'.op := by
    have := rn_more z.run hS
    rw [hm']; exact this
  have hff : ∀ j, j < g.c.length → (g.call j).from_ < m.events.length := fun j hj => (z.fr hj).2.1
  -- who was answered ahead of one is so still, and i is not
  have anst : ∀ a b, a < g.c.length → b < g.c.length → (g'.call a).to_ ≠ -1 → (g'.call a).to_ < (g'.call b).from_ → a ≠ i ∧ (g.call a).to_ ≠ -1 ∧ (g.call a).to_ < (g.call b).from_ := by
    intro a b ha hb h2 h3
    rw [(hck b).2.2.1] at h3
    rw [hc] at h2 h3
    by_cases e : a = i
    · rw [if_pos e] at h3
      have h3 : (m.events.length : Int) < (g.call b).from_ := h3
      have := hff b hb
      omega
    · rw [if_neg e] at h2 h3
      exact ⟨e, h2, h3⟩
  refine ⟨g', ⟨z.n1, z.np8, by rw [hm']; exact z.sl, by rw [hm']; simpa [respond] using z.pl, hrun, fun x hx hpx => ?_, fun x hx hpx => ?_, fun x hx b hb => ?_, fun j hj => by rw [(hck j).2.2.2]; exact z.wn j (by omega), fun s h => by rw [hsi]; exact gm (z.sg s h), fun j hj => by rw [hl]; exact z.lt j (by omega), fun j hj h => by rw [hl] at h ⊢; exact gm (z.lg j (by omega) h), fun j hj h4 h5 => by rw [hl] at h4 h5 ⊢; rw [hsi]; exact z.ls j (by omega) h4 h5, fun j hj h => by rw [hl] at h ⊢; exact z.rd j (by omega) h, fun j hj => ?_, fun j hj k1 k2 => ?_, fun j hj ha => ?_, fun a b ha hb k1 k2 k3 k4 => ?_, fun a b ha hb k1 k2 k3 k4 e => ?_⟩, fun x hx hne hpx hsx k hk => ?_, hcl⟩
  · rw [hop x hx]
    rw [ew] at hpx
    split
    · rfl
    · rename_i e; rw [if_neg e] at hpx; exact z.idle x hx hpx
  · by_cases e : x = w
    · rw [ew, if_pos e] at hpx; cases hpx
    · have e2 : m'.who x = m.who x := by rw [ew, if_neg e]
      rw [e2] at hpx
      obtain ⟨k, Pk⟩ := z.pend x hx hpx
      have hki : k ≠ i := fun h => by
        have a1 := Pk.cal.1
        rw [h, P.cal.1] at a1
        omega
      have hck2 : g'.call k = g.call k := by rw [hc, if_neg hki]
      refine ⟨k, by rw [hcl]; exact Pk.ilt, by rw [hop x hx, if_neg e]; exact Pk.opn, by rw [hck2, e2]; exact Pk.cal, ⟨by rw [hll]; exact Pk.bat.1, fun s hs2 => by rw [hl, e2]; exact Pk.bat.2 s hs2⟩, fun j hj q1 q2 => by rw [hl] at q1 q2; rw [e2] at q2; exact Pk.own j (by omega) q1 q2, ?_, by rw [e2]; exact Pk.zero, fun h => ?_, fun h => ?_⟩
      · rw [e2, Pk.rep]
        congr 1
        exact List.countP_congr fun s hs2 => by rw [hl]
      · rw [e2] at h
        have Q := Pk.qry h
        refine ⟨fun s hs2 hr => by rw [hl] at hr ⊢; rw [e2]; exact Q.best s hs2 hr, fun h => by rw [e2] at h ⊢; exact gm (Q.good h), fun b b1 b2 b3 b4 => ?_⟩
        obtain ⟨_, q1, q2⟩ := anst b k (by omega) Pk.ilt b2 b4
        refine (Q.low b (by omega) q1 ((hstr b).1 b3) q2).mono fun s hs2 hh => ?_
        rw [hl, hsi]; exact hh
      · rw [e2] at h
        have Q := Pk.sto h
        exact ⟨by rw [e2]; exact Q.tag, by rw [e2]; exact gm Q.good, fun s hs2 => by rw [hl, e2]; exact Q.lets s hs2⟩
  · rw [ew] at hb
    split at hb
    · rename_i e
      subst e
      exact z.ask x hx b (List.mem_of_mem_drop hb)
    · exact z.ask x hx b hb
  · rw [hl, ew]
    have := z.old j (by omega)
    split
    · rename_i e
      rw [e] at this
      show _ ≤ (m.who w).round + 1 ∧ (_ → _ < (m.who w).round + 1)
      exact ⟨by omega, fun _ => by omega⟩
    · exact this
  · rw [(hck j).1] at k2
    rw [(hck j).2.2.2]
    exact z.tw j (by omega) k1 k2
  · by_cases e : j = i
    · subst e
      rw [hc, if_pos rfl]
      refine ⟨h1, fun h => (hst h).mono fun s hs2 h => by rw [hsi]; exact h, hwr, fun h => ?_⟩
      rcases hrd h with h | ⟨k, q1, q2, q3, q4, q5⟩
      · exact .inl h
      · refine .inr ⟨k, by omega, q2, by rw [(hck k).1]; exact q3, q4, by rw [(hck k).2.1]; exact q5, ?_⟩
        rw [(hck k).2.2.1]
        exact hff k q1
    · rw [hc, if_neg e] at ha ⊢
      obtain ⟨d1, d2, d3, d4⟩ := z.dn j (by omega) ha
      refine ⟨d1, fun h => (d2 h).mono fun s hs2 h => by rw [hsi]; exact h, d3, fun h => ?_⟩
      rcases d4 h with h | ⟨k, q1, q2, q3, q4, q5, q6⟩
      · exact .inl h
      · exact .inr ⟨k, by omega, q2, by rw [(hck k).1]; exact q3, q4, by rw [(hck k).2.1]; exact q5, by rw [(hck k).2.2.1]; exact q6⟩
  · obtain ⟨_, q1, q2⟩ := anst a b (by omega) (by omega) k1 k2
    rw [(hck b).1]
    exact z.ord a b (by omega) (by omega) q1 q2 ((hstr a).1 k3) k4
  · rw [(hck a).1] at k3
    rw [(hck b).1] at k4
    exact z.uni a b (by omega) (by omega) k1 k2 k3 k4 e
  · rw [ew] at hpx hsx
    rw [hop x hx] at hk
    by_cases e : x = w
    · rw [if_pos e] at hk; omega
    · rw [if_neg e] at hpx hsx hk
      exact u x hx e hpx hsx k hk
end
end Si

end Go.Proofs.Yteklmleiiiodfaa
