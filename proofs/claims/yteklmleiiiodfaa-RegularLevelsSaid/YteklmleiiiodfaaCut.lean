/- Windows beyond their ends, full slices, append onto a window within the same row. It speaks of every program. -/
import Derived.Test.YteklmleiiiodfaaBor
set_option linter.unusedVariables false
set_option linter.unusedSimpArgs false
set_option linter.unusedSectionVars false
namespace Go.Proofs.Yteklmleiiiodfaa
open Go.RowKit
section
variable {P : Program} {n : Nat} {base : Nat} {w0 w : World} {L : List Chunk} {e : Env}
variable {ops rest : List Oper} {Q : Exit → Act → World → Prop} {K : Act → World → Prop} {d : Nat} {D : Option Tmp} {op : Op} {t : TypeId} {pos : String} {af : Array Edge} {G : Option (Nat × Bool)} {x y z u : Operand} {v : Value}
variable {α : Type} {enc : α → List Value} {sz : Nat} {A : Option Addr} {cap m k E E' T i : Nat} {xs ys : List α} {kd kd' kd'' : IntKind} {lo hi mx : Int}
/-- w[lo:hi] of a window w that begins where the row does: as of the row. -/
theorem Y.sliceV2 (hT : P.underlying T = some (.slice E)) (hk : P.cellsOf E = k + 1) (hi' : L[i]? = some (cR enc sz A cap E' xs)) (hx : Evs n e x (.slice A m cap)) (hy : Evs n e y (.int kd lo)) (hz : Evs n e z (.int kd' hi)) (hb : slB xs.length lo hi = true) :
    Yd P n base w0 e L ⟨D, .slice T x (some y) (some z) none, t, pos, af, G⟩ (.slice (subA A cap lo.toNat (k + 1)) ((xs.take hi.toNat).drop lo.toNat).length (cap - lo.toNat)) := by
  intro a w ha hw
  have hc := (hw.row_lim hi').1
  have hb := slB_le hb
  have h1 : hi ≤ (cap : Int) := by omega
  have h2 : lo ≤ Max.max hi 0 := by omega
  have h3 : 0 ≤ hi := by omega
  have h4 : Min.min hi.toNat xs.length = hi.toNat := by omega
  simp only [execOp, hx a ha, Option.map_some, Option.map_none, hy a ha, hz a ha]
  simp [Instr.sliceAt, Instr.slice, Instr.sliceBounds, Instr.sliceBound, asIntOf, run_underlying hT, run_size hk, hb.1, h1, h2, h3, h4, subA]
/-- x[lo:hi:mx], of a row. -/
theorem Y.slice3 (hT : P.underlying T = some (.slice E)) (hk : P.cellsOf E = k + 1) (hi' : L[i]? = some (cR enc sz A cap E' xs)) (hx : Evs n e x (.slice A m cap)) (hy : Evs n e y (.int kd lo)) (hz : Evs n e z (.int kd' hi)) (hu : Evs n e u (.int kd'' mx)) (hb : slB mx.toNat lo hi = true) (hm : slB xs.length 0 mx = true) :
    Yd P n base w0 e L ⟨D, .slice T x (some y) (some z) (some u), t, pos, af, G⟩ (.slice (subA A mx.toNat lo.toNat (k + 1)) (hi.toNat - lo.toNat) (mx.toNat - lo.toNat)) := by
  intro a w ha hw
  have hc := (hw.row_lim hi').1
  have hb := slB_le hb
  have hm := slB_le hm
  have h1 : mx ≤ (cap : Int) := by omega
  have h0 : 0 ≤ mx := by omega
  have h2 : lo ≤ Max.max hi 0 := by omega
  have h3 : 0 ≤ hi := by omega
  have h5 : hi ≤ Max.max mx 0 := by omega
  simp only [execOp, hx a ha, Option.map_some, Option.map_none, hy a ha, hz a ha, hu a ha]
  simp [Instr.sliceAt, Instr.slice, Instr.sliceBounds, Instr.sliceBound, asIntOf, run_underlying hT, run_size hk, hb.1, h0, h1, h2, h3, h5, subA]
theorem cutfit {n q : Nat} {hi : Int} (h0 : 0 ≤ hi) (h : slB n 0 (hi + (q : Int)) = true) (hn : n = xs.length) : hi.toNat + q ≤ xs.length := by
  have := slB_le h
  omega
/-- append onto a window that begins where the row does, of what fits within the row. -/
theorem WO.appendV {T m2 c2 d : Nat} {A2 : Option Addr} {ty : TypeId} (hT : P.underlying T = some (.slice E)) (hk : P.cellsOf E = k + 1) (hsz : sz = k + 1) (hz : ∀ a, (enc a).length = sz) (h1 : ∀ a, ∀ u ∈ enc a, u.oneCell' = true)
    (hi : L[i]? = some (cR enc sz A cap E' xs)) (hx : Evs n e x (.slice A m cap)) (hm : m = lo.toNat) (hy : Evs n e y (.slice A2 m2 c2)) (hs : ∀ w, St base w0 L w → SlIn enc sz w (.slice A2 m2 c2) ys) (hl : 0 ≤ lo) (hb : lo.toNat + ys.length ≤ xs.length) (hd : Nat.blt d n = true)
    (h : KK n base w0 ((d, .slice A ((ovr xs lo.toNat ys).take (lo + (ys.length : Int)).toNat).length cap) :: e) (L.set i (cR enc sz A cap E' (ovr xs lo.toNat ys))) K) :
    WO P ops n base w0 e L ⟨some d, .call { callee := .builtin .append, args := #[x, y], argTypes := #[T, T] }, ty, pos, af, none⟩ K Q := by
  subst hsz
  subst hm
  refine WO.of_run rfl fun a w ha hw => ?_
  have hS := hs w hw
  have hml : m2 = ys.length := by
    obtain ⟨a', c', e', -, -⟩ := hS
    simpa using (by simpa using e' : A2 = a' ∧ m2 = ys.length ∧ c2 = c').2.1
  subst hml
  have hload := hS.loads (P := P) hz (nn := ys.length) (Nat.le_refl _)
  rw [List.take_length] at hload
  have hr := hw.row_lim hi
  have hlen : ((ovr xs lo.toNat ys).take (lo + (ys.length : Int)).toNat).length = lo.toNat + ys.length := by
    rw [List.length_take, ovr_len]; omega
  rw [hlen] at h
  have hcap : lo.toNat + ys.length ≤ cap := by omega
  rcases Nat.eq_zero_or_pos ys.length with hq | hq
  · have hy0 : ys = [] := List.eq_nil_of_length_eq_zero hq
    subst hy0
    have hrun : (Builtin.append_ #[T, T] ty #[.slice A lo.toNat cap, .slice A2 ([] : List α).length c2]).run P w = .ok (.slice A (lo.toNat + 0) cap) w := by
      have hload : (Builtin.firstCells (k + 1) 0 (.slice A2 0 c2)).run P w = .ok #[] w := hload
      have hcap : lo.toNat ≤ cap := hcap
      cases A <;> simp [Builtin.append_, run_underlying hT, run_size hk, Builtin.lenOf, hload, storeCells, hcap]
    unfold Oper.wp execOp
    simp only [resolve, invoke, builtin, Sem.run_bind, Sem.run_pure, Result.andThen_ok, List.map_toArray, List.map_cons, List.map_nil, hx a ha, hy a ha, hrun]
    have e0 : ovr xs lo.toNat ([] : List α) = xs := by simp [ovr]
    rw [e0, set_self hi] at h
    exact h _ _ (ha.put d _ hd) hw
  · obtain ⟨ad, w', e1, e2, e3⟩ := row_ovr (P := P) (ys := ys) hz h1 hw hi hl hb hq
    have hrun : (Builtin.append_ #[T, T] ty #[.slice A lo.toNat cap, .slice A2 ys.length c2]).run P w = .ok (.slice A (lo.toNat + ys.length) cap) w' := by
      cases A with
      | none => unfold subA at e1; split at e1 <;> cases e1
      | some g =>
        have e1 : g.add (lo.toNat * (k + 1)) = ad := by
          unfold subA at e1
          rw [if_neg (by omega)] at e1
          exact Option.some.inj e1
        simp [Builtin.append_, run_underlying hT, run_size hk, Builtin.lenOf, hload, hcap, e1, e2]
    unfold Oper.wp execOp
    simp only [resolve, invoke, builtin, Sem.run_bind, Sem.run_pure, Result.andThen_ok, List.map_toArray, List.map_cons, List.map_nil, hx a ha, hy a ha, hrun]
    exact h _ _ (ha.put d _ hd) e3
end
end Go.Proofs.Yteklmleiiiodfaa
