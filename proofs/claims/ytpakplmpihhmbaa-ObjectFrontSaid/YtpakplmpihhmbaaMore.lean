/- More operations: maps' lengths, arrays' values, slices of arrays, append to nothing, results that lie in cells. -/
import Derived.Test.YtpakplmpihhmbaaAny
set_option linter.unusedVariables false
set_option linter.unusedSimpArgs false
set_option linter.unusedSectionVars false
namespace Go.Proofs.Ytpakplmpihhmbaa
open Go.RowKit
variable {P : Program} {n : Nat} {base : Nat} {w0 w : World} {L : List Chunk} {e : Env}
variable {ops rest : List Oper} {Q : Exit → Act → World → Prop} {d : Nat} {D : Option Tmp} {op : Op} {t : TypeId} {pos : String} {af : Array Edge} {G : Option (Nat × Bool)} {v u : Value} {x y z : Operand}
/-- len of a map. -/
theorem Y.lenMap {T KT E i b : Nat} {l : List (Int × Value)} (hT : P.underlying T = some (.map KT E)) (hx : Evs n e x (.map (some b))) (hi : L[i]? = some (cMap b l)) :
    Yd P n base w0 e L ⟨D, .call { callee := .builtin .len, args := #[x], argTypes := #[T] }, t, pos, af, G⟩ (.int .i64 (l.length : Int)) := by
  intro a w ha hw
  obtain ⟨es, clock, hb, hl⟩ := hw.sat _ (List.mem_of_getElem? hi)
  have hb' : w.heap[b]? = some (.map es clock) := hb
  have hs : es.size = l.length := by
    have := congrArg List.length hl
    simpa using this
  simp [execOp, resolve, invoke, builtin, Builtin.len_, hx a ha, run_underlying hT, run_getObj hb', goInt, hs]
/-- An element of an array that lies in a slot. -/
theorem Y.index {T E m i : Nat} {dE : TypeDesc} {kd : IntKind} {cs : Array Value} (hT : P.underlying T = some (.array m E)) (hE : P.underlying E = some dE) (hd : plainT dE = true) (hk : P.cellsOf E = 0 + 1) (hx : Evs n e x (.agg cs)) (hy : Evs n e y (.int kd (i : Int))) (hi : i < m) (hv : cs[i]? = some v) :
    Yd P n base w0 e L ⟨D, .index T x y, t, pos, af, G⟩ v := by
  intro a w ha _
  simp [execOp, hx a ha, hy a ha, Instr.index, asIntOf, run_underlying hT, hi, run_size hk, part, run_isAgg_plain hE hd, hv]
/-- x[:] of an array. -/
theorem Y.sliceArr {T E m k b o : Nat} (hT : P.underlying T = some (.array m E)) (hk : P.cellsOf E = k + 1) (hm : 0 < m) (hx : Evs n e x (.pointer (some ⟨b, o, none⟩))) :
    Yd P n base w0 e L ⟨D, .slice T x none none none, t, pos, af, G⟩ (.slice (some ⟨b, o, none⟩) m m) := by
  intro a w ha _
  have h0 : ¬ m = 0 := by omega
  simp [execOp, hx a ha, Instr.sliceAt, Instr.sureAddr, Instr.sliceBounds, run_underlying hT, run_size hk, h0, add_none]
section
variable {K : Act → World → Prop}
/-- append(nil, x...). -/
theorem WO.appendNil {t E size bytes k c : Nat} {news : List Value} {ad : Addr} {ty : TypeId} (hT : P.underlying t = some (.slice E)) (hz : ∃ i z, P.info? E = some i ∧ i.zero = some z ∧ i.size = size ∧ i.bytes = bytes ∧ z.cells.size = size ∧ 0 < size)
    (hx : Evs n e x (.slice none 0 0)) (hy : Evs n e y (.slice (some ad) k c)) (hnl : news.length = k * size) (hnews : ∀ w, St base w0 L w → ∀ j u, news[j]? = some u → w.cell? (ad.add j) = some u) (h1 : ∀ u ∈ news, u.oneCell' = true)
    (h63 : k ≤ maxLen) (hby : k * bytes ≤ 140737488355328) (hd : Nat.blt d n = true)
    (h : ∀ A' cap', KK n base w0 ((d, .slice A' k cap') :: e) (cRow A' cap' E size k news :: L) K) :
    WO P ops n base w0 e L ⟨some d, .call { callee := .builtin .append, args := #[x, y], argTypes := #[t, t] }, ty, pos, af, none⟩ K Q := by
  intro a w ha hw
  refine WO.append (L := cRow none 0 E size 0 [] :: L) (i := 0) (news := news) hT hz hx hy rfl hnl (fun w hw => hnews w (St.tail [_] hw)) h1 (by omega) (by rw [Nat.zero_add]; exact hby) hd (fun A' cap' => ?_) a w ha (hw.nilRow E size)
  have := h A' cap'
  simpa using this
end
/-- What the memory says. -/
theorem KK.know {F : Prop} {K : Act → World → Prop} (hF : ∀ w, St base w0 L w → F) (h : F → KK n base w0 e L K) : KK n base w0 e L K := fun a w ha hw => h (hF w hw) a w ha hw
/-- The end of a function whose result lies in a cell. -/
theorem W.endCell {fn : Func} {R : Ending → World → Prop} {p : Tmp} {ty k b : Nat} {dT : TypeDesc} {cs : List Value} (hr : fn.results = #[.cell p ty]) (hT : P.underlying ty = some dT) (hd : aggT dT = true) (hk : P.cellsOf ty = k + 1) (hp : e.get? p = some (.pointer (some ⟨b, 0, none⟩))) (hc : cs.length = k + 1)
    (hl : ∀ w, St base w0 L w → ∀ i v, cs[i]? = some v → w.cell? ⟨b, 0 + i, none⟩ = some v) (hQ : ∀ a w, bodyPost P fn R .normal a w → Q .normal a w) (h : ∀ w, St base w0 L w → R (.returned (.agg cs.toArray)) w) : ∀ a w, Fits n e a → St base w0 L w → Q .normal a w := by
  intro a w ha hw
  have h1 : (loadCells ⟨b, 0, none⟩ cs.length).run P w = .ok cs.toArray w := run_loadCells_list w ⟨b, 0, none⟩ cs (fun j v hj => by rw [add_none]; exact hl w hw j v hj)
  rw [hc] at h1
  have hg : a.tmps.getD p undef = .pointer (some ⟨b, 0, none⟩) := ha.get p _ hp
  have hg' : a.tmps[p]?.getD undef = .pointer (some ⟨b, 0, none⟩) := by simpa using hg
  refine hQ a w ⟨ha.defers, .agg cs.toArray, ?_, h w hw⟩
  simp only [results, hr]
  simp [hg', asAddr, loadVar, run_isAgg_agg hT hd, run_size hk, h1]
/-- A return out of a function whose result lies in a cell. -/
theorem W.retCell {fn : Func} {R : Ending → World → Prop} {p : Tmp} {ty k b : Nat} {dT : TypeDesc} {cs : List Value} (hr : fn.results = #[.cell p ty]) (hT : P.underlying ty = some dT) (hd : aggT dT = true) (hk : P.cellsOf ty = k + 1) (hp : e.get? p = some (.pointer (some ⟨b, 0, none⟩))) (hc : cs.length = k + 1)
    (hl : ∀ w, St base w0 L w → ∀ i v, cs[i]? = some v → w.cell? ⟨b, 0 + i, none⟩ = some v) (hQ : ∀ a w, bodyPost P fn R .ret a w → Q .ret a w) (h : ∀ w, St base w0 L w → R (.returned (.agg cs.toArray)) w) : W P n base w0 e L .ret Q := by
  intro a w ha hw
  have h1 : (loadCells ⟨b, 0, none⟩ cs.length).run P w = .ok cs.toArray w := run_loadCells_list w ⟨b, 0, none⟩ cs (fun j v hj => by rw [add_none]; exact hl w hw j v hj)
  rw [hc] at h1
  have hg : a.tmps.getD p undef = .pointer (some ⟨b, 0, none⟩) := ha.get p _ hp
  have hg' : a.tmps[p]?.getD undef = .pointer (some ⟨b, 0, none⟩) := by simpa using hg
  refine wp_ret (hQ a w ⟨ha.defers, .agg cs.toArray, ?_, h w hw⟩)
  simp only [results, hr]
  simp [hg', asAddr, loadVar, run_isAgg_agg hT hd, run_size hk, h1]
end Go.Proofs.Ytpakplmpihhmbaa
