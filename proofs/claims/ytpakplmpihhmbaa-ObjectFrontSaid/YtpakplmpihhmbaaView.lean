/- Windows on a row: elements by them, clear, copy. It speaks of every program. -/
import Derived.Test.YtpakplmpihhmbaaNest
set_option linter.unusedVariables false
set_option linter.unusedSimpArgs false
set_option linter.unusedSectionVars false
namespace Go.Proofs.Ytpakplmpihhmbaa
open Go.RowKit
section
variable {α : Type}
theorem ix_view {xs : List α} {lo hi i : Int} {x : α} (hs : slB xs.length lo hi = true) (h : ix ((xs.take hi.toNat).drop lo.toNat) i = some x) : ix xs (lo + i) = some x := by
  have h0 := slB_le hs
  have h1 := ix_lt h
  have h2 := ix_get h
  rw [List.getElem?_drop, List.getElem?_take] at h2
  unfold ix
  rw [if_pos (by omega)]
  have e : (lo + i).toNat = lo.toNat + i.toNat := by omega
  rw [e]
  split at h2
  · exact h2
  · cases h2
theorem ix_view0 {xs : List α} {hi i : Int} {x : α} (h : ix (xs.take hi.toNat) i = some x) : ix xs i = some x := by
  have h1 := ix_lt h
  have h2 := ix_get h
  rw [List.getElem?_take] at h2
  unfold ix
  rw [if_pos (by omega)]
  split at h2
  · exact h2
  · cases h2
theorem ix_view1 {xs : List α} {lo i : Int} {x : α} (hl : 0 ≤ lo) (h : ix (xs.drop lo.toNat) i = some x) : ix xs (lo + i) = some x := by
  have h1 := ix_lt h
  have h2 := ix_get h
  rw [List.getElem?_drop] at h2
  unfold ix
  rw [if_pos (by omega), show (lo + i).toNat = lo.toNat + i.toNat by omega]
  exact h2
/-- Some of it is overwritten. -/
def ovr (xs : List α) (lo : Nat) (ys : List α) : List α := (xs.take lo ++ (ys ++ xs.drop (lo + ys.length))).take xs.length
@[simp] theorem ovr_len (xs : List α) (lo : Nat) (ys : List α) : (ovr xs lo ys).length = xs.length := by
  unfold ovr
  simp only [List.length_append, List.length_take, List.length_drop]
  omega
theorem ovr_eq {xs : List α} {lo : Nat} {ys : List α} (h : lo + ys.length ≤ xs.length) : ovr xs lo ys = xs.take lo ++ (ys ++ xs.drop (lo + ys.length)) := by
  unfold ovr
  apply List.take_of_length_le
  simp only [List.length_append, List.length_take, List.length_drop]
  omega
theorem fit2 {xs : List α} {lo hi : Int} (h : slB xs.length lo hi = true) : lo.toNat + ((xs.take hi.toNat).drop lo.toNat).length ≤ xs.length := by
  have := slB_le h
  simp only [List.length_drop, List.length_take]; omega
theorem fit1 {xs : List α} {lo : Int} (h : slB xs.length lo xs.length = true) : lo.toNat + (xs.drop lo.toNat).length ≤ xs.length := by
  have := slB_le h
  simp only [List.length_drop]; omega
theorem fit0 {xs : List α} {hi : Int} : (0 : Int).toNat + (xs.take hi.toNat).length ≤ xs.length := by
  simp only [List.length_take]; show 0 + _ ≤ _; omega
theorem ovr_flat {enc : α → List Value} {sz : Nat} (hz : ∀ a, (enc a).length = sz) {xs ys : List α} {lo : Nat} (h : lo + ys.length ≤ xs.length) : (ovr xs lo ys).flatMap enc = (xs.flatMap enc).take (lo * sz) ++ ys.flatMap enc ++ (xs.flatMap enc).drop (lo * sz + (ys.flatMap enc).length) := by
  have h1 : (xs.take lo).flatMap enc = (xs.flatMap enc).take (lo * sz) := by
    have h2 : xs.flatMap enc = (xs.take lo).flatMap enc ++ (xs.drop lo).flatMap enc := by rw [← List.flatMap_append, List.take_append_drop]
    have h3 : ((xs.take lo).flatMap enc).length = lo * sz := by rw [flat_len hz, List.length_take, Nat.min_eq_left (by omega)]
    rw [h2, ← h3, List.take_left]
  have h4 : (xs.drop (lo + ys.length)).flatMap enc = (xs.flatMap enc).drop (lo * sz + (ys.flatMap enc).length) := by
    have h2 : xs.flatMap enc = (xs.take (lo + ys.length)).flatMap enc ++ (xs.drop (lo + ys.length)).flatMap enc := by rw [← List.flatMap_append, List.take_append_drop]
    have h3 : ((xs.take (lo + ys.length)).flatMap enc).length = lo * sz + (ys.flatMap enc).length := by rw [flat_len hz, flat_len hz, List.length_take, Nat.min_eq_left (by omega), Nat.add_mul]
    rw [h2, ← h3, List.drop_left]
  rw [ovr_eq h, List.flatMap_append, List.flatMap_append, h1, h4, List.append_assoc]
theorem ovr_take {β : Type} {cl vs : List β} {p q : Nat} (hq : q ≤ cl.length) (hf : p + vs.length ≤ q) : (cl.take p ++ vs ++ cl.drop (p + vs.length)).take q = (cl.take q).take p ++ vs ++ (cl.take q).drop (p + vs.length) := by
  rw [List.take_take, Nat.min_eq_left (by omega), List.take_append, List.length_append, List.length_take, Nat.min_eq_left (by omega), List.take_of_length_le (by rw [List.length_append, List.length_take]; omega), List.drop_take]
end
section
variable {α : Type} {n sz j off p : Nat} {enc : α → List Value} {d x x' : α} {a : List α} {pre post : List Value} {v : Value}
theorem cellsAp {i : Nat} (hz : ∀ x, (enc x).length = sz) (hp : pre.length = off) (hi : i < n) (hx : a.getD i d = x) (hv : (enc x)[j]? = some v) (hpp : p = off + i * sz + j) :
    (pre ++ (encA n enc d a ++ post))[p]? = some v := by rw [hpp]; exact cellsA hz hp hi hx hv
theorem cellsSet0 {i : Int} (hz : ∀ x, (enc x).length = sz) (hi : 0 ≤ i ∧ i < n) (hx : a.getD i.toNat d = x) (hj : j < sz) (hs : (enc x).set j v = enc x') (hpp : p = i.toNat * sz + j) :
    (encA n enc d a).set p v = encA n enc d (setA n d a i x') := by
  have := cellsSet (pre := []) (post := []) (off := 0) hz rfl hi hx hj hs (p := p) (by omega)
  simpa using this
end
section
variable {P : Program} {n : Nat} {base : Nat} {w0 w : World} {L : List Chunk} {e : Env}
variable {ops rest : List Oper} {Q : Exit → Act → World → Prop} {K : Act → World → Prop} {d : Nat} {D : Option Tmp} {op : Op} {t : TypeId} {pos : String} {af : Array Edge} {G : Option (Nat × Bool)} {x y z : Operand} {v : Value}
variable {α : Type} {enc : α → List Value} {sz : Nat} {A : Option Addr} {cap k m c E E' T i : Nat} {xs ys : List α} {kd : IntKind} {idx lo : Int}
theorem Evs.len {n : Nat} {e : Env} {x : Operand} {A : Option Addr} {m m' c : Nat} (h : Evs n e x (.slice A m c)) (q : m = m') : Evs n e x (.slice A m' c) := q ▸ h
theorem SlIn.re {n m : Nat} (h : SlIn enc sz w (.slice A n c) xs) (e : n = m) : SlIn enc sz w (.slice A m c) xs := e ▸ h
theorem sub_el (ho : okA A) (hc : lo.toNat < cap) (hl : 0 ≤ lo) (hi : 0 ≤ idx) (k : Nat) : okA (subA A cap lo.toNat k) ∧ elA (subA A cap lo.toNat k) (idx.toNat * k) = elA A ((lo + idx).toNat * k) := by
  obtain ⟨h1, h2⟩ := ho
  cases A with
  | none => cases h1
  | some p =>
    obtain ⟨b, o, s⟩ := p
    obtain rfl : s = none := h2 _ rfl
    have e : subA (some ⟨b, o, none⟩) cap lo.toNat k = some ⟨b, o + lo.toNat * k, none⟩ := by
      unfold subA
      rw [if_neg (by omega)]
      simp [add_none]
    rw [e]
    refine ⟨⟨rfl, fun p hp => by cases hp; rfl⟩, ?_⟩
    simp only [elA, Addr.mk.injEq, true_and, and_true]
    have e : (lo + idx).toNat = lo.toNat + idx.toNat := by omega
    rw [e, Nat.add_mul, Nat.add_assoc]
/-- An element by a window. -/
theorem Y.viewEl (hT : P.underlying T = some (.slice E)) (hk : P.cellsOf E = k + 1) (hi : L[i]? = some (cR enc sz A cap E' xs)) (hx : Evs n e x (.slice (subA A cap lo.toNat (k + 1)) m c)) (hy : Evs n e y (.int kd idx)) (hl : 0 ≤ lo) (hb : 0 ≤ idx ∧ idx < m) (hb2 : lo + idx < xs.length) :
    Yd P n base w0 e L ⟨D, .indexAddr T x y, t, pos, af, G⟩ (.pointer (some (elA A ((lo + idx).toNat * (k + 1))))) := by
  intro a w ha hw
  have hr := hw.row_lim hi
  obtain ⟨h1, h2⟩ := sub_el (hr.2.2 (by omega)) (show lo.toNat < cap by have := hr.1; omega) hl hb.1 (k + 1)
  rw [← h2]
  exact Y.elemZ (base := base) (w0 := w0) (L := L) hT hk hx hy hb h1 a w ha hw
theorem Y.viewEl0 (hT : P.underlying T = some (.slice E)) (hk : P.cellsOf E = k + 1) (hi : L[i]? = some (cR enc sz A cap E' xs)) (hx : Evs n e x (.slice A m c)) (hy : Evs n e y (.int kd idx)) (hb : 0 ≤ idx ∧ idx < m) (hb2 : idx < xs.length) :
    Yd P n base w0 e L ⟨D, .indexAddr T x y, t, pos, af, G⟩ (.pointer (some (elA A (idx.toNat * (k + 1))))) := by
  intro a w ha hw
  have hr := hw.row_lim hi
  exact Y.elemZ (base := base) (w0 := w0) (L := L) hT hk hx hy hb (hr.2.2 (by omega)) a w ha hw
theorem zero_flat {z : α} (hz : ∀ a, (enc a).length = sz) (n : Nat) {cs : Array Value} (hc : cs.toList = enc z) : (Builtin.zeroCells cs n).toList = (List.replicate n z).flatMap enc := by
  have hs : cs.size = sz := by rw [← hz z, ← hc]; simp
  have hfl : ((List.replicate n z).flatMap enc).length = n * sz := by rw [flat_len hz]; simp
  apply List.ext_getElem
  · simp [Builtin.zeroCells, hs, hfl]
  · intro q h1 h2
    have hq : q < n * sz := by rw [hfl] at h2; exact h2
    have hpos : 0 < sz := by
      rcases Nat.eq_zero_or_pos sz with h | h
      · rw [h] at hq; omega
      · exact h
    have hd : q / sz < n := (Nat.div_lt_iff_lt_mul hpos).2 hq
    have hm : q % sz < sz := Nat.mod_lt _ hpos
    have e1 : q = q / sz * sz + q % sz := by rw [Nat.mul_comm]; exact (Nat.div_add_mod q sz).symm
    have h3 := flat_get hz (List.replicate n z) (q / sz) (q % sz) (by simpa using hd) hm
    rw [← e1, List.getElem?_eq_getElem h2] at h3
    simp only [List.getElem_replicate] at h3
    have h4 : (enc z)[q % sz]? = some cs[q % sz]! := by
      rw [← hc]
      simp [hs, hm]
    rw [h4] at h3
    rw [Option.some.inj h3]
    simp [Builtin.zeroCells, hs]
/-- A row, some of it overwritten, by a window on it. -/
theorem row_ovr (hz : ∀ a, (enc a).length = sz) (h1 : ∀ a, ∀ u ∈ enc a, u.oneCell' = true) (hw : St base w0 L w) (hi : L[i]? = some (cR enc sz A cap E' xs)) (hl : 0 ≤ lo) (hb : lo.toNat + ys.length ≤ xs.length) (hne : 0 < ys.length) :
    ∃ ad w', subA A cap lo.toNat sz = some ad ∧ (storeCells ad (ys.flatMap enc)).run P w = .ok () w' ∧ St base w0 (L.set i (cR enc sz A cap E' (ovr xs lo.toNat ys))) w' := by
  have hr := hw.row_lim hi
  obtain ⟨hlen, hs⟩ := hw.sat _ (List.mem_of_getElem? hi)
  rcases hs with ⟨h2, h3, h4⟩ | ⟨g, cur, hA, hx, hmc, hcm, hcs, htake⟩
  · omega
  · subst hA
    have hg : w.heap[g]? = some (.cells cur E' (0, 0)) := hx
    have hvl : (ys.flatMap enc).length = ys.length * sz := flat_len hz ys
    have hxl : (xs.flatMap enc).length = xs.length * sz := flat_len hz xs
    have hfit : lo.toNat * sz + (ys.flatMap enc).length ≤ xs.length * sz := by
      rw [hvl, ← Nat.add_mul]; exact Nat.mul_le_mul_right _ hb
    have hcap : xs.length * sz ≤ cap * sz := Nat.mul_le_mul_right _ hmc
    have hst := run_storeCells_at P g (lo.toNat * sz) E' (ys.flatMap enc) 0 cur w hg (by omega) (fun u hu => by
      obtain ⟨a, _, ha⟩ := List.mem_flatMap.1 hu
      exact h1 a u ha)
    rw [Nat.add_zero] at hst
    refine ⟨⟨g, lo.toNat * sz, none⟩, _, ?_, hst, ?_⟩
    · unfold subA
      rw [if_neg (by omega)]
      simp [add_none]
    · refine setRow_sat (o := lo.toNat * sz) (cs := ys.flatMap enc) hw hi rfl rfl hg ?_
      have hol := ovr_len xs lo.toNat ys
      refine ⟨by rw [flat_len hz], .inr ⟨g, _, rfl, rfl, by rw [hol]; exact hmc, hcm, ?_, ?_⟩⟩
      · simp only [List.size_toArray, List.length_append, List.length_take, List.length_drop, Array.length_toList]
        omega
      · rw [hol, ovr_flat hz hb, ← htake]
        have hcl : cur.toList.length = cur.size := Array.length_toList
        revert hfit hcap
        generalize ys.flatMap enc = vs
        generalize cur.toList = cl at hcl ⊢
        generalize lo.toNat * sz = p
        generalize xs.length * sz = q
        intro hfit hcap
        exact ovr_take (by omega) hfit
theorem set_self {β : Type} {l : List β} {i : Nat} {a : β} (h : l[i]? = some a) : l.set i a = l := by
  obtain ⟨hlt, he⟩ := List.getElem?_eq_some_iff.1 h
  rw [← he]; simp
/-- clear, by a window. -/
theorem WO.clearV {z : α} {zv : Value} {Ax : Option Addr} (hT : P.underlying T = some (.slice E)) (hzv : ∃ i, P.info? E = some i ∧ i.zero = some zv) (hzc : zv.cells.toList = enc z) (hz : ∀ a, (enc a).length = sz) (h1 : ∀ a, ∀ u ∈ enc a, u.oneCell' = true)
    (hi : L[i]? = some (cR enc sz A cap E' xs)) (hx : Evs n e x (.slice Ax m c)) (hA : okA A → Ax = subA A cap lo.toNat sz) (hl : 0 ≤ lo) (hb : lo.toNat + m ≤ xs.length) (hd : dOk D n = true)
    (h : KK n base w0 (setO D (.tuple #[]) e) (L.set i (cR enc sz A cap E' (ovr xs lo.toNat (List.replicate m z)))) K) :
    WO P ops n base w0 e L ⟨D, .call { callee := .builtin .clear, args := #[x], argTypes := #[T] }, t, pos, af, none⟩ K Q := by
  refine WO.of_run rfl fun a w ha hw => ?_
  obtain ⟨inf, hinf, hzero⟩ := hzv
  rcases Nat.eq_zero_or_pos m with hm | hm
  · subst hm
    have hrun : (Builtin.clear_ #[T] t #[.slice Ax 0 c]).run P w = .ok (.tuple #[]) w := by
      cases Ax <;> simp [Builtin.clear_, run_underlying hT]
    unfold Oper.wp execOp
    simp only [resolve, invoke, builtin, Sem.run_bind, Sem.run_pure, Result.andThen_ok, List.map_toArray, List.map_cons, List.map_nil, hx a ha, hrun]
    have e0 : ovr xs lo.toNat (List.replicate 0 z) = xs := by simp [ovr]
    rw [e0, set_self hi] at h
    exact h _ _ (ha.putO hd) hw
  · obtain ⟨ad, w', e1, e2, e3⟩ := row_ovr (P := P) (ys := List.replicate m z) hz h1 hw hi hl (by simpa using hb) (by simpa using hm)
    have hr := hw.row_lim hi
    have hA := hA (hr.2.2 (by omega))
    rw [e1] at hA
    subst hA
    obtain ⟨m', rfl⟩ : ∃ m', m = m' + 1 := ⟨m - 1, by omega⟩
    have hrun : (Builtin.clear_ #[T] t #[.slice (some ad) (m' + 1) c]).run P w = .ok (.tuple #[]) w' := by
      have hzz : (zeroValue E).run P w = .ok zv w := by simp [zeroValue, typeInfo, hinf, hzero]
      simp [Builtin.clear_, run_underlying hT, hzz, zero_flat hz (m' + 1) hzc, e2]
    unfold Oper.wp execOp
    simp only [resolve, invoke, builtin, Sem.run_bind, Sem.run_pure, Result.andThen_ok, List.map_toArray, List.map_cons, List.map_nil, hx a ha, hrun]
    exact h _ _ (ha.putO hd) e3
theorem subA_zero {A : Option Addr} (h : ∀ p, A = some p → p.spot = none) (c k : Nat) : subA A c 0 k = A := by
  cases A with
  | none => unfold subA; split <;> rfl
  | some p =>
    obtain ⟨b, o, s⟩ := p
    obtain rfl : s = none := h _ rfl
    unfold subA
    split
    · rfl
    · simp [add_none]
/-- The cells of a begin of a slice, as they are loaded. -/
theorem SlIn.loads {A2 : Option Addr} {c2 m2 nn : Nat} (hz : ∀ a, (enc a).length = k + 1) (h : SlIn enc (k + 1) w (.slice A2 m2 c2) ys) (hn : nn ≤ ys.length) :
    (Builtin.firstCells (k + 1) nn (.slice A2 m2 c2)).run P w = .ok ((ys.take nn).flatMap enc).toArray w := by
  have hml : m2 = ys.length := by
    obtain ⟨a', c', e', -, -⟩ := h
    simpa using (by simpa using e' : A2 = a' ∧ m2 = ys.length ∧ c2 = c').2.1
  subst hml
  cases A2 with
  | none =>
    have hy0 : ys = [] := by
      cases ys with
      | nil => rfl
      | cons b r =>
        have := (h.okA' (idx := 0) ⟨Int.le_refl _, by simp⟩).1
        cases this
    subst hy0
    simp [Builtin.firstCells]
  | some ad =>
    have hl : ((ys.take nn).flatMap enc).length = nn * (k + 1) := by rw [flat_len hz, List.length_take, Nat.min_eq_left hn]
    show (loadCells ad (nn * (k + 1))).run P w = _
    rw [← hl]
    refine run_loadCells_list w ad _ fun j u hj => ?_
    have hjl : j < nn * (k + 1) := by rw [← hl]; exact (List.getElem?_eq_some_iff.1 hj).1
    have hq : j / (k + 1) < nn := (Nat.div_lt_iff_lt_mul (Nat.succ_pos k)).2 hjl
    have hr : j % (k + 1) < k + 1 := Nat.mod_lt _ (Nat.succ_pos k)
    have e1 : j = j / (k + 1) * (k + 1) + j % (k + 1) := by rw [Nat.mul_comm]; exact (Nat.div_add_mod j (k + 1)).symm
    rw [e1, flat_get hz (ys.take nn) _ _ (by rw [List.length_take]; omega) hr, List.getElem_take] at hj
    have hok := h.okA' (idx := ((j / (k + 1) : Nat) : Int)) ⟨Int.natCast_nonneg _, Int.ofNat_lt.2 (by omega)⟩
    have := h.cells (List.getElem?_eq_getElem (show j / (k + 1) < ys.length by omega)) hj
    rw [← e1] at this
    obtain ⟨b, o, s⟩ := ad
    obtain rfl : s = none := hok.2 _ rfl
    rw [add_none]
    simpa [elA] using this
/-- copy, into a window. -/
theorem WO.copyV {T2 m2 c2 : Nat} {A2 Ax : Option Addr} (hT : P.underlying T = some (.slice E)) (hk : P.cellsOf E = k + 1) (hsz : sz = k + 1) (hz : ∀ a, (enc a).length = sz) (h1 : ∀ a, ∀ u ∈ enc a, u.oneCell' = true)
    (hi : L[i]? = some (cR enc sz A cap E' xs)) (hx : Evs n e x (.slice Ax m c)) (hA : okA A → Ax = subA A cap lo.toNat sz) (hy : Evs n e y (.slice A2 m2 c2)) (hs : ∀ w, St base w0 L w → SlIn enc sz w (.slice A2 m2 c2) ys) (hl : 0 ≤ lo) (hb : lo.toNat + m ≤ xs.length) (hd : dOk D n = true)
    (h : KK n base w0 (setO D (.int .i64 ((min m ys.length : Nat) : Int)) e) (L.set i (cR enc sz A cap E' (ovr xs lo.toNat (ys.take (min m ys.length))))) K) :
    WO P ops n base w0 e L ⟨D, .call { callee := .builtin .copy, args := #[x, y], argTypes := #[T, T2] }, t, pos, af, none⟩ K Q := by
  subst hsz
  refine WO.of_run rfl fun a w ha hw => ?_
  have hS := hs w hw
  have hml : m2 = ys.length := by
    obtain ⟨a', c', e', -, -⟩ := hS
    simpa using (by simpa using e' : A2 = a' ∧ m2 = ys.length ∧ c2 = c').2.1
  subst hml
  have hload := hS.loads (P := P) hz (nn := min m ys.length) (Nat.min_le_right _ _)
  have hlt : (ys.take (min m ys.length)).length = min m ys.length := by rw [List.length_take]; omega
  rcases Nat.eq_zero_or_pos (min m ys.length) with hm | hm
  · have hrun : (Builtin.copy_ #[T, T2] t #[.slice Ax m c, .slice A2 ys.length c2]).run P w = .ok (.int .i64 ((min m ys.length : Nat) : Int)) w := by
      rw [hm] at hload ⊢
      cases Ax <;> simp [Builtin.copy_, run_underlying hT, run_size hk, Builtin.lenOf, show ys.length.min m = 0 from (Nat.min_comm _ _).trans hm, hload, storeCells, goInt]
    unfold Oper.wp execOp
    simp only [resolve, invoke, builtin, Sem.run_bind, Sem.run_pure, Result.andThen_ok, List.map_toArray, List.map_cons, List.map_nil, hx a ha, hy a ha, hrun]
    have e0 : ovr xs lo.toNat (ys.take (min m ys.length)) = xs := by rw [hm]; simp [ovr]
    rw [e0, set_self hi] at h
    exact h _ _ (ha.putO hd) hw
  · have hr := hw.row_lim hi
    obtain ⟨ad, w', e1, e2, e3⟩ := row_ovr (P := P) (ys := ys.take (min m ys.length)) hz h1 hw hi hl (by rw [hlt]; omega) (by omega)
    have hA := hA (hr.2.2 (by omega))
    rw [e1] at hA
    subst hA
    have hrun : (Builtin.copy_ #[T, T2] t #[.slice (some ad) m c, .slice A2 ys.length c2]).run P w = .ok (.int .i64 ((min m ys.length : Nat) : Int)) w' := by
      simp [Builtin.copy_, run_underlying hT, run_size hk, Builtin.lenOf, show ys.length.min m = min m ys.length from Nat.min_comm _ _, hload, e2, goInt]
    unfold Oper.wp execOp
    simp only [resolve, invoke, builtin, Sem.run_bind, Sem.run_pure, Result.andThen_ok, List.map_toArray, List.map_cons, List.map_nil, hx a ha, hy a ha, hrun]
    exact h _ _ (ha.putO hd) e3
theorem Y.mulW {tx : TypeId} {p q : Int} {ty : TypeId} (hx : Evs n e x (.int kd p)) (hy : Evs n e y (.int kd q)) : Yd P n base w0 e L ⟨D, .binOp .mul tx x y ty, t, pos, af, G⟩ (.int kd (kd.wrap (p * q))) := by
  intro a w ha _; simp [execOp, hx a ha, hy a ha, eqGuard, binOp, Op.intArith]
end
end Go.Proofs.Ytpakplmpihhmbaa
