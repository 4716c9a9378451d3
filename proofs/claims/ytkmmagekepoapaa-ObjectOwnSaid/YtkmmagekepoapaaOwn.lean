/- append to an empty slice of numbers: what lies behind the new slice's end is told, too; a slice made as long as it may be. -/
import Derived.Test.YtkmmagekepoapaaDec
set_option linter.unusedVariables false
set_option linter.unusedSimpArgs false
set_option linter.unusedSectionVars false
namespace Go.Proofs.Ytkmmagekepoapaa
open Go.RowKit
section
variable {P : Program} {n : Nat} {base : Nat} {w0 w : World} {L : List Chunk} {e : Env}
variable {ops rest : List Oper} {Q : Exit → Act → World → Prop} {d : Nat} {D : Option Tmp} {op : Op} {t : TypeId} {pos : String} {af : Array Edge} {G : Option (Nat × Bool)} {v u : Value} {x y z : Operand}
variable {K : Act → World → Prop}

theorem zeros_ints (k : Nat) : (Builtin.zeroCells #[Value.int .i64 0] k).toList = (List.replicate k (0 : Int)).flatMap (eI .i64) := by
  have e1 : ∀ m : Nat, (List.replicate m (0 : Int)).flatMap (eI .i64) = List.replicate m (Value.int .i64 0) := by
    intro m
    induction m with
    | zero => rfl
    | succ m ih => rw [List.replicate_succ, List.flatMap_cons, ih, List.replicate_succ]; rfl
  rw [e1]
  refine List.eq_replicate_iff.2 ⟨by simp [Builtin.zeroCells], fun b hb => ?_⟩
  simp only [Builtin.zeroCells, Array.toList_map, List.mem_map] at hb
  obtain ⟨i, -, rfl⟩ := hb
  have : i % (#[Value.int .i64 0] : Array Value).size = 0 := Nat.mod_one i
  rw [this]; rfl

theorem WO.appendF {t E i c m b : Nat} {ad : Addr} {ty : TypeId} {xs : List Int} (hT : P.underlying t = some (.slice E)) (hz : ∃ i, P.info? E = some i ∧ i.zero = some (.int .i64 0) ∧ i.size = 1 ∧ i.bytes = 8)
    (hx : Evs n e x (.slice (some ⟨b, 0, none⟩) 0 0)) (hy : Evs n e y (.slice (some ad) m c)) (hi : L[i]? = some (cR (eI .i64) 1 (some ⟨b, 0, none⟩) 0 E ([] : List Int))) (hs : ∀ w, St base w0 L w → SlIn (eI .i64) 1 w (.slice (some ad) m c) xs) (hb : limB 8 xs.length = true) (hd : Nat.blt d n = true)
    (h : ∀ A' cap' (ys : List Int), (xs ++ ys).length = cap' → KK n base w0 ((d, .slice A' xs.length cap') :: e) (L.set i (cR (eI .i64) 1 A' cap' E (xs ++ ys))) K) :
    WO P ops n base w0 e L ⟨some d, .call { callee := .builtin .append, args := #[x, y], argTypes := #[t, t] }, ty, pos, af, none⟩ K Q := by
  refine WO.of_run rfl fun a w ha hw => ?_
  have hs0 := hs w hw
  have hml : m = xs.length := by
    obtain ⟨a', c', e', -, -⟩ := hs0
    simpa using (by simpa using e' : some ad = a' ∧ m = xs.length ∧ c = c').2.1
  subst hml
  obtain ⟨hb1, hb2⟩ := limB_le hb
  obtain ⟨inf, hinf, hzz, hsz, hbt⟩ := hz
  have hfl : (xs.flatMap (eI .i64)).length = xs.length * 1 := flat_len (enc := eI .i64) (sz := 1) (fun _ => rfl) xs
  have hl : (xs.flatMap (eI .i64)).length = xs.length * inf.size := by rw [hsz]; exact hfl
  have hnews : ∀ j u, (xs.flatMap (eI .i64))[j]? = some u → w.cell? (ad.add j) = some u := by
    intro j u hj
    have hq : j < xs.length := by have := (List.getElem?_eq_some_iff.1 hj).1; omega
    have e1 : j = j * 1 + 0 := by omega
    rw [e1, flat_get (enc := eI .i64) (sz := 1) (fun _ => rfl) xs _ _ hq (by decide)] at hj
    have hok := hs0.okA' (idx := (j : Int)) ⟨Int.natCast_nonneg _, Int.ofNat_lt.2 hq⟩
    have := hs0.cells (List.getElem?_eq_getElem hq) hj
    rw [← e1] at this
    obtain ⟨b, o, s⟩ := ad
    obtain rfl : s = none := hok.2 _ rfl
    rw [add_none]
    simpa [elA] using this
  have h1 : ∀ u ∈ xs.flatMap (eI .i64), u.oneCell' = true := fun u hu => by
    obtain ⟨a, _, ha⟩ := List.mem_flatMap.1 hu
    exact oneI a u ha
  obtain ⟨hl0, hrow⟩ := hw.sat _ (List.mem_of_getElem? hi)
  rcases hrow with ⟨h9, _⟩ | ⟨g, cur, hg, hxx, hmc, hcm, hcs, htake⟩
  · cases h9
  obtain rfl : b = g := by simpa using hg
  have hxx' : w.heap[b]? = some (.cells cur E (0, 0)) := hxx
  have hcur : cur = #[] := Array.eq_empty_of_size_eq_zero (by simpa using hcs)
  subst hcur
  unfold Oper.wp execOp
  by_cases hm : xs.length = 0
  · have hx0 : xs = [] := List.eq_nil_of_length_eq_zero hm
    subst hx0
    have hr := run_append_room (P := P) w t ty E inf hT hinf b 0 0 #[] hxx' ad 0 c [] (by simp) (by intro j u hj; cases hj) (by intro u hu; cases hu) (Nat.le_refl _) (by simp)
    simp only [resolve, invoke, builtin, Sem.run_bind, Sem.run_pure, Result.andThen_ok, List.map_toArray, List.map_cons, List.map_nil, hx a ha, hy a ha, List.length_nil, hr]
    refine h (some ⟨b, 0, none⟩) 0 [] rfl _ _ (ha.put d _ hd) (hw.grow (o := some b) (o' := some b) hi rfl rfl ⟨rfl, rfl, rfl, by simp [World.setRow], fun k _ hk => setRow_other w b k _ (fun e => hk (by rw [e]))⟩ (.inl rfl) (fun b' hb' => ?_) ?_)
    · obtain rfl := Option.some.inj hb'
      exact (Array.getElem?_eq_some_iff.1 (setRow_heap w b #[] _ E _ hxx')).1
    · exact ⟨rfl, .inr ⟨b, _, rfl, setRow_heap w b #[] _ E _ hxx', Nat.le_refl _, Nat.zero_le _, by simp, by simp⟩⟩
  · have hr := run_append_grow (P := P) w t ty E inf (.int .i64 0) hT hinf hzz ⟨b, 0, none⟩ 0 0 [] (by simp) (by intro j u hj; cases hj) ad xs.length c (xs.flatMap (eI .i64)) hl hnews (by omega) (by unfold maxLen at hb1; omega) (growslice_fits (by omega) (by rw [hbt, Nat.zero_add]; exact hb2))
    simp only [Nat.zero_add] at hr
    have hge := grownCap_ge w xs.length 0 E
    have hcm' : grownCap w xs.length 0 E ≤ maxLen := grownCap_le_maxLen w xs.length 0 E hb1
    simp only [resolve, invoke, builtin, Sem.run_bind, Sem.run_pure, Result.andThen_ok, List.map_toArray, List.map_cons, List.map_nil, hx a ha, hy a ha, hr]
    have hlen : (xs ++ List.replicate (grownCap w xs.length 0 E - xs.length) (0 : Int)).length = grownCap w xs.length 0 E := by simp; omega
    have hsize : ((#[] : Array Value) ++ (xs.flatMap (eI .i64)).toArray ++ Builtin.zeroCells #[Value.int .i64 0] (grownCap w xs.length 0 E - xs.length)).toList = (xs ++ List.replicate (grownCap w xs.length 0 E - xs.length) (0 : Int)).flatMap (eI .i64) := by
      simp only [Array.toList_append, List.flatMap_append, zeros_ints]; simp
    refine h (some ⟨w.heap.size, 0, none⟩) (grownCap w xs.length 0 E) (List.replicate (grownCap w xs.length 0 E - xs.length) 0) hlen _ _ (ha.put d _ hd) (hw.grow (o := some b) (o' := some w.heap.size) hi rfl rfl ⟨rfl, rfl, rfl, by simp, fun k hk _ => heap_alloc_old w.drew _ hk⟩ (.inr rfl) (fun b' hb' => ?_) ?_)
    · obtain rfl := Option.some.inj hb'
      simp [World.alloc]
    · refine ⟨by rw [flat_len (enc := eI .i64) (sz := 1) (fun _ => rfl)], .inr ⟨w.heap.size, _, rfl, heap_alloc_new w.drew _, by rw [hlen]; exact Nat.le_refl _, hcm', ?_, ?_⟩⟩
      · have := congrArg List.length hsize
        rw [flat_len (enc := eI .i64) (sz := 1) (fun _ => rfl), hlen] at this
        exact this
      · refine Eq.trans (congrArg _ hsize) ?_
        rw [← flat_len (enc := eI .i64) (sz := 1) (fun _ => rfl)]
        exact List.take_length
theorem St.row_max (h : St base w0 L w) {i cap E size m : Nat} {A : Option Addr} {xs : List Value} (hi : L[i]? = some (cRow A cap E size m xs)) : cap ≤ maxLen := by
  obtain ⟨hl, hs⟩ := h.sat _ (List.mem_of_getElem? hi)
  rcases hs with ⟨rfl, rfl, rfl⟩ | ⟨g, cur, rfl, hx, hmc, hcm, hcs, htake⟩
  · exact Nat.zero_le _
  · exact hcm
/-- cap. -/
theorem Y.cap {T E : TypeId} {a : Option Addr} {m cap : Nat} (hT : P.underlying T = some (.slice E)) (hx : Evs n e x (.slice a m cap)) :
    Yd P n base w0 e L ⟨D, .call { callee := .builtin .cap, args := #[x], argTypes := #[T] }, t, pos, af, G⟩ (.int .i64 (cap : Int)) := by
  intro a w ha _
  simp [execOp, resolve, invoke, builtin, Builtin.cap_, hx a ha, run_underlying hT, goInt]
end
end Go.Proofs.Ytkmmagekepoapaa
