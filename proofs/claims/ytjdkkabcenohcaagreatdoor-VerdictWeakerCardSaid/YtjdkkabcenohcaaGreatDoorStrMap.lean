/- Maps with strings for keys; strings made of bytes. It speaks of every program. (Printed by mkstr.py.) -/
import Derived.Test.YtjdkkabcenohcaaGreatDoorIface
import Derived.Laws.BytesString
set_option linter.unusedVariables false
set_option linter.unusedSimpArgs false
set_option linter.unusedSectionVars false
namespace Go.Proofs.YtjdkkabcenohcaaGreatDoor
open Go.RowKit
theorem bytesBeq (a b : ByteArray) : (a == b) = true ↔ a = b := by
  cases a with | mk a => cases b with | mk b => rw [show ((⟨a⟩ : ByteArray) == ⟨b⟩) = (a == b) from rfl, beq_iff_eq, ByteArray.mk.injEq]
instance : LawfulBEq ByteArray where
  eq_of_beq h := (bytesBeq _ _).1 h
  rfl := (bytesBeq _ _).2 rfl
section
variable {P : Program} {n : Nat} {base : Nat} {w0 w : World} {L : List Chunk} {e : Env}
variable {ops rest : List Oper} {Q : Exit → Act → World → Prop} {K : Act → World → Prop} {d : Nat} {D : Option Tmp} {op : Op} {t : TypeId} {pos : String} {af : Array Edge} {G : Option (Nat × Bool)} {x y z : Operand} {v u : Value}
def getIS : List (ByteArray × Value) → ByteArray → Option Value
  | [], _ => none
  | (a, v) :: r, k => if a = k then some v else getIS r k
def putIS : List (ByteArray × Value) → ByteArray → Value → List (ByteArray × Value)
  | [], k, v => [(k, v)]
  | (a, u) :: r, k, v => if a = k then (a, v) :: r else (a, u) :: putIS r k v
def MapIsS (es : Array MapEntry) (l : List (ByteArray × Value)) : Prop := es.toList.map (fun e => (e.key, e.val)) = l.map fun p => (Value.string p.1, p.2)
def cMapS (b : Nat) (l : List (ByteArray × Value)) : Chunk := .one (some b) fun x => ∃ es clock, x = some (.map es clock) ∧ MapIsS es l
def findIS : List (ByteArray × Value) → ByteArray → Option (Nat × Value)
  | [], _ => none
  | (a, v) :: r, k => if k = a then some (0, v) else (findIS r k).map fun p => (p.1 + 1, p.2)
theorem findI_getS (k : ByteArray) : ∀ l : List (ByteArray × Value), (findIS l k).map (·.2) = getIS l k
  | [] => rfl
  | (a, v) :: r => by
    simp only [findIS, getIS]
    by_cases h : k = a
    · subst h; simp
    · rw [if_neg h, if_neg (Ne.symm h), ← findI_getS k r]; cases findIS r k <;> rfl
theorem findNow_intS (k : ByteArray) : ∀ (es : List MapEntry) (l : List (ByteArray × Value)) (i : Nat), es.map (fun e => (e.key, e.val)) = l.map (fun p => (Value.string p.1, p.2)) →
    Instr.findNow .string (.string k) es i = some ((findIS l k).map fun p => (i + p.1, p.2))
  | [], l, i, h => by
    have : l = [] := by simpa using h.symm
    subst this; rfl
  | e :: es, [], i, h => by simp at h
  | e :: es, (a, v) :: l, i, h => by
    simp only [List.map_cons, List.cons.injEq, Prod.mk.injEq] at h
    obtain ⟨⟨h1, h2⟩, h3⟩ := h
    have ih := findNow_intS k es l (i + 1) h3
    unfold Instr.findNow
    rw [h1]
    by_cases hk : k = a
    · subst hk; simp [Instr.sameNow, findIS, h2]
    · have hb : (k == a) = false := by simpa using hk
      simp only [Instr.sameNow, if_true, hb, findIS, if_neg hk]
      rw [ih]
      cases findIS l k with
      | none => rfl
      | some p => simp [Nat.add_assoc, Nat.add_comm 1]
theorem findI_put_someS (k : ByteArray) (v : Value) : ∀ (es : List MapEntry) (l : List (ByteArray × Value)) (j : Nat) (u : Value), es.map (fun e => (e.key, e.val)) = l.map (fun p => (Value.string p.1, p.2)) → findIS l k = some (j, u) →
    (es.modify j fun e => { e with key := .string k, val := v }).map (fun e => (e.key, e.val)) = (putIS l k v).map (fun p => (Value.string p.1, p.2)) ∧ (es[j]?).map (·.key) = some (.string k)
  | [], l, j, u, h, hf => by
    have : l = [] := by simpa using h.symm
    subst this; cases hf
  | e :: es, [], j, u, h, hf => by cases hf
  | e :: es, (a, x) :: l, j, u, h, hf => by
    simp only [List.map_cons, List.cons.injEq, Prod.mk.injEq] at h
    obtain ⟨⟨h1, h2⟩, h3⟩ := h
    simp only [findIS] at hf
    by_cases hk : k = a
    · subst hk
      rw [if_pos rfl] at hf
      obtain ⟨rfl, rfl⟩ : 0 = j ∧ x = u := by simpa using hf
      simp [putIS, h1, h3]
    · rw [if_neg hk] at hf
      cases hf' : findIS l k with
      | none => rw [hf'] at hf; cases hf
      | some p =>
        rw [hf'] at hf
        obtain ⟨hj, hu⟩ : p.1 + 1 = j ∧ p.2 = u := by simpa using hf
        subst hj
        have := findI_put_someS k v es l p.1 p.2 h3 hf'
        simp only [putIS, if_neg (Ne.symm hk), List.modify_succ_cons, List.map_cons, h1, h2, this.1]
        exact ⟨trivial, by simpa using this.2⟩
theorem findI_put_noneS (k : ByteArray) (v : Value) : ∀ (l : List (ByteArray × Value)), findIS l k = none → putIS l k v = l ++ [(k, v)]
  | [], _ => rfl
  | (a, x) :: l, hf => by
    simp only [findIS] at hf
    by_cases hk : k = a
    · rw [if_pos hk] at hf; cases hf
    · rw [if_neg hk] at hf
      have := findI_put_noneS k v l (by cases h : findIS l k with | none => rfl | some p => rw [h] at hf; cases hf)
      simp [putIS, if_neg (Ne.symm hk), this]
theorem run_checkKey1S {P : Program} {w : World} {KT : Nat} (hK : P.underlying KT = some .string) (em : Bool) (k : ByteArray) (m : Nat) : (Instr.checkKey em (m + 1) KT (.string k)).run P w = .ok () w := by
  simp [Instr.checkKey, run_underlying hK]
theorem run_checkKeyS {P : Program} {w : World} {KT : Nat} (hK : P.underlying KT = some .string) (em : Bool) (k : ByteArray) : (Instr.checkKey em 10000 KT (.string k)).run P w = .ok () w :=
  run_checkKey1S hK em k 9999
theorem run_findKeyS {P : Program} {w : World} {KT : Nat} {es : Array MapEntry} {l : List (ByteArray × Value)} (hK : P.underlying KT = some .string) (hl : MapIsS es l) (k : ByteArray) : (Instr.findKey KT (.string k) es.toList).run P w = .ok (findIS l k) w := by
  unfold Instr.findKey
  rw [Sem.run_bind, run_underlying hK]
  simp only [Result.andThen_ok, findNow_intS k es.toList l 0 hl, Sem.run_pure]
  cases findIS l k <;> simp
theorem run_mapSetS {P : Program} {w : World} {T KT E b : Nat} {es : Array MapEntry} {clock : Nat} {l : List (ByteArray × Value)} (hT : P.underlying T = some (.map KT E)) (hK : P.underlying KT = some .string) (hb : w.heap[b]? = some (.map es clock)) (hl : MapIsS es l) (k : ByteArray) (v : Value) :
    ∃ es' clock', (Instr.mapUpdate T (.map (some b)) (.string k) v).run P w = .ok () { w with heap := w.heap.setIfInBounds b (.map es' clock') } ∧ MapIsS es' (putIS l k v) := by
  unfold Instr.mapUpdate
  simp only [Sem.run_bind, run_underlying hT, Result.andThen_ok, run_getObj hb, run_checkKeyS hK, run_findKeyS hK hl]
  cases hf : findIS l k with
  | none =>
    refine ⟨es.push ⟨.string k, v, clock⟩, clock + 1, by simp [run_setObj hb], ?_⟩
    unfold MapIsS at hl ⊢
    rw [findI_put_noneS k v l hf]
    simp [hl]
  | some p =>
    obtain ⟨j, u⟩ := p
    obtain ⟨h1, h2⟩ := findI_put_someS k v es.toList l j u hl hf
    have h2' : (es[j]?).map (·.key) = some (.string k) := by simpa using h2
    refine ⟨es.modify j fun e => { e with key := .string k, val := v }, clock, ?_, ?_⟩
    · simp [h2', Instr.keyThatStays, Instr.sameBits, run_setObj hb]
    · unfold MapIsS
      rw [Array.toList_modify]
      exact h1
theorem run_mapGetS {P : Program} {w : World} {T KT E b : Nat} {es : Array MapEntry} {clock : Nat} {l : List (ByteArray × Value)} {z : Value} (hT : P.underlying T = some (.map KT E)) (hK : P.underlying KT = some .string) (hz : ∃ i, P.info? E = some i ∧ i.zero = some z) (hb : w.heap[b]? = some (.map es clock)) (hl : MapIsS es l) (k : ByteArray) (cok : Bool) :
    (Instr.lookup T (.map (some b)) (.string k) cok).run P w = .ok (if cok then .tuple #[(getIS l k).getD z, .bool (getIS l k).isSome] else (getIS l k).getD z) w := by
  obtain ⟨i, hi, hz⟩ := hz
  unfold Instr.lookup
  rw [← findI_getS k l]
  simp only [Sem.run_bind, run_underlying hT, Result.andThen_ok, run_getObj hb, run_checkKeyS hK, run_findKeyS hK hl, Sem.run_pure]
  cases hf : findIS l k with
  | none => simp [zeroValue, typeInfo, hi, hz]
  | some p => simp
theorem Y.mapGetS {T KT E i b : Nat} {l : List (ByteArray × Value)} {k : ByteArray} {u : Value} (hT : P.underlying T = some (.map KT E)) (hK : P.underlying KT = some .string) (hz : ∃ i, P.info? E = some i ∧ i.zero = some u) (hx : Evs n e x (.map (some b))) (hy : Evs n e y (.string k)) (hi : L[i]? = some (cMapS b l)) :
    Yd P n base w0 e L ⟨D, .lookup T x y false, t, pos, af, G⟩ ((getIS l k).getD u) := by
  intro a w ha hw
  obtain ⟨es, clock, hb, hl⟩ := hw.sat _ (List.mem_of_getElem? hi)
  have := run_mapGetS (P := P) (w := w) hT hK hz hb hl k false
  simp [execOp, hx a ha, hy a ha, this]
theorem WO.makeMapS {T : Nat} (hd : Nat.blt d n = true) (h : ∀ b, KK n base w0 ((d, .map (some b)) :: e) (cMapS b [] :: L) K) : WO P ops n base w0 e L ⟨some d, .makeMap T none, t, pos, af, none⟩ K Q := by
  refine WO.of_run rfl fun a w ha hw => ?_
  have hr : (execOp a.eval ⟨some d, .makeMap T none, t, pos, af, none⟩).run P w = .ok (.value (.map (some w.heap.size))) (w.alloc (.map #[] 0)) := by
    simp [execOp, Instr.makeMap]
  unfold Oper.wp
  rw [hr]
  exact h w.heap.size _ _ (ha.put d _ hd) ((hw.alloc _).weak (fun x hx => ⟨#[], 0, hx, rfl⟩))
theorem WO.mapSetS {T E i b : Nat} {x y z : Operand} {l : List (ByteArray × Value)} {k : ByteArray} {KT : Nat} (hT : P.underlying T = some (.map KT E)) (hK : P.underlying KT = some .string) (hx : Evs n e x (.map (some b))) (hy : Evs n e y (.string k)) (hz : Evs n e z v)
    (hi : L[i]? = some (cMapS b l)) (h : KK n base w0 e (L.set i (cMapS b (putIS l k v))) K) : WO P ops n base w0 e L ⟨none, .mapUpdate T x y z, t, pos, af, none⟩ K Q := by
  refine WO.of_run rfl fun a w ha hw => ?_
  obtain ⟨es, clock, hb, hl⟩ := hw.sat _ (List.mem_of_getElem? hi)
  have hb' : w.heap[b]? = some (.map es clock) := hb
  obtain ⟨es', clock', hrun, hl'⟩ := run_mapSetS (P := P) (w := w) hT hK hb' hl k v
  have hr : (execOp a.eval ⟨none, .mapUpdate T x y z, t, pos, af, none⟩).run P w = .ok .skip { w with heap := w.heap.setIfInBounds b (.map es' clock') } := by
    simp [execOp, hx a ha, hy a ha, hz a ha, hrun]
  unfold Oper.wp
  rw [hr]
  have hblt : b < w.heap.size := (Array.getElem?_eq_some_iff.1 hb').1
  refine h _ _ (ha.putN undef) (hw.upd hi rfl rfl rfl rfl rfl (by simp) (fun j hj => by simp [Array.getElem?_setIfInBounds_ne (Ne.symm hj)]) ?_)
  exact ⟨es', clock', by simp [cMapS, hblt], hl'⟩
/-- An element of an array that lies in a slot. -/
def mgetS {α : Type} : List (ByteArray × α) → ByteArray → Option α
  | [], _ => none
  | (a, v) :: r, k => if a = k then some v else mgetS r k
def mputS {α : Type} : List (ByteArray × α) → ByteArray → α → List (ByteArray × α)
  | [], k, v => [(k, v)]
  | (a, u) :: r, k, v => if a = k then (a, v) :: r else (a, u) :: mputS r k v
def mvalS {α : Type} (f : α → Value) (m : List (ByteArray × α)) : List (ByteArray × Value) := m.map fun p => (p.1, f p.2)
/-- A map of the call's own; 'none': the nil map, that holds nothing. -/
def cMS {α : Type} (f : α → Value) (o : Option Nat) (m : List (ByteArray × α)) : Chunk := .one o fun x => match o with | none => m = [] | some b => ∃ es clock, x = some (.map es clock) ∧ MapIsS es (mvalS f m)
theorem run_nilLookupS {P : Program} {w : World} {T KT E : Nat} {z : Value} (hT : P.underlying T = some (.map KT E)) (hK : P.underlying KT = some .string) (hz : ∃ i, P.info? E = some i ∧ i.zero = some z) (k : ByteArray) (cok : Bool) :
    (Instr.lookup T (.map none) (.string k) cok).run P w = .ok (if cok then .tuple #[z, .bool false] else z) w := by
  obtain ⟨i, hi, hz⟩ := hz
  unfold Instr.lookup
  have hf := run_findKeyS (P := P) (w := w) (es := #[]) (l := []) hK rfl k
  simp only [List.toList_toArray] at hf
  simp only [Sem.run_bind, run_underlying hT, Result.andThen_ok, run_checkKeyS hK, Sem.run_pure, hf]
  simp [findIS, zeroValue, typeInfo, hi, hz]
theorem mget_valS {α : Type} (f : α → Value) (k : ByteArray) : ∀ m : List (ByteArray × α), getIS (mvalS f m) k = (mgetS m k).map f
  | [] => rfl
  | (a, v) :: r => by
    simp only [mvalS, List.map_cons, getIS, mgetS]
    by_cases h : a = k
    · rw [if_pos h, if_pos h]; rfl
    · rw [if_neg h, if_neg h]; exact mget_valS f k r
theorem mput_valS {α : Type} (f : α → Value) (k : ByteArray) (v : α) : ∀ m : List (ByteArray × α), putIS (mvalS f m) k (f v) = mvalS f (mputS m k v)
  | [] => rfl
  | (a, u) :: r => by
    simp only [mvalS, List.map_cons, putIS, mputS]
    by_cases h : a = k
    · rw [if_pos h, if_pos h]; rfl
    · rw [if_neg h, if_neg h]; simp only [List.map_cons]; exact congrArg _ (mput_valS f k v r)
section
variable {α : Type} {f : α → Value} {m : List (ByteArray × α)} {a : α} {k : ByteArray} {i b T KT E : Nat} {o : Option Nat}
theorem Y.mgetS {dv : α} (hT : P.underlying T = some (.map KT E)) (hK : P.underlying KT = some .string) (hz : ∃ i, P.info? E = some i ∧ i.zero = some (f dv)) (hx : Evs n e x (.map o)) (hy : Evs n e y (.string k)) (hi : L[i]? = some (cMS f o m)) :
    Yd P n base w0 e L ⟨D, .lookup T x y false, t, pos, af, G⟩ (f ((mgetS m k).getD dv)) := by
  cases o with
  | none =>
    intro ac w ha hw
    have hm : m = [] := hw.sat _ (List.mem_of_getElem? hi)
    subst hm
    have := run_nilLookupS (P := P) (w := w) hT hK hz k false
    simp [execOp, hx ac ha, hy ac ha, this, Go.Proofs.YtjdkkabcenohcaaGreatDoor.mgetS]
  | some b =>
    have := Y.mapGetS (D := D) (t := t) (pos := pos) (af := af) (G := G) (base := base) (w0 := w0) hT hK hz hx hy hi
    rw [mget_valS] at this
    have e1 : (((Go.Proofs.YtjdkkabcenohcaaGreatDoor.mgetS m k).map f).getD (f dv)) = f ((Go.Proofs.YtjdkkabcenohcaaGreatDoor.mgetS m k).getD dv) := by cases Go.Proofs.YtjdkkabcenohcaaGreatDoor.mgetS m k <;> rfl
    rw [← e1]; exact this
theorem WO.mmakeS {T : Nat} (f : α → Value) (hd : Nat.blt d n = true) (h : ∀ b, KK n base w0 ((d, .map (some b)) :: e) (cMS f (some b) [] :: L) K) : WO P ops n base w0 e L ⟨some d, .makeMap T none, t, pos, af, none⟩ K Q :=
  WO.makeMapS hd h
theorem WO.msetS (hT : P.underlying T = some (.map KT E)) (hK : P.underlying KT = some .string) (hx : Evs n e x (.map (some b))) (hy : Evs n e y (.string k)) (hz : Evs n e z (f a))
    (hi : L[i]? = some (cMS f (some b) m)) (h : KK n base w0 e (L.set i (cMS f (some b) (mputS m k a))) K) : WO P ops n base w0 e L ⟨none, .mapUpdate T x y z, t, pos, af, none⟩ K Q :=
  WO.mapSetS hT hK hx hy hz hi (by rw [mput_valS]; exact h)
end
/-! ### Strings made of bytes -/
/-- The string of some bytes. -/
def bstr (xs : List Int) : ByteArray := xs.foldl (fun r n => r.push (UInt8.ofNat n.toNat)) ByteArray.empty
theorem flatU (xs : List Int) : xs.flatMap (eI .u8) = xs.map (Value.int .u8) := by
  induction xs with
  | nil => rfl
  | cons x xs ih => rw [List.flatMap_cons, ih]; rfl
theorem Y.bstr {src dst E m i cap : Nat} {A : Option Addr} {xs : List Int} (hs : P.underlying src = some (.slice E)) (hE : P.underlying E = some (.int .u8)) (hd : P.underlying dst = some .string) (hx : Evs n e x (.slice A m cap)) (hm : m = xs.length) (hi : L[i]? = some (cR (eI .u8) 1 A cap E xs)) :
    Yd P n base w0 e L ⟨D, .convert src dst x, t, pos, af, G⟩ (.string (Go.Proofs.YtjdkkabcenohcaaGreatDoor.bstr xs)) := by
  subst hm
  intro a w ha hw
  have hr : (Conv.bytesToString (.slice A xs.length cap)).run P w = .ok (.string (Go.Proofs.YtjdkkabcenohcaaGreatDoor.bstr xs)) w := by
    obtain ⟨hl, hs⟩ := hw.sat _ (List.mem_of_getElem? hi)
    rcases hs with ⟨rfl, hm, rfl⟩ | ⟨g, cur, rfl, hx, hmc, hcm, hcs, htake⟩
    · obtain rfl : xs = [] := List.length_eq_zero_iff.1 hm
      rfl
    · have hx' : w.heap[g]? = some (.cells cur E (0, 0)) := hx
      have hl2 : (loadCells ⟨g, 0, none⟩ (xs.map (Value.int .u8)).length).run P w = .ok (xs.map (Value.int .u8)).toArray w := run_loadCells_list w ⟨g, 0, none⟩ _ (fun j v hj => by
        rw [add_none, Nat.zero_add]
        rw [flatU, Nat.mul_one] at htake
        rw [← htake, List.getElem?_take] at hj
        split at hj
        · exact cell_of_obj hx' (by simpa using hj)
        · cases hj)
      rw [List.length_map] at hl2
      exact run_bytesToString w _ _ _ xs hl2
  simp [execOp, hx a ha, convert, run_underlying hs, run_underlying hE, run_underlying hd, hr]
end
end Go.Proofs.YtjdkkabcenohcaaGreatDoor
