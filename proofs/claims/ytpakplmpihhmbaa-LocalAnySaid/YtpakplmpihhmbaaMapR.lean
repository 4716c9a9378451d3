/- Maps from numbers to slices that are the map's own; a range over such a map, whose outcome hangs on no order. It speaks of every program. -/
import Derived.Test.YtpakplmpihhmbaaBor
import Derived.Test.YtpakplmpihhmbaaShelf
import Derived.Laws.IdiomRangeMap
set_option linter.unusedVariables false
set_option linter.unusedSimpArgs false
set_option linter.unusedSectionVars false
namespace Go.Proofs.Ytpakplmpihhmbaa
open Go.RowKit

/-! ### A range, plainly -/
section
variable {α ρ : Type}
def outsM : List (Option (Unit ⊕ ρ)) → Option (List ρ)
  | [] => some []
  | none :: _ => none
  | some (.inl _) :: r => outsM r
  | some (.inr x) :: r => (outsM r).map (x :: ·)
/-- What a range over a map comes to: 'body (some a)' for an entry, 'body none' when all are done; nothing where it hangs on the order. -/
def rangeM [DecidableEq ρ] (body : Option α → Option (Unit ⊕ ρ)) (m : List α) : Option ρ :=
  match outsM (m.map fun a => body (some a)) with
  | none => none
  | some [] => match body none with
    | some (.inr x) => some x
    | _ => none
  | some (x :: r) => if r.all (fun y => decide (y = x)) = true then some x else none
theorem outsM_mem : ∀ {l : List (Option (Unit ⊕ ρ))} {xs : List ρ}, outsM l = some xs → ∀ o ∈ l, ∃ t, o = some t ∧ ∀ r, t = .inr r → r ∈ xs
  | [], _, _, _, h => nomatch h
  | none :: _, _, h, _, _ => nomatch h
  | some (.inl u) :: r, xs, h, o, ho => by
    rcases List.mem_cons.1 ho with rfl | ho
    · exact ⟨.inl u, rfl, fun r h => nomatch h⟩
    · exact outsM_mem (l := r) h o ho
  | some (.inr x) :: r, xs, h, o, ho => by
    simp only [outsM, Option.map_eq_some_iff] at h
    obtain ⟨ys, h1, rfl⟩ := h
    rcases List.mem_cons.1 ho with rfl | ho
    · exact ⟨.inr x, rfl, fun r h => by cases h; simp⟩
    · obtain ⟨t, h2, h3⟩ := outsM_mem h1 o ho
      exact ⟨t, h2, fun r h => List.mem_cons_of_mem _ (h3 r h)⟩
theorem outsM_nil : ∀ {l : List (Option (Unit ⊕ ρ))} {xs : List ρ}, outsM l = some xs → (∀ o ∈ l, o = some (.inl ())) → xs = []
  | [], xs, h, _ => by simpa [outsM] using h.symm
  | none :: _, _, h, _ => nomatch h
  | some (.inl u) :: r, xs, h, ha => outsM_nil (l := r) h fun o ho => ha o (List.mem_cons_of_mem _ ho)
  | some (.inr x) :: r, xs, h, ha => nomatch ha _ (List.mem_cons_self ..)
variable [DecidableEq ρ] {body : Option α → Option (Unit ⊕ ρ)} {m : List α} {o : ρ}
theorem rangeM_at (h : rangeM body m = some o) {a : α} (ha : a ∈ m) : ∃ t, body (some a) = some t ∧ Sum.elim (fun _ => True) (fun r => r = o) t := by
  unfold rangeM at h
  cases hc : outsM (m.map fun a => body (some a)) with
  | none => rw [hc] at h; cases h
  | some xs =>
    obtain ⟨t, h1, h2⟩ := outsM_mem hc _ (List.mem_map.2 ⟨a, ha, rfl⟩)
    refine ⟨t, h1, ?_⟩
    cases t with
    | inl u => exact True.intro
    | inr r =>
      show r = o
      have hr := h2 r rfl
      rw [hc] at h
      cases xs with
      | nil => cases hr
      | cons x l =>
        simp only at h
        by_cases hall : l.all (fun y => decide (y = x)) = true
        · rw [if_pos hall] at h
          obtain rfl := Option.some.inj h
          rcases List.mem_cons.1 hr with e | hr
          · exact e
          · exact of_decide_eq_true (List.all_eq_true.1 hall r hr)
        · rw [if_neg hall] at h; cases h
theorem rangeM_over (h : rangeM body m = some o) (ha : ∀ a ∈ m, body (some a) = some (.inl ())) : ∃ t, body none = some t ∧ Sum.elim (fun _ => False) (fun r => r = o) t := by
  unfold rangeM at h
  cases hc : outsM (m.map fun a => body (some a)) with
  | none => rw [hc] at h; cases h
  | some xs =>
    obtain rfl := outsM_nil hc fun o ho => by
      obtain ⟨a, h1, rfl⟩ := List.mem_map.1 ho
      exact ha a h1
    rw [hc] at h
    simp only at h
    cases hb : body none with
    | none => rw [hb] at h; cases h
    | some t =>
      rw [hb] at h
      cases t with
      | inl u => cases h
      | inr r => exact ⟨.inr r, rfl, Option.some.inj h⟩
end

variable {P : Program} {n : Nat} {base : Nat} {w0 w : World} {L : List Chunk} {e : Env}
variable {ops rest : List Oper} {Q : Exit → Act → World → Prop} {d : Nat} {D : Option Tmp} {op : Op} {t : TypeId} {pos : String} {af : Array Edge} {G : Option (Nat × Bool)} {v u : Value} {x y z : Operand} {K : Act → World → Prop}

/-! ### The steps of a range -/
theorem run_getI {b s c : Nat} {m : Option Nat} {sn : Array Nat} (hb : w.heap[b]? = some (.mapIter m s sn c)) : (getObj b).run P w = .ok (.mapIter m s sn c) w := by
  simp [getObj, Sem.run, hb]
theorem run_setI {b s c : Nat} {m : Option Nat} {sn : Array Nat} {o' : Obj} (hb : w.heap[b]? = some (.mapIter m s sn c)) : (setObj b o').run P w = .ok () { w with heap := w.heap.setIfInBounds b o' } := by
  simp [setObj, Sem.run, hb]
theorem left_old {es : Array MapEntry} {sn : Array Nat} {clock : Nat} (h : ∀ x ∈ es.toList, x.born < clock) : (Go.leftOf es sn).filter (fun x => decide (x.born < clock)) = Go.leftOf es sn ∧ (Go.leftOf es sn).filter (fun x => decide (x.born ≥ clock)) = #[] := by
  have hm : ∀ x ∈ (Go.leftOf es sn).toList, x.born < clock := fun x hx => h x (Go.mem_left hx).1
  refine ⟨Array.filter_eq_self.2 fun x hx => by simpa using hm x (by simpa using hx), ?_⟩
  rw [Array.filter_eq_empty_iff]
  intro x hx
  have := hm x (by simpa using hx)
  simp only [ge_iff_le, decide_eq_true_eq, Nat.not_le]
  exact this
theorem run_nextM {ty : TypeId} {r b clock : Nat} {es : Array MapEntry} {sn : Array Nat} (hr : w.heap[r]? = some (.mapIter (some b) clock sn clock)) (hb : w.heap[b]? = some (.map es clock)) (hst : Go.MapKept.Stamped es clock) :
    ((∀ x ∈ es.toList, sn.contains x.born = true) ∧ (Instr.next (.pointer (some ⟨r, 0, none⟩)) false ty).run P w = .ok (.tuple #[.bool false]) w) ∨
    ∃ x ∈ es.toList, sn.contains x.born = false ∧ ∃ w1, (w1 = w ∨ w1 = w.drew) ∧ (Instr.next (.pointer (some ⟨r, 0, none⟩)) false ty).run P w = .ok (.tuple #[.bool true, x.key, x.val]) { w1 with heap := w1.heap.setIfInBounds r (.mapIter (some b) clock (sn.push x.born) clock) } := by
  have hold := ((Go.MapKept.stamped_iff _ _).1 hst).1
  obtain ⟨e1, e2⟩ := left_old (sn := sn) hold
  have ht := Go.next_test_false sn es clock clock hold (Nat.le_refl _)
  have hfl : es.filter (fun e => !sn.contains e.born) = Go.leftOf es sn := rfl
  simp only [Instr.next, Sem.run_bind, run_getI hr, run_getObj hb, Result.andThen_ok, ht, Bool.false_eq_true, if_false, hfl, e1, e2, Array.append_empty]
  by_cases h0 : (Go.leftOf es sn).size = 0
  · left
    have hL : Go.leftOf es sn = #[] := Array.eq_empty_of_size_eq_zero h0
    refine ⟨fun x hx => ?_, ?_⟩
    · cases hc : sn.contains x.born with
      | true => rfl
      | false =>
        have : x ∈ Go.leftOf es sn := Array.mem_filter.2 ⟨Array.mem_toList_iff.1 hx, by rw [hc]; rfl⟩
        rw [hL] at this
        simp at this
    · rw [hL]
      simp [choose, Sem.run, Question.forced]
  · right
    have hne : (Go.leftOf es sn).isEmpty = false := by simp [Array.isEmpty, h0]
    simp only [hne, Bool.false_eq_true, if_false, Array.empty_append, Array.size_map]
    have hch : ∃ (j : Nat) (w1 : World), j < (Go.leftOf es sn).size ∧ (w1 = w ∨ w1 = w.drew) ∧ (choose (Question.mapNext (Go.leftOf es sn).size)).run P w = .ok j w1 := by
      by_cases hf : (Go.leftOf es sn).size ≤ 1
      · exact ⟨0, w, by omega, .inl rfl, by simp [choose, Sem.run, Question.forced, hf]⟩
      · exact ⟨_, w.drew, Nat.mod_lt _ (by omega), .inr rfl, by
          simp only [choose, Sem.run, Question.forced, decide_eq_true_eq, hf, if_false, Question.cut]
          rfl⟩
    obtain ⟨j, w1, hj, hal, hrun⟩ := hch
    have hmem : (Go.leftOf es sn)[j] ∈ (Go.leftOf es sn).toList := by simp
    obtain ⟨h1, h2⟩ := Go.mem_left hmem
    have hr1 : w1.heap[r]? = some (.mapIter (some b) clock sn clock) := by rcases hal with rfl | rfl <;> exact hr
    refine ⟨_, h1, h2, w1, hal, ?_⟩
    simp only [hrun, Array.getElem?_map, Array.getElem?_eq_getElem hj, Option.map_some, Sem.run_bind, run_setI hr1, Result.andThen_ok]
    rfl
theorem run_entryM {r b clock : Nat} {es : Array MapEntry} {sn : Array Nat} {en : MapEntry} (hr : w.heap[r]? = some (.mapIter (some b) clock (sn.push en.born) clock)) (hb : w.heap[b]? = some (.map es clock)) (hst : Go.MapKept.Stamped es clock) (he : en ∈ es.toList) :
    (Instr.entry (.pointer (some ⟨r, 0, none⟩))).run P w = .ok (.tuple #[en.key, en.val]) w := by
  have hf : es.find? (·.born == en.born) = some en := by rw [← Array.find?_toList]; exact Go.find_born en es.toList ((Go.MapKept.stamped_iff _ _).1 hst).2.1 he
  simp only [Instr.entry, Sem.run_bind, run_getI hr, run_getObj hb, Result.andThen_ok, Array.back?_push, bne_self_eq_false, Bool.false_eq_true, if_false, hf]
  rfl
theorem WO.next {ty : TypeId} {r b clock i j : Nat} {es : Array MapEntry} {sn : Array Nat} (hst : Go.MapKept.Stamped es clock) (hx : Evs n e x (.pointer (some ⟨r, 0, none⟩))) (hi : L[i]? = some (cObj b (.map es clock))) (hj : L[j]? = some (cObj r (.mapIter (some b) clock sn clock))) (hd : Nat.blt d n = true)
    (h0 : (∀ x ∈ es.toList, sn.contains x.born = true) → KK n base w0 ((d, .tuple #[.bool false]) :: e) L K)
    (h1 : ∀ en ∈ es.toList, sn.contains en.born = false → KK n base w0 ((d, .tuple #[.bool true, en.key, en.val]) :: e) (L.set j (cObj r (.mapIter (some b) clock (sn.push en.born) clock))) K) :
    WO P ops n base w0 e L ⟨some d, .next x false, ty, pos, af, none⟩ K Q := by
  refine WO.of_run rfl fun a w ha hw => ?_
  have hrr : w.heap[r]? = some (.mapIter (some b) clock sn clock) := hw.obj hj
  have hbb : w.heap[b]? = some (.map es clock) := hw.obj hi
  rcases run_nextM (P := P) (ty := ty) hrr hbb hst with ⟨hall, hrun⟩ | ⟨en, he, hn, w1, hw1, hrun⟩
  · have hr : (execOp a.eval ⟨some d, .next x false, ty, pos, af, none⟩).run P w = .ok (.value (.tuple #[.bool false])) w := by
      simp [execOp, hx a ha, hrun]
    unfold Oper.wp
    rw [hr]
    exact h0 hall _ _ (ha.put d _ hd) hw
  · have hr : (execOp a.eval ⟨some d, .next x false, ty, pos, af, none⟩).run P w = .ok (.value (.tuple #[.bool true, en.key, en.val])) { w1 with heap := w1.heap.setIfInBounds r (.mapIter (some b) clock (sn.push en.born) clock) } := by
      simp [execOp, hx a ha, hrun]
    unfold Oper.wp
    rw [hr]
    have hs1 : St base w0 L w1 := by
      rcases hw1 with rfl | rfl
      · exact hw
      · exact hw.drew
    have hlt : r < w1.heap.size := (Array.getElem?_eq_some_iff.1 (hs1.obj hj)).1
    refine h1 en he hn _ _ (ha.put d _ hd) (hs1.upd hj rfl rfl rfl rfl rfl (by simp) (fun k hk => by simp [Array.getElem?_setIfInBounds_ne (Ne.symm hk)]) ?_)
    show ((some r).bind fun q => (w1.heap.setIfInBounds r _)[q]?) = _
    simp [hlt]
theorem Y.entry {r b clock i j : Nat} {es : Array MapEntry} {sn : Array Nat} {en : MapEntry} (hst : Go.MapKept.Stamped es clock) (he : en ∈ es.toList) (hk : en.key = u) (hv : en.val = v) (hx : Evs n e x (.pointer (some ⟨r, 0, none⟩))) (hi : L[i]? = some (cObj b (.map es clock))) (hj : L[j]? = some (cObj r (.mapIter (some b) clock (sn.push en.born) clock))) :
    Yd P n base w0 e L ⟨D, .entry x, t, pos, af, G⟩ (.tuple #[u, v]) := by
  intro a w ha hw
  have := run_entryM (P := P) (hw.obj hj) (hw.obj hi) hst he
  simp [execOp, hx a ha, this, hk, hv]
theorem mem_leftOf {es : Array MapEntry} {sn : Array Nat} {en : MapEntry} (he : en ∈ es.toList) (hn : sn.contains en.born = false) : en ∈ (Go.leftOf es sn).toList :=
  Array.mem_toList_iff.2 (Array.mem_filter.2 ⟨Array.mem_toList_iff.1 he, by rw [hn]; rfl⟩)
/-- What stands in the rounds of a range. -/
def RangeI {α ρ : Type} (body : Option α → Option (Unit ⊕ ρ)) (es : Array MapEntry) (m : List α) (sn : Array Nat) : Prop :=
  ∀ (i : Nat) x p, es.toList[i]? = some x → m[i]? = some p → sn.contains x.born = true → body (some p) = some (.inl ())
theorem RangeI.zero {α ρ : Type} {body : Option α → Option (Unit ⊕ ρ)} {es : Array MapEntry} {m : List α} : RangeI body es m #[] := fun i x p _ _ h => by simp at h
theorem RangeI.step {α ρ : Type} {body : Option α → Option (Unit ⊕ ρ)} {es : Array MapEntry} {m : List α} {sn : Array Nat} {clock : Nat} (h : RangeI body es m sn) (hst : Go.MapKept.Stamped es clock) {i : Nat} {x : MapEntry} {p : α} (hx : es.toList[i]? = some x) (hp : m[i]? = some p) (hb : body (some p) = some (.inl ())) : RangeI body es m (sn.push x.born) := by
  intro i' x' p' hx' hp' hs
  rw [Go.contains_push] at hs
  by_cases hc : sn.contains x'.born = true
  · exact h i' x' p' hx' hp' hc
  · have he : x'.born = x.born := by
      rcases (Bool.or_eq_true _ _).mp hs with h2 | h2
      · exact absurd h2 hc
      · exact beq_iff_eq.1 h2
    have hn := ((Go.MapKept.stamped_iff _ _).1 hst).2.1
    have h1 : (es.toList.map (·.born))[i]? = some x.born := by rw [List.getElem?_map, hx]; rfl
    have h2 : (es.toList.map (·.born))[i']? = some x.born := by rw [List.getElem?_map, hx', ← he]; rfl
    obtain rfl : i = i' := (List.getElem?_inj (List.getElem?_eq_some_iff.1 h1).1 hn).1 (h1.trans h2.symm)
    rw [hp] at hp'
    obtain rfl := Option.some.inj hp'
    exact hb
theorem RangeI.all {α ρ : Type} {body : Option α → Option (Unit ⊕ ρ)} {es : Array MapEntry} {m : List α} {sn : Array Nat} (h : RangeI body es m sn) (hl : es.toList.length = m.length) (ha : ∀ x ∈ es.toList, sn.contains x.born = true) : ∀ p ∈ m, body (some p) = some (.inl ()) := by
  intro p hp
  obtain ⟨i, hi, rfl⟩ := List.mem_iff_getElem.1 hp
  have hi' : i < es.toList.length := by omega
  exact h i _ _ (List.getElem?_eq_getElem hi') (List.getElem?_eq_getElem hi) (ha _ (List.getElem_mem hi'))

/-! ### Maps from numbers to slices -/
section
variable {α : Type} {enc : α → List Value} {sz E : Nat}
abbrev HS (α : Type) := Hd × List α
def fSl (q : HS α) : Value := .slice q.1.1 q.2.length q.1.2
def zipM (hs : List Hd) (m : List (Int × List α)) : List (Int × HS α) := List.zipWith (fun h p => (p.1, (h, p.2))) hs m
def innM (enc : α → List Value) (sz E : Nat) (q : Int × HS α) : List Chunk := [cR enc sz q.2.1.1 q.2.1.2 E q.2.2]
def cMN (enc : α → List Value) (sz E : Nat) (b : Nat) (hs : List Hd) (m : List (Int × List α)) : Chunk :=
  bundle (cM fSl (some b) (zipM hs m) :: cF (hs.length = m.length) :: (zipM hs m).flatMap (innM enc sz E))
def mdel {β : Type} : List (Int × β) → Int → List (Int × β)
  | [], _ => []
  | (a, v) :: r, k => if a = k then r else (a, v) :: mdel r k
/-- One whose slice for k is out. -/
def cMH (enc : α → List Value) (sz E : Nat) (b : Nat) (hs : List Hd) (m : List (Int × List α)) (k : Int) : Chunk :=
  bundle (cM fSl (some b) (zipM hs m) :: cF (hs.length = m.length) :: (mdel (zipM hs m) k).flatMap (innM enc sz E))
def hgetM (hs : List Hd) (m : List (Int × List α)) (k : Int) : Hd := ((mget (zipM hs m) k).getD ((none, 0), [])).1
def hputM (hs : List Hd) (m : List (Int × List α)) (k : Int) (h : Hd) (ys : List α) : List Hd := (mput (zipM hs m) k (h, ys)).map (·.2.1)
theorem mget_zip (k : Int) : ∀ {hs : List Hd} {m : List (Int × List α)}, hs.length = m.length → (mget (zipM hs m) k).map (·.2) = mget m k
  | [], [], _ => rfl
  | h :: hs, (a, v) :: m, hl => by
    have ih := mget_zip k (hs := hs) (m := m) (by simpa using hl)
    show (mget ((a, (h, v)) :: zipM hs m) k).map (·.2) = mget ((a, v) :: m) k
    simp only [mget]
    by_cases e : a = k
    · rw [if_pos e, if_pos e]; rfl
    · rw [if_neg e, if_neg e]; exact ih
  | [], _ :: _, hl => by simp at hl
  | _ :: _, [], hl => by simp at hl
theorem mget_pair {hs : List Hd} {m : List (Int × List α)} (hl : hs.length = m.length) (k : Int) : (mget (zipM hs m) k).getD ((none, 0), []) = (hgetM hs m k, (mget m k).getD []) := by
  rw [← mget_zip k hl]
  unfold hgetM
  cases mget (zipM hs m) k <;> rfl
theorem mput_zip (k : Int) (h : Hd) (ys : List α) : ∀ {hs : List Hd} {m : List (Int × List α)}, hs.length = m.length → zipM (hputM hs m k h ys) (mput m k ys) = mput (zipM hs m) k (h, ys) ∧ (hputM hs m k h ys).length = (mput m k ys).length
  | [], [], _ => ⟨rfl, rfl⟩
  | g :: hs, (a, v) :: m, hl => by
    have hl' : hs.length = m.length := by simpa using hl
    obtain ⟨ih, il⟩ := mput_zip k h ys (hs := hs) (m := m) hl'
    have hz : zipM (g :: hs) ((a, v) :: m) = (a, (g, v)) :: zipM hs m := rfl
    have hid : (zipM hs m).map (·.2.1) = hs := by
      unfold zipM
      apply List.ext_getElem
      · simp [hl']
      · intro i h1 h2; simp
    unfold hputM at ih il ⊢
    rw [hz]
    simp only [mput]
    by_cases e : a = k
    · rw [if_pos e, if_pos e, List.map_cons, hid]
      exact ⟨rfl, by simp [hl']⟩
    · rw [if_neg e, if_neg e, List.map_cons]
      refine ⟨?_, by rw [List.length_cons, List.length_cons, il]⟩
      show (a, (g, v)) :: zipM _ _ = _
      rw [ih]
  | [], _ :: _, hl => by simp at hl
  | _ :: _, [], hl => by simp at hl
theorem mget_perm {β : Type} {k : Int} {v : β} : ∀ {m : List (Int × β)}, mget m k = some v → m.Perm ((k, v) :: mdel m k)
  | [], h => nomatch h
  | (a, u) :: r, h => by
    simp only [mget] at h
    simp only [mdel]
    by_cases e : a = k
    · rw [if_pos e] at h ⊢
      obtain rfl := Option.some.inj h
      subst e; exact List.Perm.refl _
    · rw [if_neg e] at h ⊢
      exact (List.Perm.cons _ (mget_perm h)).trans (List.Perm.swap ..)
theorem mget_none {β : Type} {k : Int} : ∀ {m : List (Int × β)}, mget m k = none → mdel m k = m
  | [], _ => rfl
  | (a, u) :: r, h => by
    simp only [mget] at h
    simp only [mdel]
    by_cases e : a = k
    · rw [if_pos e] at h; cases h
    · rw [if_neg e] at h ⊢
      rw [mget_none h]
theorem mput_perm {β : Type} (k : Int) (v : β) : ∀ (m : List (Int × β)), (mput m k v).Perm ((k, v) :: mdel m k)
  | [] => List.Perm.refl _
  | (a, u) :: r => by
    simp only [mput, mdel]
    by_cases e : a = k
    · rw [if_pos e, if_pos e, e]
    · rw [if_neg e, if_neg e]
      exact (List.Perm.cons _ (mput_perm k v r)).trans (List.Perm.swap ..)
variable {hs : List Hd} {m : List (Int × List α)} {b i k' T KT TE : Nat} {k : Int} {xs ys : List α}
theorem mn_len (h : St base w0 L w) (hi : L[i]? = some (cMN enc sz E b hs m)) : hs.length = m.length := by
  have := h.sat _ (List.mem_of_getElem? hi)
  exact this (cF (hs.length = m.length)) (by simp)
theorem Y.mgetN (hT : P.underlying T = some (.map KT TE)) (hK : P.underlying KT = some (.int .i64)) (hz : ∃ i, P.info? TE = some i ∧ i.zero = some (.slice none 0 0)) (hx : Evs n e x (.map (some b))) (hy : Evs n e y (.int .i64 k)) (hi : L[i]? = some (cMN enc sz E b hs m)) :
    Yd P n base w0 e L ⟨D, .lookup T x y false, t, pos, af, G⟩ (.slice (hgetM hs m k).1 ((Go.Proofs.Ytpakplmpihhmbaa.mget m k).getD []).length (hgetM hs m k).2) := by
  intro a w ha hw
  have hl := mn_len hw hi
  have h1 : St base w0 [cM fSl (some b) (zipM hs m)] w := hw.inside (List.mem_of_getElem? hi) (by simp)
  have := Y.mget (D := D) (t := t) (pos := pos) (af := af) (G := G) (f := fSl (α := α)) (dv := ((none, 0), [])) hT hK hz hx hy (i := 0) (L := [cM fSl (some b) (zipM hs m)]) rfl a w ha h1
  rw [mget_pair hl k] at this
  exact this
/-- The slice for k comes out. -/
theorem Ent.takeM (hi : L[i]? = some (cMN enc sz E b hs m)) : Ent L (cR enc sz (hgetM hs m k).1 (hgetM hs m k).2 E ((mget m k).getD []) :: cMH enc sz E b hs m k :: L.eraseIdx i) := by
  intro R b0 w0 w hw
  have h1 := Ent.head hi R b0 w0 w hw
  have hl := mn_len (enc := enc) (sz := sz) (E := E) (b := b) (hs := hs) (m := m) (i := R.length) h1 (by simp)
  have hp := mget_pair hl k
  have h2 := Ent.openB R b0 w0 w h1
  refine (Ent.trans (L := (cM fSl (some b) (zipM hs m) :: cF (hs.length = m.length) :: (zipM hs m).flatMap (innM enc sz E)) ++ L.eraseIdx i) ?_ (Ent.cons .closeB)) R b0 w0 w h2
  cases hg : mget (zipM hs m) k with
  | none =>
    rw [hg] at hp
    rw [mget_none hg]
    have e1 : hgetM hs m k = (none, 0) := (congrArg Prod.fst hp).symm
    have e2 : (mget m k).getD [] = [] := (congrArg Prod.snd hp).symm
    rw [e1, e2]
    exact .nilR enc sz E
  | some q =>
    rw [hg] at hp
    have e1 : hgetM hs m k = q.1 := (congrArg Prod.fst hp).symm
    have e2 : (mget m k).getD [] = q.2 := (congrArg Prod.snd hp).symm
    rw [e1, e2]
    refine .perm ?_
    have h3 : ((zipM hs m).flatMap (innM enc sz E)).Perm (cR enc sz q.1.1 q.1.2 E q.2 :: (mdel (zipM hs m) k).flatMap (innM enc sz E)) := by
      have := List.Perm.flatMap_right (innM enc sz E) (mget_perm hg)
      exact this
    have h4 : ((zipM hs m).flatMap (innM enc sz E) ++ L.eraseIdx i).Perm (cR enc sz q.1.1 q.1.2 E q.2 :: ((mdel (zipM hs m) k).flatMap (innM enc sz E) ++ L.eraseIdx i)) := List.Perm.append_right _ h3
    simp only [List.cons_append]
    exact ((List.Perm.cons _ ((List.Perm.cons _ h4).trans (List.Perm.swap ..))).trans (List.Perm.swap ..))
theorem WO.mmakeN {T : Nat} (enc : α → List Value) (sz E : Nat) (hd : Nat.blt d n = true) (h : ∀ b, KK n base w0 ((d, .map (some b)) :: e) (cMN enc sz E b [] ([] : List (Int × List α)) :: L) K) : WO P ops n base w0 e L ⟨some d, .makeMap T none, t, pos, af, none⟩ K Q :=
  WO.mmake (fSl (α := α)) hd fun b => KK.ent (.trans (.trans (.fact rfl) (.perm (List.Perm.swap ..))) (.closeB (M := [_, _]))) (h b)
theorem WO.msetN {L' : List Chunk} {A : Option Addr} {c : Nat} (hT : P.underlying T = some (.map KT TE)) (hK : P.underlying KT = some (.int .i64)) (hx : Evs n e x (.map (some b))) (hy : Evs n e y (.int .i64 k)) (hz : Evs n e z (.slice A ys.length c))
    (hi : L[i]? = some (cMH enc sz E b hs m k)) (hM : Ent (L.eraseIdx i) (cR enc sz A c E ys :: L')) (h : KK n base w0 e (cMN enc sz E b (hputM hs m k (A, c) ys) (mput m k ys) :: L') K) : WO P ops n base w0 e L ⟨none, .mapUpdate T x y z, t, pos, af, none⟩ K Q := by
  intro a w ha hw
  have hl : hs.length = m.length := hw.sat _ (List.mem_of_getElem? hi) (cF (hs.length = m.length)) (by simp)
  have e1 : Ent L (cM fSl (some b) (zipM hs m) :: ((mdel (zipM hs m) k).flatMap (innM enc sz E) ++ L.eraseIdx i)) :=
    .trans (.head hi) (.trans .openB (.cons (.drop (M := [cF (hs.length = m.length)]))))
  have h1 := e1.at _ _ _ hw
  refine (WO.mset (ops := ops) (Q := Q) (K := K) (f := fSl (α := α)) (a := ((A, c), ys)) hT hK hx hy hz (i := 0) rfl ?_) a w ha h1
  refine KK.ent ?_ h
  obtain ⟨z1, z2⟩ := mput_zip k (A, c) ys hl
  show Ent (cM fSl (some b) (mput (zipM hs m) k ((A, c), ys)) :: ((mdel (zipM hs m) k).flatMap (innM enc sz E) ++ L.eraseIdx i)) _
  have h3 : (cR enc sz A c E ys :: (mdel (zipM hs m) k).flatMap (innM enc sz E)).Perm ((mput (zipM hs m) k ((A, c), ys)).flatMap (innM enc sz E)) :=
    (List.Perm.flatMap_right (innM enc sz E) (mput_perm k ((A, c), ys) (zipM hs m))).symm
  refine .trans (.cons (.trans (.app hM) (.perm (List.perm_middle.trans (List.Perm.append_right L' h3))))) ?_
  rw [← z1]
  exact .trans (.trans (.fact z2) (.perm (List.Perm.swap ..))) (.closeB (M := _ :: _ :: (zipM (hputM hs m k (A, c) ys) (mput m k ys)).flatMap (innM enc sz E)))
/-- What the map has for a number, as a slice. -/
theorem SlIn.inM (hz : ∀ a, (enc a).length = sz) (h : St base w0 L w) (hi : L[i]? = some (cMN enc sz E b hs m)) : SlIn enc sz w (.slice (hgetM hs m k).1 ((mget m k).getD []).length (hgetM hs m k).2) ((mget m k).getD []) :=
  SlIn.ofRow hz ((Ent.takeM (k := k) hi).at _ _ _ h) (i := 0) rfl
/-- A range over it: the map is not looked at again. -/
theorem WO.rangeN (hT : P.underlying T = some (.map KT TE)) (hx : Evs n e x (.map (some b))) (hi : L[i]? = some (cMN enc sz E b hs m)) (hd : Nat.blt d n = true)
    (h : ∀ r es clock, Go.MapKept.Stamped es clock → (∀ (i : Nat) x p, es.toList[i]? = some x → m[i]? = some p → ∃ h : Hd, x.key = .int .i64 p.1 ∧ x.val = .slice h.1 p.2.length h.2) → es.toList.length = m.length → KK n base w0 ((d, .pointer (some ⟨r, 0, none⟩)) :: e) (cObj r (.mapIter (some b) clock #[] clock) :: cObj b (.map es clock) :: L.eraseIdx i) K) :
    WO P ops n base w0 e L ⟨some d, .range T x, t, pos, af, none⟩ K Q := by
  refine WO.of_run rfl fun a w ha hw => ?_
  have hl := mn_len hw hi
  have e1 : Ent L (cM fSl (some b) (zipM hs m) :: L.eraseIdx i) :=
    .trans (.head hi) (.trans .openB (.cons (.drop (M := _ :: (zipM hs m).flatMap (innM enc sz E)))))
  have h1 := e1.at _ _ _ hw
  obtain ⟨es, clock, hb, hm, hst⟩ := h1.sat (cM fSl (some b) (zipM hs m)) (List.mem_cons_self ..)
  have hbb : w.heap[b]? = some (.map es clock) := hb
  have hr : (execOp a.eval ⟨some d, .range T x, t, pos, af, none⟩).run P w = .ok (.value (.pointer (some ⟨w.heap.size, 0, none⟩))) (w.alloc (.mapIter (some b) clock #[] clock)) := by
    simp [execOp, hx a ha, Go.run_range_map w T KT TE b es clock hT hbb]
  unfold Oper.wp
  rw [hr]
  have hlen : es.toList.length = m.length := by
    have := congrArg List.length hm
    simpa [mval, zipM, hl] using this
  have h2 : St base w0 (cObj b (.map es clock) :: L.eraseIdx i) w := by
    refine ⟨h1.below, h1.base_le, fun c hc => ?_, h1.nodup, h1.ge⟩
    rcases List.mem_cons.1 hc with rfl | hc
    · exact hbb
    · exact h1.sat c (List.mem_cons_of_mem _ hc)
  refine h _ es clock hst (fun i x p hx hp => ?_) hlen _ _ (ha.put d _ hd) (h2.alloc _)
  have hil : i < hs.length := by have := (List.getElem?_eq_some_iff.1 hp).1; omega
  have h4 : (es.toList.map fun e => (e.key, e.val))[i]? = some (x.key, x.val) := by rw [List.getElem?_map, hx]; rfl
  rw [hm] at h4
  have h5 : (zipM hs m)[i]? = some (p.1, (hs[i], p.2)) := by
    unfold zipM
    rw [List.getElem?_zipWith, List.getElem?_eq_getElem hil, hp]
  unfold mval at h4
  rw [List.getElem?_map, List.getElem?_map, h5] at h4
  have h6 := Option.some.inj h4
  exact ⟨hs[i], (congrArg Prod.fst h6).symm, (congrArg Prod.snd h6).symm⟩
end
theorem elimL {α β γ : Type} {f : α → γ} {g : β → γ} {x : α} {r : γ} (h : Sum.elim f g (Sum.inl x) = r) : f x = r := h
theorem W.condT {c1 c2 : Code} (hx : Evs n e x (.bool true)) (h : W P n base w0 e L c1 Q) : W P n base w0 e L (.cond x c1 c2) Q := W.cond hx (fun _ => h) (fun h => nomatch h)
theorem W.condF {c1 c2 : Code} (hx : Evs n e x (.bool false)) (h : W P n base w0 e L c2 Q) : W P n base w0 e L (.cond x c1 c2) Q := W.cond hx (fun h => nomatch h) (fun _ => h)
end Go.Proofs.Ytpakplmpihhmbaa
