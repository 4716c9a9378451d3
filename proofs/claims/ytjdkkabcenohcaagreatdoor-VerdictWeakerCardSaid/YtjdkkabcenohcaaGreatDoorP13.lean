/- The report, plainly. -/
import Derived.Test.YtjdkkabcenohcaaGreatDoorP12
import Derived.Test.YtjdkkabcenohcaaGreatDoorVA
set_option linter.unusedVariables false
set_option linter.unusedSimpArgs false
set_option linter.unusedSectionVars false
set_option maxRecDepth 100000
namespace Go.Proofs.YtjdkkabcenohcaaGreatDoor
open Go.RowKit
namespace Sr
open Hs
theorem pl_ac {types : List Int} {c : List Call} {q : Nat → Nat → Bool} : ∀ {t : List Step} {S : List (List Int)} {w : List Nat}, Pl types c q S w t → Ac c q w t
  | [], _, _, _ => trivial
  | s :: t, S, w, ⟨i, n, h1, h2, h3, h4, h5, _, h7⟩ => ⟨i, h1, h2, h3, h4, h5, pl_ac h7⟩
end Sr

namespace Vd
open Tx
/-- What is written of a part. -/
def ptT : Pt → List UInt8
  | .s x => bs x
  | .i x => it x
  | .e x => it x
def PtOk : Pt → Prop
  | .s x => (10 : UInt8) ∉ bs x ∧ x.size ≤ 100
  | .i x => rng x
  | .e x => rng x
theorem it_len20 {n : Int} (h : rng n) : (it n).length ≤ 20 := by
  unfold rng at h
  unfold it Lib.itoa
  split
  · have := dec_len 18 n.natAbs (by simp; omega)
    simp; omega
  · have := dec_len 18 n.toNat (by simp; omega)
    omega
theorem itoa_rng {N : Nat} {n : Int} (h : rng n) : itoaO N n = some (Tx.mkB (it n)) := by
  unfold itoaO rng at *
  rw [if_pos h]; rfl
theorem pt_len {p : Pt} (h : PtOk p) : (ptT p).length ≤ 100 := by
  cases p with
  | s x => have := h.2; rw [bs_len] at this; exact this
  | i x => have := it_len20 (n := x) h; simp only [ptT]; omega
  | e x => have := it_len20 (n := x) h; simp only [ptT]; omega
theorem pt_no {p : Pt} (h : PtOk p) : (10 : UInt8) ∉ ptT p := by
  cases p with
  | s x => exact h.1
  | i x => exact it_no (.inr rfl)
  | e x => exact it_no (.inr rfl)
theorem sbw_eq {N : Nat} {a b : ByteArray} (h : a.size + b.size ≤ 10000000) : sbw N a b = some (a ++ b) := by
  unfold sbw
  rw [if_pos (by omega)]
theorem size_app (a b : ByteArray) : (a ++ b).size = a.size + b.size := ByteArray.size_append
theorem jn_snoc {c : UInt8} : ∀ {a : List (List UInt8)} {x : List UInt8}, jn c (a ++ [x]) = if a = [] then x else jn c a ++ c :: x
  | [], x => rfl
  | [a], x => rfl
  | a :: b :: r, x => by
    have := jn_snoc (c := c) (a := b :: r) (x := x)
    rw [if_neg (by simp)] at this ⊢
    rw [List.cons_append, jn_cons (by simp), jn_cons (by simp), this]
    simp
theorem jn_no {c d : UInt8} (h : c ≠ d) : ∀ {a : List (List UInt8)}, (∀ x ∈ a, d ∉ x) → d ∉ jn c a
  | [], _ => by simp [jn]
  | [x], H => H x (by simp)
  | x :: y :: r, H => by
    have := jn_no h (a := y :: r) fun z hz => H z (by simp [hz])
    have hx := H x (by simp)
    simp only [jn, List.mem_append, List.mem_cons, not_or]
    exact ⟨hx, Ne.symm h, this⟩
theorem jn_len {c : UInt8} : ∀ {a : List (List UInt8)}, (∀ x ∈ a, x.length ≤ 100) → (jn c a).length ≤ 101 * a.length
  | [], _ => by simp [jn]
  | [x], H => by have := H x (by simp); simp only [jn, List.length_singleton]; omega
  | x :: y :: r, H => by
    have := jn_len (c := c) (a := y :: r) fun z hz => H z (by simp [hz])
    have hx := H x (by simp)
    simp only [jn, List.length_append, List.length_cons] at this ⊢
    omega
theorem line_wp {N : Nat} {r : ByteArray} {ps : List Pt} (hN : ps.length < N) (hp : ∀ p ∈ ps, PtOk p) (hl : ps.length ≤ 2000) (hr : r.size ≤ 1000000) :
    Wp (verdict_report_line N r ps) fun o => bs o = bs r ++ jn 32 (ps.map ptT) ++ [10] := by
  unfold verdict_report_line
  refine .seq (P := fun o => bs o = bs r ++ jn 32 (ps.map ptT)) (.iter ps.length (fun k s => s.2 = (k : Int) ∧ bs s.1 = bs r ++ jn 32 ((ps.take k).map ptT)) hN ⟨rfl, by simp [jn]⟩ ?_ ?_) fun o _ ho => ?_
  · rintro k ⟨o, v⟩ hk ⟨hv, ho⟩
    simp only at hv ho
    subst hv
    simp only [verdict_report_line_L3]
    have htk : ps.take (k + 1) = ps.take k ++ [ps[k]] := by rw [List.take_add_one, List.getElem?_eq_getElem hk]; rfl
    have hP := hp _ (List.getElem_mem hk)
    have hj := jn_len (c := 32) (a := (ps.take k).map ptT) fun x hx => by
      obtain ⟨p, hp', rfl⟩ := List.mem_map.1 hx
      exact pt_len (hp p (List.mem_of_mem_take hp'))
    have hos : o.size ≤ 1202000 := by
      rw [bs_len, ho, List.length_append, ← bs_len]
      rw [List.length_map, List.length_take] at hj
      omega
    refine .condT (decide_eq_true (by omega)) (.ix hk ?_)
    generalize ps[k] = p at hP htk ⊢
    have s32 : (⟨#[32]⟩ : ByteArray).size = 1 := rfl
    refine .seq (P := fun o' => o'.size ≤ 1202001 ∧ bs o' ++ ptT p = bs r ++ jn 32 ((ps.take (k + 1)).map ptT)) (.cond (fun h => .bdO (sbw_eq (by rw [s32]; omega)) (.one ⟨by rw [size_app, s32]; omega, ?_⟩)) (fun h => .one ⟨by omega, ?_⟩)) fun o' _ ho' => ?_
    · have h := of_decide_eq_true h
      rw [htk, List.map_append, List.map_singleton, jn_snoc, if_neg (by intro h0; have := congrArg List.length h0; rw [List.length_map, List.length_take, List.length_nil] at this; omega), bs_app, ho]
      simp [bs]
    · have h := of_decide_eq_false h
      obtain rfl : k = 0 := by omega
      rw [htk, List.map_append, List.map_singleton, jn_snoc, if_pos (by simp), ho]
      simp [jn]
    · have hpl := pt_len hP
      cases p with
      | s x =>
        refine .condT rfl (.bdO (sbw_eq (by have := hP.2; simp only [ptS]; omega)) (.ck64 (by omega) (.one ⟨by simp, ?_⟩)))
        rw [← ho'.2]; exact bs_app _ _
      | i x =>
        refine .condF rfl (.condT rfl (.bdO (itoa_rng hP) (.bdO (sbw_eq (by rw [Tx.mkB_size]; simp only [ptT] at hpl; simp only [ptI, ptE]; omega)) (.ck64 (by omega) (.one ⟨by simp, ?_⟩)))))
        rw [← ho'.2]; simp only [bs_app, bs_mk, ptT, ptI, ptE]
      | e x =>
        refine .condF rfl (.condF rfl (.condT rfl (.bdO (itoa_rng hP) (.bdO (sbw_eq (by rw [Tx.mkB_size]; simp only [ptT] at hpl; simp only [ptI, ptE]; omega)) (.ck64 (by omega) (.one ⟨by simp, ?_⟩))))))
        rw [← ho'.2]; simp only [bs_app, bs_mk, ptT, ptI, ptE]
  · rintro ⟨o, v⟩ ⟨hv, ho⟩
    simp only at hv ho
    subst hv
    simp only [verdict_report_line_L3]
    exact .condF (decide_eq_false (by omega)) (.one (by rw [List.take_length] at ho; exact ho))
  · have hj := jn_len (c := 32) (a := ps.map ptT) fun x hx => by
      obtain ⟨p, hp', rfl⟩ := List.mem_map.1 hx
      exact pt_len (hp p hp')
    rw [List.length_map] at hj
    have s10 : (⟨#[10]⟩ : ByteArray).size = 1 := rfl
    have hos : o.size ≤ 1202000 := by
      rw [bs_len, ho, List.length_append, ← bs_len]; omega
    exact .bdO (sbw_eq (by rw [s10]; omega)) (.one (by rw [bs_app, ho]; rfl))
end Vd

namespace Vd
open Tx Hs Sr
abbrev wT : ByteArray := ⟨#[116,105,109,101]⟩
abbrev wP : ByteArray := ⟨#[112,101,111,112,108,101]⟩
abbrev wC : ByteArray := ⟨#[99,97,108,109]⟩
abbrev wB : ByteArray := ⟨#[98,97,100]⟩
abbrev wE : ByteArray := ⟨#[101,114,114,111,114]⟩
abbrev wN : ByteArray := ⟨#[110,111,110,101]⟩
abbrev wK : ByteArray := ⟨#[99,97,108,108,115]⟩
def ln (ps : List Pt) : List UInt8 := jn 32 (ps.map ptT) ++ [10]
def lns (L : List (List Pt)) : List UInt8 := L.flatMap ln
def Lok (L : List (List Pt)) : Prop := ∀ ps ∈ L, ∀ p ∈ ps, PtOk p
theorem sOk {x : ByteArray} (h : ((!(bs x).contains 10) && decide (x.size ≤ 100)) = true) : PtOk (.s x) := by
  simp only [Bool.and_eq_true, decide_eq_true_eq, Bool.not_eq_true', List.contains_eq_mem, decide_eq_false_iff_not] at h
  exact h
theorem ln_len {ps : List Pt} (hp : ∀ p ∈ ps, PtOk p) : (ln ps).length ≤ 101 * ps.length + 1 := by
  have := jn_len (c := 32) (a := ps.map ptT) fun x hx => by
    obtain ⟨p, h, rfl⟩ := List.mem_map.1 hx
    exact pt_len (hp p h)
  unfold ln
  rw [List.length_append]
  rw [List.length_map] at this
  simp only [List.length_singleton]
  omega
theorem ln_wp {N : Nat} (k : Nat) {r : ByteArray} {ps : List Pt} (hN : 5000 < N) (hp : ∀ p ∈ ps, PtOk p) (hl : ps.length ≤ k) (hk : k ≤ 2000) (hr : r.size ≤ 1000000) :
    Wp (verdict_report_line N r ps) fun o => bs o = bs r ++ ln ps ∧ o.size ≤ r.size + 101 * k + 1 :=
  (line_wp (by omega) hp (by omega) hr).mono fun o ho => by
    have h : bs o = bs r ++ ln ps := by rw [ho, List.append_assoc]; rfl
    refine ⟨h, ?_⟩
    have := ln_len hp
    rw [bs_len, h, List.length_append, ← bs_len]
    omega
def yN (b : Bool) : ByteArray := cond b ⟨#[121]⟩ ⟨#[110]⟩
theorem yes_eq {N : Nat} {b : Bool} : verdict_yes N b = some (yN b) := by cases b <;> rfl
theorem yOk {b : Bool} : PtOk (.s (yN b)) := by cases b <;> exact sOk rfl
def stP (w : List Step) : List Pt := w.flatMap fun s => [.i s.call, .i s.res]
theorem stP_len : ∀ w : List Step, (stP w).length = 2 * w.length
  | [] => rfl
  | s :: w => by
    have := stP_len w
    unfold stP at *
    simp only [List.flatMap_cons, List.length_append, List.length_cons, List.length_nil]
    omega
theorem stP_app (a b : List Step) : stP (a ++ b) = stP a ++ stP b := by unfold stP; rw [List.flatMap_append]
theorem wit_loop {N : Nat} {r : List Step × Bool × Int} {p0 : List Pt} (hN : 5000 < N) (hl : r.1.length ≤ 1000) (h0 : p0.length ≤ 10) : iter (verdict_report_witnesses_L3 N r) N (p0, 0) = some (p0 ++ stP r.1) := by
  refine Wp.eq (.iter r.1.length (fun k s => s.2 = (k : Int) ∧ s.1 = p0 ++ stP (r.1.take k)) (by omega) ⟨rfl, by simp [stP]⟩ ?_ ?_)
  · rintro k ⟨p, v⟩ hk ⟨hv, hp⟩
    simp only at hv hp
    subst hv hp
    simp only [verdict_report_witnesses_L3]
    have htk : r.1.take (k + 1) = r.1.take k ++ [r.1[k]] := by rw [List.take_add_one, List.getElem?_eq_getElem hk]; rfl
    have hlen : (stP (r.1.take k)).length = 2 * k := by rw [stP_len, List.length_take]; omega
    refine .condT (decide_eq_true (by omega)) (.ix hk (.ck (limB_of ⟨?_, ?_⟩) (.ck64 (by omega) (.one ⟨by simp, ?_⟩))))
    · simp only [List.length_append, hlen, List.length_cons, List.length_nil]
      exact Nat.le_trans (m := 10000) (by omega) (by decide)
    · simp only [List.length_append, hlen, List.length_cons, List.length_nil]
      omega
    · rw [htk, stP_app, ← List.append_assoc]; rfl
  · rintro ⟨p, v⟩ ⟨hv, hp⟩
    simp only at hv hp
    subst hv hp
    simp only [verdict_report_witnesses_L3]
    exact .condF (decide_eq_false (by omega)) (.one (by rw [List.take_length]))
theorem pl_rng {types : List Int} {c : List Call} {q : Nat → Nat → Bool} : ∀ {t : List Step} {S : List (List Int)} {w : List Nat}, Pl types c q S w t → ∀ s ∈ t, (∃ i : Nat, s.call = (i : Int) ∧ i < c.length) ∧ -1 ≤ s.res ∧ s.res ≤ 1000
  | [], _, _, _, s, h => by cases h
  | a :: t, S, w, ⟨i, n, h1, h2, h3, h4, h5, h6, h7⟩, s, hs => by
    rcases List.mem_cons.1 hs with rfl | hs
    · exact ⟨⟨i, h1, h2⟩, nx_res h6⟩
    · exact pl_rng h7 s hs
theorem fnd_rng {types : List Int} {c : List Call} {q : Nat → Nat → Bool} {x : List Step} {b : Bool} (h : Fnd types c q x b) (hc : c.length ≤ 1000) : x.length ≤ c.length ∧ ∀ s ∈ x, rng s.call ∧ rng s.res := by
  rcases h with ⟨_, ⟨g, _⟩, _⟩ | ⟨_, rfl, _⟩
  · refine ⟨(pl_ac g).len, fun s hs => ?_⟩
    obtain ⟨⟨i, h1, h2⟩, h3⟩ := pl_rng g s hs
    exact ⟨by rw [h1]; exact rngN h2 hc, rng_of (by omega)⟩
  · exact ⟨Nat.zero_le _, by simp⟩
def wtP (b b2 b3 : Bool) (w : List Step) : List (List Pt) := [.s wT :: .s (yN b) :: stP w, [.s wP, .s (yN b2)], [.s wC, .s (yN b3)]]
/-- What is told of right orders. -/
def Wit (N : Nat) (types : List Int) (l : List Event) (c : List Call) (W : List (List Pt)) : Prop :=
  ∃ w b x b2 y b3, search_Find N types l = some (w, b, 0) ∧ Fnd types c (bfA c) w b ∧ Fnd types c (prS c) x b2 ∧ Fnd types c (caE (epR l l.length).1) y b3 ∧ W = wtP b b2 b3 w
theorem wit_wp {N : Nat} {types : List Int} {l : List Event} {c : List Call} (hN : 5000 < N) {r : ByteArray} (hr : r.size ≤ 100000) (hc : search_Calls N types l = some (c, 0)) (H : Hc N types l c) :
    Wp (verdict_report_witnesses N r types l) fun o => ∃ W, Wit N types l c W ∧ Lok W ∧ W.length = 3 ∧ bs o = bs r ++ lns W ∧ o.size ≤ r.size + 10000 := by
  have hf := H.few
  unfold verdict_report_witnesses
  refine .seq (find_wp (by omega) hc) fun q hq ⟨h0, _, h1⟩ => .bdO yes_eq ?_
  have F1 := h1 rfl H
  obtain ⟨g1, g2⟩ := fnd_rng F1 (by omega)
  refine .bdO (wit_loop hN (by omega) (by simp)) ?_
  have hp1 : ∀ p ∈ ([Pt.s wT, Pt.s (yN q.2.1)] ++ stP q.1), PtOk p := fun p hp => by
    rcases List.mem_append.1 hp with hp | hp
    · rcases List.mem_cons.1 hp with rfl | hp
      · exact sOk rfl
      · rw [List.mem_singleton.1 hp]; exact yOk
    · obtain ⟨s, hs, hp⟩ := List.mem_flatMap.1 hp
      rcases List.mem_cons.1 hp with rfl | hp
      · exact (g2 s hs).1
      · rw [List.mem_singleton.1 hp]; exact (g2 s hs).2
  have hl1 : ([Pt.s wT, Pt.s (yN q.2.1)] ++ stP q.1).length ≤ 20 := by
    rw [List.length_append, stP_len]; simp only [List.length_cons, List.length_nil]; omega
  have hp2 : ∀ {x : ByteArray} {b : Bool}, PtOk (.s x) → ∀ p ∈ [Pt.s x, Pt.s (yN b)], PtOk p := fun hx p hp => by
    rcases List.mem_cons.1 hp with rfl | hp
    · exact hx
    · rw [List.mem_singleton.1 hp]; exact yOk
  refine .seq (ln_wp 20 hN hp1 hl1 (by decide) (by omega)) fun o1 _ ⟨e1, z1⟩ => .seq (sfind_wp (by omega) hc) fun q2 _ ⟨_, _, h2⟩ => .bdO yes_eq (.seq (ln_wp 2 hN (hp2 (sOk rfl)) (by simp) (by decide) (by omega)) fun o2 _ ⟨e2, z2⟩ => .seq (quiet_wp (by omega) hc) fun q3 _ ⟨_, _, h3⟩ => .bdO yes_eq (.seq (ln_wp 2 hN (hp2 (sOk rfl)) (by simp) (by decide) (by omega)) fun o3 _ ⟨e3, z3⟩ => .one ⟨wtP q.2.1 q2.2.1 q3.2.1 q.1, ⟨q.1, q.2.1, q2.1, q2.2.1, q3.1, q3.2.1, ?_, F1, h2 rfl H, h3 rfl H, rfl⟩, ?_, rfl, ?_, ?_⟩))
  · rw [hq]
    obtain ⟨a, b, d⟩ := q
    have h0 : d = 0 := h0
    rw [h0]
  · intro ps hps
    simp only [wtP, List.mem_cons, List.not_mem_nil, or_false] at hps
    rcases hps with rfl | rfl | rfl
    · exact hp1
    · exact hp2 (sOk rfl)
    · exact hp2 (sOk rfl)
  · rw [e3, e2, e1]
    simp only [lns, wtP, List.flatMap_cons, List.flatMap_nil, List.append_nil, List.append_assoc, List.cons_append, List.nil_append]
  · omega
def baP (ok : Bool) (b : Bad) (e : Int) : List Pt := if e ≠ 0 then [.s wB, .s wE, .e e] else if ok = true then [.s wB, .s wN] else [.s wB, .i b.kind, .i b.a, .i b.b]
theorem bad_wp {N : Nat} (hN : 5000 < N) {r : ByteArray} (hr : r.size ≤ 200000) {q : Bool × Int × Int × Int × Int} (h : Rs q) : Wp (verdict_report_bad N r q.1 (Bad.mk q.2.1 q.2.2.1 q.2.2.2.1) q.2.2.2.2) fun o => bs o = bs r ++ lns [baP q.1 ⟨q.2.1, q.2.2.1, q.2.2.2.1⟩ q.2.2.2.2] ∧ Lok [baP q.1 ⟨q.2.1, q.2.2.1, q.2.2.2.1⟩ q.2.2.2.2] ∧ o.size ≤ r.size + 300000 := by
  obtain ⟨h1, h2, h3, h4⟩ := h
  have l1 : ∀ ps : List Pt, lns [ps] = ln ps := fun ps => by simp [lns]
  have lk : ∀ ps : List Pt, (∀ p ∈ ps, PtOk p) → Lok [ps] := fun ps h x hx => by rw [List.mem_singleton.1 hx]; exact h
  unfold verdict_report_bad baP
  refine .cond (fun he => ?_) (fun he => .cond (fun hk => ?_) fun hk => ?_)
  · have he : q.2.2.2.2 ≠ 0 := by simpa using he
    have hp : ∀ p ∈ [Pt.s wB, Pt.s wE, Pt.e q.2.2.2.2], PtOk p := by
      intro p hp
      simp only [List.mem_cons, List.not_mem_nil, or_false] at hp
      rcases hp with rfl | rfl | rfl
      · exact sOk rfl
      · exact sOk rfl
      · exact h4
    rw [if_pos he, l1]
    exact .seq (ln_wp 4 hN hp (by simp) (by decide) (by omega)) fun o _ ho => .one ⟨ho.1, lk _ hp, by have := ho.2; omega⟩
  · have he : q.2.2.2.2 = 0 := by simpa using he
    have hp : ∀ p ∈ [Pt.s wB, Pt.s wN], PtOk p := by
      intro p hp
      simp only [List.mem_cons, List.not_mem_nil, or_false] at hp
      rcases hp with rfl | rfl
      · exact sOk rfl
      · exact sOk rfl
    rw [if_neg (by simp [he]), if_pos hk, l1]
    exact .seq (ln_wp 4 hN hp (by simp) (by decide) (by omega)) fun o _ ho => .one ⟨ho.1, lk _ hp, by have := ho.2; omega⟩
  · have he : q.2.2.2.2 = 0 := by simpa using he
    have hp : ∀ p ∈ [Pt.s wB, Pt.i q.2.1, Pt.i q.2.2.1, Pt.i q.2.2.2.1], PtOk p := by
      intro p hp
      simp only [List.mem_cons, List.not_mem_nil, or_false] at hp
      rcases hp with rfl | rfl | rfl | rfl
      · exact sOk rfl
      · exact h1
      · exact h2
      · exact h3
    rw [if_neg (by simp [he]), if_neg (by simp [hk]), l1]
    exact .seq (ln_wp 4 hN hp (by simp) (by decide) (by omega)) fun o _ ho => .one ⟨ho.1, lk _ hp, by have := ho.2; omega⟩
def elP (n : List Int) (e : Int) : List Pt := (if e ≠ 0 then [.s wB, .s wE, .e e] else if n = [] then [.s wB, .s wN] else [.s wB]) ++ n.map .i
theorem el_loop {N : Nat} {r : List Int × Int} {p0 : List Pt} (hN : 5000 < N) (hl : r.1.length ≤ 1001) (h0 : p0.length ≤ 10) : iter (verdict_report_elements_L3 N r) N (p0, 0) = some (p0 ++ r.1.map .i) := by
  refine Wp.eq (.iter r.1.length (fun k s => s.2 = (k : Int) ∧ s.1 = p0 ++ (r.1.take k).map .i) (by omega) ⟨rfl, by simp⟩ ?_ ?_)
  · rintro k ⟨p, v⟩ hk ⟨hv, hp⟩
    simp only at hv hp
    subst hv hp
    simp only [verdict_report_elements_L3]
    have htk : r.1.take (k + 1) = r.1.take k ++ [r.1[k]] := by rw [List.take_add_one, List.getElem?_eq_getElem hk]; rfl
    have hlen : (r.1.take k).length = k := by rw [List.length_take]; omega
    refine .condT (decide_eq_true (by omega)) (.ix hk (.ck (limB_of ⟨?_, ?_⟩) (.ck64 (by omega) (.one ⟨by simp, ?_⟩))))
    · simp only [List.length_append, List.length_map, hlen, List.length_cons, List.length_nil]
      exact Nat.le_trans (m := 10000) (by omega) (by decide)
    · simp only [List.length_append, List.length_map, hlen, List.length_cons, List.length_nil]
      omega
    · rw [htk, List.map_append, ← List.append_assoc]; rfl
  · rintro ⟨p, v⟩ ⟨hv, hp⟩
    simp only at hv hp
    subst hv hp
    simp only [verdict_report_elements_L3]
    exact .condF (decide_eq_false (by omega)) (.one (by rw [List.take_length]))
theorem el_wp {N : Nat} (hN : 5000 < N) {r : ByteArray} (hr : r.size ≤ 200000) (l : List Event) : Wp (verdict_report_elements N r l) fun o => ∃ q, bags_Check N l = some q ∧ bs o = bs r ++ lns [elP q.1 q.2] ∧ Lok [elP q.1 q.2] ∧ o.size ≤ r.size + 300000 := by
  unfold verdict_report_elements
  refine .seq (bags_rs (by omega) l) fun q hq ⟨h1, h2, h3, h4⟩ => .seq (P := fun p => p = (if q.2 ≠ 0 then [.s wB, .s wE, .e q.2] else if q.1 = [] then [.s wB, .s wN] else [.s wB])) (.cond (fun he => .ck (by rfl) (.one ?_)) fun he => .cond (fun hn => .ck (by rfl) (.one ?_)) fun hn => .one ?_) fun p _ hp => ?_
  · rw [if_pos (by simpa using he)]; rfl
  · rw [if_neg (by simpa using he), if_pos (List.eq_nil_of_length_eq_zero (by have := of_decide_eq_true hn; omega))]; rfl
  · rw [if_neg (by simpa using he), if_neg (by rintro h; rw [h] at hn; simp at hn)]
  · have hp0 : p.length ≤ 10 ∧ ∀ x ∈ p, PtOk x := by
      subst hp
      split
      · refine ⟨by simp, fun x hx => ?_⟩
        simp only [List.mem_cons, List.not_mem_nil, or_false] at hx
        rcases hx with rfl | rfl | rfl
        · exact sOk rfl
        · exact sOk rfl
        · exact h1
      · split
        · refine ⟨by simp, fun x hx => ?_⟩
          simp only [List.mem_cons, List.not_mem_nil, or_false] at hx
          rcases hx with rfl | rfl
          · exact sOk rfl
          · exact sOk rfl
        · refine ⟨by simp, fun x hx => ?_⟩
          rw [List.mem_singleton.1 hx]; exact sOk rfl
    have hall : ∀ x ∈ p ++ q.1.map Pt.i, PtOk x := fun x hx => by
      rcases List.mem_append.1 hx with hx | hx
      · exact hp0.2 x hx
      · obtain ⟨n, hn, rfl⟩ := List.mem_map.1 hx
        exact h4 n hn
    have he : elP q.1 q.2 = p ++ q.1.map Pt.i := by rw [hp]; rfl
    refine .bdO (el_loop hN h3 hp0.1) (.seq (ln_wp 1100 hN hall (by rw [List.length_append, List.length_map]; omega) (by decide) (by omega)) fun o _ ho => .one ⟨q, hq, ?_, ?_, ?_⟩)
    · rw [he, ho.1]; simp [lns]
    · rw [he]; intro x hx; rw [List.mem_singleton.1 hx]; exact hall
    · have := ho.2; omega
/-- What is told of one thing alone. -/
def Sgl (N : Nat) (typ : Int) (l : List Event) (S : List (List Pt)) : Prop :=
  (typ = 1 ∧ ∃ q, zones_Check N l = some q ∧ S = [baP q.1 ⟨q.2.1, q.2.2.1, q.2.2.2.1⟩ q.2.2.2.2]) ∨ (typ = 2 ∧ ∃ q, rows_Check N l = some q ∧ S = [baP q.1 ⟨q.2.1, q.2.2.1, q.2.2.2.1⟩ q.2.2.2.2]) ∨
  (typ = 5 ∧ ∃ q, tickets_Check N l = some q ∧ S = [baP q.1 ⟨q.2.1, q.2.2.1, q.2.2.2.1⟩ q.2.2.2.2]) ∨ (typ = 4 ∧ ∃ q, bags_Check N l = some q ∧ S = [elP q.1 q.2]) ∨ (typ ≠ 1 ∧ typ ≠ 2 ∧ typ ≠ 4 ∧ typ ≠ 5 ∧ S = [])
theorem sgl_wp {N : Nat} (hN : 5000 < N) {r : ByteArray} (hr : r.size ≤ 200000) (typ : Int) (l : List Event) : Wp (verdict_report_single N r typ l) fun o => ∃ S, Sgl N typ l S ∧ Lok S ∧ S.length ≤ 1 ∧ bs o = bs r ++ lns S ∧ o.size ≤ r.size + 300000 := by
  unfold verdict_report_single Sgl
  refine .cond (fun h => ?_) fun n1 => .cond (fun h => ?_) fun n2 => .cond (fun h => ?_) fun n5 => .cond (fun h => ?_) fun n4 => .one ?_
  · exact .seq (zones_rs (by omega) l) fun q hq hR => .seq (bad_wp hN hr hR) fun o _ ho => .one ⟨_, .inl ⟨of_decide_eq_true h, q, hq, rfl⟩, ho.2.1, Nat.le_refl _, ho.1, ho.2.2⟩
  · exact .seq (rows_rs (by omega) l) fun q hq hR => .seq (bad_wp hN hr hR) fun o _ ho => .one ⟨_, .inr (.inl ⟨of_decide_eq_true h, q, hq, rfl⟩), ho.2.1, Nat.le_refl _, ho.1, ho.2.2⟩
  · exact .seq (tickets_rs hN l) fun q hq hR => .seq (bad_wp hN hr hR) fun o _ ho => .one ⟨_, .inr (.inr (.inl ⟨of_decide_eq_true h, q, hq, rfl⟩)), ho.2.1, Nat.le_refl _, ho.1, ho.2.2⟩
  · exact .seq (el_wp hN hr l) fun o _ ⟨q, hq, h1, h2, h3⟩ => .one ⟨_, .inr (.inr (.inr (.inl ⟨of_decide_eq_true h, q, hq, rfl⟩))), h2, Nat.le_refl _, h1, h3⟩
  · exact ⟨[], .inr (.inr (.inr (.inr ⟨of_decide_eq_false n1, of_decide_eq_false n2, of_decide_eq_false n4, of_decide_eq_false n5, rfl⟩))), (fun x hx => nomatch hx), Nat.zero_le _, by simp [lns], by omega⟩
/-- The report. -/
def Shp (N : Nat) (s : ByteArray) (L : List (List Pt)) : Prop := (∃ e a : Int, e ≠ 0 ∧ L = [[.s wE, .e e, .i a]]) ∨
  ∃ types l c op W S, text_Read N s = some (types, l, 0, 0) ∧ history_Types N types = some 0 ∧ l.length ≤ 200 ∧ RnH N types l l.length c op ∧ ((c.length ≤ 9 ∧ Hc N types l c ∧ Wit N types l c W ∧ W.length = 3) ∨ (9 < c.length ∧ W = [])) ∧
    ((types.length = 1 ∧ Sgl N (types.getD 0 0) l S ∧ S.length ≤ 1) ∨ (types.length ≠ 1 ∧ S = [])) ∧ L = [.s wK, .i c.length] :: (W ++ S)
def Rep (N : Nat) (s o : ByteArray) : Prop := ∃ L, Lok L ∧ bs o = lns L ∧ Shp N s L
theorem run_wp {N : Nat} (hN : 10000 < N) (s : ByteArray) : Wp (verdict_Run N s) fun o => Rep N s o ∧ o.size ≤ 4000000 := by
  unfold verdict_Run
  have hsb : ∀ {o : ByteArray} {x : List UInt8}, bs o = x → x ≠ [] → sbs N o = some o := fun h hx => by
    unfold sbs
    rw [if_neg]
    rw [bs_len, h]
    exact fun h0 => hx (List.eq_nil_of_length_eq_zero h0)
  have lnn : ∀ ps, ln ps ≠ [] := fun ps h => by have := congrArg List.length h; simp [ln] at this
  have z0 : (⟨#[]⟩ : ByteArray).size = 0 := rfl
  refine .seq (read_wp hN) fun r hr hw => .cond (fun he0 => ?_) fun he0 => ?_
  · have he : r.2.2.2 ≠ 0 := by simpa using he0
    have hk : rng r.2.2.2 ∧ rng r.2.2.1 := by
      have hcl : (bs s).count 10 ≤ (bs s).length := List.count_le_length
      have hll := spl_len 10 (bs s)
      have hbl := bs_len s
      rcases hw with ⟨_, rfl⟩ | ⟨hs, ⟨k, rfl, hB⟩ | ⟨types, l, q, hL, hq, hh⟩⟩
      · exact ⟨rng_of (by decide), rng0⟩
      · have := hB.1
        exact ⟨rng_of (x := 7) (by decide), rng_of (x := (k : Int)) (by omega)⟩
      · rcases hh with ⟨_, rfl⟩ | ⟨_, _, _, p0, p1, rfl⟩ | ⟨_, rfl⟩
        · exact ⟨rng_of (by decide), rng0⟩
        · have h3 := congrArg List.length hL.ls
          simp only [List.length_cons, List.length_append, List.length_map, List.length_nil] at h3
          exact ⟨(hist_sm _ hq).to_rng, rng_of (by simp only; omega)⟩
        · exact absurd rfl he
    have hp : ∀ p ∈ [Pt.s wE, Pt.e r.2.2.2, Pt.i r.2.2.1], PtOk p := by
      intro p hp
      simp only [List.mem_cons, List.not_mem_nil, or_false] at hp
      rcases hp with rfl | rfl | rfl
      · exact sOk rfl
      · exact hk.1
      · exact hk.2
    refine .seq (ln_wp 3 (by omega) hp (by simp) (by decide) (by rw [z0]; omega)) fun o _ ⟨ho, hz⟩ => .bdO (hsb (x := ln [Pt.s wE, Pt.e r.2.2.2, Pt.i r.2.2.1]) (by rw [ho]; rfl) (lnn _)) (.one ⟨⟨[[Pt.s wE, Pt.e r.2.2.2, Pt.i r.2.2.1]], ?_, ?_, .inl ⟨_, _, he, rfl⟩⟩, ?_⟩)
    · intro x hx; rw [List.mem_singleton.1 hx]; exact hp
    · rw [ho]; simp [lns, bs]
    · rw [z0] at hz; omega
  · have he : r.2.2.2 = 0 := by simpa using he0
    obtain ⟨hs, hL, hl200, h1, q, hq, hq0⟩ := read_ok hN hr he
    obtain ⟨types, l, a, e⟩ := r
    clear he0
    simp only at h1 he hL hl200 hq
    subst h1 he
    obtain ⟨q', hq', h2⟩ := calls_rn (N := N) (types := types) (l := l) (by omega)
    rw [hq] at hq'
    cases hq'
    obtain ⟨ht, _, hl, _, op, R⟩ := h2 hq0
    have hc := calls_of (by omega) ht hl R
    have hcl := R.wf.len
    generalize q.1 = c at R hc hcl
    refine .bdO hc ?_
    have hp : ∀ p ∈ [Pt.s wK, Pt.i (c.length : Int)], PtOk p := by
      intro p hp
      simp only [List.mem_cons, List.not_mem_nil, or_false] at hp
      rcases hp with rfl | rfl
      · exact sOk rfl
      · exact rng_of (by omega)
    refine .seq (ln_wp 3 (by omega) hp (by simp) (by decide) (by rw [z0]; omega)) fun o1 _ ⟨ho1, hz1⟩ => ?_
    rw [z0] at hz1
    have e0 : bs o1 = lns [[Pt.s wK, Pt.i (c.length : Int)]] := by rw [ho1]; simp [lns, bs]
    refine .seq (P := fun o => ∃ W, ((c.length ≤ 9 ∧ Hc N types l c ∧ Wit N types l c W ∧ W.length = 3) ∨ (9 < c.length ∧ W = [])) ∧ Lok W ∧ bs o = bs o1 ++ lns W ∧ o.size ≤ 20000) (.cond (fun h9 => ?_) fun h9 => .one ⟨[], .inr ⟨by have h9 : ¬ (c.length : Int) ≤ 9 := of_decide_eq_false h9; omega, rfl⟩, (fun x hx => nomatch hx), by simp [lns], by omega⟩) fun o2 _ ⟨W, hW, kW, e2, z2⟩ => ?_
    · have h9 : c.length ≤ 9 := by have h9 : (c.length : Int) ≤ 9 := of_decide_eq_true h9; omega
      have h9c := calls9_of hc h9
      have H : Hc N types l c := hc_of (by omega) h9c
      exact .seq (wit_wp (by omega) (by omega) h9c H) fun o _ ⟨W, w1, w2, w3, w4, w5⟩ => .one ⟨W, .inl ⟨h9, H, w1, w3⟩, w2, w4, by omega⟩
    have hne : ∀ {o : ByteArray} {S : List (List Pt)}, bs o = bs o2 ++ lns S → sbs N o = some o := fun h => hsb h (by
      rw [e2, e0]
      intro h
      have := congrArg List.length h
      simp [lns, ln] at this)
    have fin : ∀ {o : ByteArray} {S : List (List Pt)}, bs o = bs o2 ++ lns S → bs o = lns ([Pt.s wK, Pt.i (c.length : Int)] :: (W ++ S)) := fun h => by
      rw [h, e2, e0]; simp [lns]
    have kall : ∀ {S : List (List Pt)}, Lok S → Lok ([Pt.s wK, Pt.i (c.length : Int)] :: (W ++ S)) := fun hS x hx => by
      rcases List.mem_cons.1 hx with rfl | hx
      · exact hp
      · rcases List.mem_append.1 hx with hx | hx
        · exact kW x hx
        · exact hS x hx
    refine .cond (fun h1 => ?_) fun h1 => ?_
    · have h1 : types.length = 1 := by have h1 : (types.length : Int) = 1 := of_decide_eq_true h1; omega
      refine .ixD 0 (by omega) (by simp only; omega) (.seq (sgl_wp (by omega) (by omega) _ l) fun o3 _ ⟨S, hS, kS, s1, e3, z3⟩ => .bdO (hne e3) (.one ⟨⟨_, kall kS, fin e3, .inr ⟨types, l, c, op, W, S, hr, ht, hl, R, hW, .inl ⟨h1, hS, s1⟩, rfl⟩⟩, by omega⟩))
    · have h1 : types.length ≠ 1 := by have h1 : ¬ (types.length : Int) = 1 := of_decide_eq_false h1; omega
      exact .bdO (hne (S := []) (by simp [lns])) (.one ⟨⟨_, kall (S := []) (fun x hx => nomatch hx), fin (S := []) (by simp [lns]), .inr ⟨types, l, c, op, W, [], hr, ht, hl, R, hW, .inr ⟨h1, rfl⟩, rfl⟩⟩, by omega⟩)
end Vd

end Go.Proofs.YtjdkkabcenohcaaGreatDoor
