/- The laws of texts, plainly. -/
import Derived.Test.YtjdkkabcenohcaaDoorT8
set_option linter.unusedVariables false
set_option linter.unusedSimpArgs false
set_option linter.unusedSectionVars false
set_option maxRecDepth 100000
namespace Go.Proofs.YtjdkkabcenohcaaDoor
open Go.RowKit
namespace Tx
open Hs
theorem eqI_wp {N : Nat} {a : List Int} (h : a.length < N) (h9 : a.length ≤ 1000) : slices_Equal_int_int N a a = some true := by
  refine Wp.eq ?_
  unfold slices_Equal_int_int
  refine .condF (by simp) (.elim (P := fun t => match t with | .inl _ => True | .inr _ => False) (.iter a.length (fun k v => v = (k : Int)) h rfl ?_ ?_) (fun _ _ _ => .one rfl) (fun r _ h => h.elim))
  · rintro k v hk rfl
    simp only [slices_Equal_int_int_L3]
    exact .condT (decide_eq_true (by omega)) (.ix hk (.ix hk (.condF (by simp) (.ck64 (by omega) (.one (by simp))))))
  · rintro v rfl
    simp only [slices_Equal_int_int_L3]
    exact .condF (decide_eq_false (by omega)) (.one trivial)
theorem eqE_wp {N : Nat} {a : List Event} (h : a.length < N) (h9 : a.length ≤ 1000) : slices_Equal_api_Event_api_Event N a a = some true := by
  refine Wp.eq ?_
  unfold slices_Equal_api_Event_api_Event
  refine .condF (by simp) (.elim (P := fun t => match t with | .inl _ => True | .inr _ => False) (.iter a.length (fun k v => v = (k : Int)) h rfl ?_ ?_) (fun _ _ _ => .one rfl) (fun r _ h => h.elim))
  · rintro k v hk rfl
    simp only [slices_Equal_api_Event_api_Event_L3]
    exact .condT (decide_eq_true (by omega)) (.ix hk (.ix hk (.condF (by simp) (.ck64 (by omega) (.one (by simp))))))
  · rintro v rfl
    simp only [slices_Equal_api_Event_api_Event_L3]
    exact .condF (decide_eq_false (by omega)) (.one trivial)
theorem lives : alibkeep_textLives 18446744073709551616 = some true := by kernel_rfl
/-- What a text tells, in words. -/
theorem read_ok {N : Nat} {s : ByteArray} (hN : 10000 < N) {r : List Int × List Event × Int × Int} (h : text_Read N s = some r) (h0 : r.2.2.2 = 0) : s.size ≤ 8192 ∧ Lines s r.1 r.2.1 ∧ r.2.1.length ≤ 200 ∧ r.2.2.1 = 0 ∧ ∃ q, history_Calls N r.1 r.2.1 = some q ∧ q.2.2 = 0 := by
  obtain ⟨r', hr', hw⟩ := read_wp (s := s) hN
  rw [h] at hr'
  cases hr'
  rcases hw with ⟨_, rfl⟩ | ⟨hs, ⟨k, rfl, _⟩ | ⟨types, l, q, hL, hq, hh⟩⟩
  · exact absurd h0 (by decide)
  · exact absurd (show (7 : Int) = 0 from h0) (by decide)
  · rcases hh with ⟨_, rfl⟩ | ⟨_, h2, _, _, _, rfl⟩ | ⟨hq0, rfl⟩
    · exact absurd h0 (by decide)
    · exact absurd h0 h2
    · obtain ⟨q', hq', hq1, _⟩ := calls_text (types := types) (l := l) (show 300 < N by omega)
      rw [hq] at hq'
      cases hq'
      exact ⟨hs, hL, (hq1 hq0).2.2, rfl, q, hq, hq0⟩
theorem linesLaw {N : Nat} (hN : 10000 < N) (hv : alibkeep_textLives N = some true) (s : ByteArray) : alibkeep_TextLines N s = some true := by
  refine Wp.eq ?_
  unfold alibkeep_TextLines
  refine .seq (P := fun _ => True) ((read_wp (s := s) hN).mono fun _ _ => trivial) fun r hr _ => .bdO hv ?_
  by_cases h0 : r.2.2.2 = 0
  · obtain ⟨hs, hL, _, _, _⟩ := read_ok hN hr h0
    have hll := congrArg List.length hL.ls
    rw [spl_len] at hll
    simp only [List.length_cons, List.length_append, List.length_map, List.length_nil] at hll
    have hc : countO N s (⟨#[10]⟩ : ByteArray) = some ((r.2.1.length + 1 : Nat) : Int) := by
      unfold countO
      rw [if_pos ⟨by omega, Nat.le_refl 1⟩]
      congr 2
      show Lib.count (bs s) [10] = _
      rw [Lib.count_one]; omega
    have hsf : sufO N s (⟨#[10]⟩ : ByteArray) = some true := by
      unfold sufO
      rw [if_pos (by omega)]
      congr 1
      show Lib.hasSuffix (bs s) [10] = true
      unfold Lib.hasSuffix
      rw [List.isSuffixOf_iff_suffix, ← spl_jn 10 (bs s), hL.ls, ← List.cons_append, jn_lines]
      have hne : hdL r.1 :: r.2.1.map evL ≠ [] := by simp
      rw [← List.dropLast_concat_getLast hne, List.flatMap_append]
      refine ⟨(hdL r.1 :: r.2.1.map evL).dropLast.flatMap (· ++ [10]) ++ (hdL r.1 :: r.2.1.map evL).getLast hne, ?_⟩
      simp
    have hg : ((true == true) && ((!(decide (r.2.2.2 = 0))) == false)) = true := by simp [h0]
    rw [hg]
    refine .gd _ (fun _ => hc) fun x hx => ?_
    rw [hx rfl]
    refine .ck (by rw [Bool.not_true, Bool.false_or]; exact ok64_of (by omega)) ?_
    have hl : (decide ((r.2.1.length : Int) = ((r.2.1.length + 1 : Nat) : Int) - 1)) = true := decide_eq_true (by omega)
    refine .gd true (fun _ => hsf) fun y hy => .one ?_
    rw [hy (by rw [hl]; rfl), hl]
    simp
  · have hg : ((true == true) && ((!(decide (r.2.2.2 = 0))) == false)) = false := by simp [h0]
    rw [hg]
    refine .gd 0 (fun h => by cases h) fun x hx => .ck rfl (.gd false (fun h => by simp at h) fun y hy => .one ?_)
    simp [h0]
theorem jn_take {c : UInt8} : ∀ (ls : List (List UInt8)) (m : Nat), (jn c (ls.take m)).length ≤ (jn c ls).length
  | [], m => by simp
  | a :: r, 0 => by simp [jn]
  | a :: r, m + 1 => by
    have ih := jn_take (c := c) r m
    cases r with
    | nil => simp
    | cons y r =>
      cases m with
      | zero =>
        show (jn c [a]).length ≤ _
        rw [jn_hd, jn_hd]; simp
      | succ m =>
        rw [List.take_succ_cons, jn_cons (by simp), jn_cons (by simp)]
        simp only [List.length_append, List.length_cons]; omega
theorem jn_tail {c : UInt8} : ∀ {xs : List (List UInt8)} (t : List UInt8), xs ≠ [] → jn c xs ++ c :: t = xs.flatMap (· ++ [c]) ++ t
  | [x], t, _ => by simp [jn]
  | x :: y :: r, t, _ => by
    have := jn_tail (c := c) (xs := y :: r) t (by simp)
    rw [jn_cons (by simp), List.append_assoc, List.cons_append, this]; simp
theorem frontLaw {N : Nat} (hN : 10000 < N) (hv : alibkeep_textLives N = some true) (s more : ByteArray) (hm : more.size ≤ 9223372036854700000) : alibkeep_TextFront N s more = some true := by
  refine Wp.eq ?_
  unfold alibkeep_TextFront
  refine .seq (read_wp (s := s) hN) fun r _ hw => .bdO hv (.cond (fun _ => .bdO hv (.one rfl)) (fun h => ?_))
  simp only [Bool.not_true, Bool.false_or, Bool.or_eq_false_iff, decide_eq_false_iff_not] at h
  obtain ⟨h0, h2⟩ := h
  rcases hw with ⟨_, rfl⟩ | ⟨hs, hw⟩
  · exact absurd rfl h2
  have hll := spl_len 10 (bs s)
  have hcl : (bs s).count 10 ≤ (bs s).length := List.count_le_length
  have hbl := bs_len s
  refine .bdO (split_eq 10 (by omega)) ?_
  simp only [List.length_map]
  rcases hw with ⟨k, rfl, hB⟩ | ⟨types, l, q, hL, hq, hh⟩
  · have hk := hB.1
    refine .condF (by simp only [Bool.or_eq_false_iff, decide_eq_false_iff_not]; omega) (.ck (by simp only [Bool.or_eq_true]; exact .inr (ok64_of (by omega))) (.cond (fun hc => ?_) (fun _ => .one rfl)))
    simp only [Bool.and_eq_true, decide_eq_true_eq] at hc
    have hk1 : k + 1 < (spl 10 (bs s)).length := by omega
    have htn : ((k : Int) + 1).toNat = k + 1 := by omega
    have hjl := jn_take (c := 10) (spl 10 (bs s)) (k + 1)
    rw [spl_jn] at hjl
    have hbb : (fun x : ByteArray => x.data.toList) ∘ mkB = id := funext fun x => bs_mk x
    have hj : joinO N (((spl 10 (bs s)).map mkB).take ((k : Int) + 1).toNat) (⟨#[10]⟩ : ByteArray) = some (mkB (jn 10 ((spl 10 (bs s)).take (k + 1)))) := by
      unfold joinO
      have e : Lib.join ((((spl 10 (bs s)).map mkB).take ((k : Int) + 1).toNat).map (·.data.toList)) (⟨#[10]⟩ : ByteArray).data.toList = jn 10 ((spl 10 (bs s)).take (k + 1)) := by
        rw [htn, ← List.map_take, List.map_map, hbb, List.map_id]
        exact join_jn 10 _
      rw [e, if_pos ⟨by simp; omega, by omega⟩]
      rfl
    have s1 : (⟨#[10]⟩ : ByteArray).size = 1 := rfl
    refine .ck64 (by simp only; omega) (.ck (by simp only [slB, Bool.and_eq_true, decide_eq_true_eq]; omega) (.bdO hj (.ck (by unfold catB; rw [mkB_size, s1]; exact decide_eq_true (by omega)) (.ck (by unfold catB; rw [size_app, mkB_size, s1]; exact decide_eq_true (by omega)) (.seq (read_wp hN) fun r2 _ hw2 => .one ?_)))))
    rcases hw2 with ⟨hbig, rfl⟩ | ⟨hs2, hw2⟩
    · simp only [Bool.or_eq_true, decide_eq_true_eq]
      left; omega
    have hbt : bs (mkB (jn 10 ((spl 10 (bs s)).take (k + 1))) ++ (⟨#[10]⟩ : ByteArray) ++ more) = ((spl 10 (bs s)).take (k + 1)).flatMap (· ++ [10]) ++ bs more := by
      rw [bs_app, bs_app, bs_mk, show bs (⟨#[10]⟩ : ByteArray) = [10] from rfl, List.append_assoc, List.singleton_append]
      refine jn_tail (bs more) ?_
      intro h
      have := congrArg List.length h
      rw [List.length_take, List.length_nil] at this
      omega
    have hsp : spl 10 (bs (mkB (jn 10 ((spl 10 (bs s)).take (k + 1))) ++ (⟨#[10]⟩ : ByteArray) ++ more)) = (spl 10 (bs s)).take (k + 1) ++ spl 10 (bs more) := by
      rw [hbt]
      exact spl_lines _ fun x hx => spl_mem (List.mem_of_mem_take hx)
    have hlt : ((spl 10 (bs s)).take (k + 1)).length = k + 1 := by rw [List.length_take]; omega
    have hpm : 0 < (spl 10 (bs more)).length := List.length_pos_iff.2 (spl_ne 10 _)
    have hat : ∀ j, j ≤ k → (spl 10 (bs (mkB (jn 10 ((spl 10 (bs s)).take (k + 1))) ++ (⟨#[10]⟩ : ByteArray) ++ more)))[j]? = (spl 10 (bs s))[j]? := fun j hj => by
      rw [hsp, List.getElem?_append_left (by omega), List.getElem?_take, if_pos (by omega)]
    have hlen := congrArg List.length hsp
    rw [List.length_append, hlt] at hlen
    have hkx : (spl 10 (bs s))[k]? = some (spl 10 (bs s))[k] := List.getElem?_eq_getElem hk
    have hbad := hB.2.2
    rw [if_neg (by omega)] at hbad
    have hnot := hbad _ hkx
    rcases hw2 with ⟨k', rfl, hB'⟩ | ⟨types, l, q, hL, _⟩
    · have : k' = k := by
        have hb2 := hB'.2.2
        rcases Nat.lt_trichotomy k' k with h | h | h
        · rw [if_neg (by omega)] at hb2
          have hx : (spl 10 (bs s))[k']? = some (spl 10 (bs s))[k'] := List.getElem?_eq_getElem (by omega)
          exact absurd (hB.2.1 k' _ h hx) (hb2 _ (by rw [hat k' (by omega), hx]))
        · exact h
        · exact absurd (hB'.2.1 k _ h (by rw [hat k (Nat.le_refl _), hkx])) hnot
      rw [this]
      simp
    · exfalso
      have h4 := congrArg List.length hL.ls
      simp only [List.length_cons, List.length_append, List.length_map, List.length_nil] at h4
      exact hnot (line_ok_of (r := [[]]) hL.ty hL.ev hL.ls (by omega) (by rw [hat k (Nat.le_refl _), hkx]))
  · have h3 := congrArg List.length hL.ls
    simp only [List.length_cons, List.length_append, List.length_map, List.length_nil] at h3
    rcases hh with ⟨_, rfl⟩ | ⟨q2, q0, q7, p0, ple, rfl⟩ | ⟨hq0, rfl⟩
    · exact absurd rfl h2
    · refine .condF (by simp only [Bool.or_eq_false_iff, decide_eq_false_iff_not]; omega) (.ck (by simp only [Bool.or_eq_true]; exact .inr (ok64_of (by omega))) (.condF ?_ (.one rfl)))
      rw [decide_eq_false q7]; rfl
    · exact absurd rfl h0
theorem print_read {N : Nat} (hN : 10000 < N) {types : List Int} {l : List Event} {p : ByteArray} {q : List Call × Int × Int} (hq : history_Calls N types l = some q) (h0 : q.2.2 = 0) (hp : bs p = prL types l) (hs : p.size ≤ 8192) : text_Read N p = some (types, l, 0, 0) := by
  obtain ⟨q', hq', hq1, _⟩ := calls_text (types := types) (l := l) (show 300 < N by omega)
  rw [hq] at hq'
  cases hq'
  obtain ⟨ht, hl, hle⟩ := hq1 h0
  have hsp := prL_spl ht hl
  rw [← hp] at hsp
  have hn := congrArg List.length hsp
  simp only [List.length_cons, List.length_append, List.length_map, List.length_nil] at hn
  refine Wp.eq ((read_wp (s := p) hN).mono fun r hw => ?_)
  rcases hw with ⟨h8, _⟩ | ⟨_, ⟨k, rfl, hB⟩ | ⟨types', l', q', hL, hq', hh⟩⟩
  · omega
  · exfalso
    have hb := hB.2.2
    have hk := hB.1
    split at hb
    · rename_i hk1
      refine hb ⟨?_, by omega⟩
      rw [hsp, ← List.cons_append, List.getElem?_append_right (by simp; omega), show k - (hdL types :: l.map evL).length = 0 by simp; omega]
      rfl
    · have hkx : (spl 10 (bs p))[k]? = some (spl 10 (bs p))[k] := List.getElem?_eq_getElem hk
      exact hb _ hkx (line_ok_of (r := [[]]) ht hl hsp (by omega) hkx)
  · have he := hL.ls.symm.trans hsp
    have hlen : ∀ x ∈ spl 10 (bs p), x.length ≤ 8192 := fun x hx => by
      have := spl_le hx
      rw [bs_len] at hs; omega
    simp only [List.cons.injEq] at he
    have e1 : types' = types := hdL_inj hL.ty ht (hlen _ (by rw [hL.ls]; simp)) he.1
    have e2 : l'.map evL = l.map evL := List.append_cancel_right he.2
    have e3 : l' = l := by
      have hl3 : l'.length = l.length := by have := congrArg List.length e2; simpa using this
      refine List.ext_getElem hl3 fun i h1 h2 => ?_
      have e4 : (l'.map evL)[i]? = (l.map evL)[i]? := by rw [e2]
      rw [List.getElem?_map, List.getElem?_map, List.getElem?_eq_getElem h1, List.getElem?_eq_getElem h2] at e4
      exact evL_inj (hL.ev _ (List.getElem_mem h1)) (hl _ (List.getElem_mem h2)) (hlen _ (by rw [hL.ls]; simp; exact .inr (.inl ⟨_, List.getElem_mem h1, rfl⟩))) (Option.some.inj e4)
    subst e1 e3
    rw [hq] at hq'
    cases hq'
    rcases hh with ⟨h2, _⟩ | ⟨_, h2, _⟩ | ⟨_, rfl⟩
    · omega
    · exact absurd h0 h2
    · rfl
theorem backLaw {N : Nat} (hN : 10000 < N) (hv : alibkeep_textLives N = some true) (types : List Int) (l : List Event) (s : ByteArray) : alibkeep_TextBack N types l s = some true := by
  refine Wp.eq ?_
  unfold alibkeep_TextBack
  refine .elim (P := fun t => match t with | .inl _ => True | .inr _ => False) (.seq (print_wp (types := types) (l := l) hN) fun r _ ⟨q, hq, hq1, hq2⟩ => .cond (fun hc => ?_) (fun _ => .one trivial)) (fun _ _ _ => ?_) (fun _ _ h => h.elim)
  · simp only [Bool.and_eq_true, decide_eq_true_eq] at hc
    have h0 : q.2.2 = 0 := by
      by_cases h : q.2.2 = 0
      · exact h
      · have := hq1 h
        rw [this] at hc
        exact hc.1
    obtain ⟨ht, hl, _, hp⟩ := hq2 h0
    obtain ⟨q', hq', hq3, _⟩ := calls_text (types := types) (l := l) (show 300 < N by omega)
    rw [hq] at hq'
    cases hq'
    have hle := (hq3 h0).2.2
    have htl := ht.len
    refine .bdO (print_read hN hq h0 hp (by omega)) (.gd true (fun _ => eqI_wp (by simp only; omega) (by simp only; omega)) fun x hx => ?_)
    rw [hx rfl]
    refine .gd true (fun _ => eqE_wp (by simp only; omega) (by simp only; omega)) fun y hy => ?_
    rw [hy rfl]
    exact .condF rfl (.one trivial)
  · refine .seq (P := fun _ => True) ((read_wp (s := s) hN).mono fun _ _ => trivial) fun r hr _ => .bdO hv ?_
    by_cases h0 : r.2.2.2 = 0
    · obtain ⟨hs, hL, _, hz, q, hq, hq0⟩ := read_ok hN hr h0
      refine .condF (by simp [h0]) (.seq (print_wp (types := r.1) (l := r.2.1) hN) fun p _ ⟨q', hq', _, hq2⟩ => .one ?_)
      rw [hq] at hq'
      cases hq'
      obtain ⟨_, _, hp0, hp⟩ := hq2 hq0
      have : p.1 = s := bs_inj (by rw [hp, hL.pr])
      simp [hp0, this, hz]
    · refine .condT (by simp [h0]) (.bdO hv (.one ?_))
      obtain ⟨r', hr', hw⟩ := read_wp (s := s) hN
      rw [hr] at hr'
      cases hr'
      rcases hw with ⟨_, rfl⟩ | ⟨hs, ⟨k, rfl, _⟩ | ⟨types, l, q, hL, hq, hh⟩⟩
      · rfl
      · simp
      · rcases hh with ⟨_, rfl⟩ | ⟨_, h2, _, p0, _, rfl⟩ | ⟨hq0, rfl⟩
        · rfl
        · simp; omega
        · exact absurd rfl h0
end Tx

end Go.Proofs.YtjdkkabcenohcaaDoor
