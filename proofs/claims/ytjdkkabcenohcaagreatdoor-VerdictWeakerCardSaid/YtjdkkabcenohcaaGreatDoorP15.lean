/- Answers, plainly. -/
import Derived.Test.YtjdkkabcenohcaaGreatDoorP14
set_option linter.unusedVariables false
set_option linter.unusedSimpArgs false
set_option linter.unusedSectionVars false
set_option maxRecDepth 100000
namespace Go.Proofs.YtjdkkabcenohcaaGreatDoor
open Go.RowKit
namespace Vd
open Tx Hs Sr
/-! The lines are found by their first words. -/
theorem cut32 : ∀ {a b u v : List UInt8}, (32 : UInt8) ∉ a → (32 : UInt8) ∉ b → a ++ 32 :: u = b ++ 32 :: v → a = b ∧ u = v
  | [], [], u, v, _, _, h => ⟨rfl, by simpa using h⟩
  | [], y :: b, u, v, _, hb, h => by
    simp only [List.nil_append, List.cons_append, List.cons.injEq] at h
    exact absurd (by rw [h.1]; simp) hb
  | x :: a, [], u, v, ha, _, h => by
    simp only [List.nil_append, List.cons_append, List.cons.injEq] at h
    exact absurd (by rw [← h.1]; simp) ha
  | x :: a, y :: b, u, v, ha, hb, h => by
    simp only [List.cons_append, List.cons.injEq] at h
    have := cut32 (fun hh => ha (by simp [hh])) (fun hh => hb (by simp [hh])) h.2
    exact ⟨by rw [h.1, this.1], this.2⟩
def Sh (L : List (List Pt)) : Prop := ∀ ps ∈ L, ∃ h p r, ps = .s h :: p :: r ∧ (32 : UInt8) ∉ bs h
def ans (x : ByteArray) : List (List Pt) → Option (List UInt8)
  | [] => none
  | (.s h :: r) :: L => if h = x then some (jn 32 (r.map ptT)) else ans x L
  | _ :: L => ans x L
theorem ans_hit {x : ByteArray} {r : List Pt} {L : List (List Pt)} : ans x ((.s x :: r) :: L) = some (jn 32 (r.map ptT)) := by
  unfold ans; rw [if_pos rfl]
theorem ans_miss {x h : ByteArray} {r : List Pt} {L : List (List Pt)} (hn : h ≠ x) : ans x ((.s h :: r) :: L) = ans x L := by
  conv => lhs; unfold ans
  rw [if_neg hn]
theorem ans_none {x : ByteArray} : ∀ {L : List (List Pt)}, (∀ ps ∈ L, ∃ h p r, ps = .s h :: p :: r ∧ h ≠ x) → ans x L = none
  | [], _ => rfl
  | ps :: L, h => by
    obtain ⟨y, p, r, rfl, hn⟩ := h ps (by simp)
    rw [ans_miss hn]
    exact ans_none fun q hq => h q (by simp [hq])
theorem line_pre {h x : ByteArray} {p : Pt} {r : List Pt} (h1 : (32 : UInt8) ∉ bs h) (h2 : (32 : UInt8) ∉ bs x) : Lib.hasPrefix (jn 32 ((.s h :: p :: r : List Pt).map ptT)) (bs x ++ [32]) = decide (h = x) := by
  have e : jn 32 ((.s h :: p :: r : List Pt).map ptT) = bs h ++ 32 :: jn 32 ((p :: r).map ptT) := jn_cons (r := (p :: r).map ptT) (by simp)
  rw [e]
  unfold Lib.hasPrefix
  by_cases e : h = x
  · subst e
    rw [decide_eq_true rfl]
    exact List.isPrefixOf_iff_prefix.2 ⟨jn 32 ((p :: r).map ptT), by simp only [List.append_assoc, List.cons_append, List.nil_append]⟩
  · rw [decide_eq_false e]
    cases hb : (bs x ++ [32]).isPrefixOf (bs h ++ 32 :: jn 32 ((p :: r).map ptT)) with
    | false => rfl
    | true =>
      obtain ⟨z, hz⟩ := List.isPrefixOf_iff_prefix.1 hb
      rw [List.append_assoc, List.singleton_append] at hz
      exact absurd (bs_inj (cut32 h2 h1 hz).1.symm) e
def ansR : Option (List UInt8) → ByteArray × Bool
  | some t => (Tx.mkB t, true)
  | none => (⟨#[]⟩, false)
theorem ans_wp {N : Nat} {o x : ByteArray} {L : List (List Pt)} (hN : 5000 < N) (ho : bs o = lns L) (hk : Lok L) (hs : Sh L) (hx : (32 : UInt8) ∉ bs x) (hxs : x.size ≤ 100) (hl : L.length ≤ 10) (hz : o.size ≤ 4000000) :
    alibkeep_answer N o x = some (ansR (ans x L)) := by
  have hsp : spl 10 (bs o) = L.map (fun ps => jn 32 (ps.map ptT)) ++ [[]] := by
    have e : lns L = (L.map fun ps => jn 32 (ps.map ptT)).flatMap (· ++ [10]) ++ [] := by
      simp only [lns, List.append_nil, List.flatMap_map]; rfl
    rw [ho, e, spl_lines [] fun y hy => ?_]
    · rfl
    · obtain ⟨ps, hps, rfl⟩ := List.mem_map.1 hy
      exact line_no (hk ps hps)
  unfold alibkeep_answer
  refine Wp.eq (.elim (P := fun t => match t with | .inl _ => ans x L = none | .inr r => ∃ t, ans x L = some t ∧ r = (Tx.mkB t, true)) (.bdO (split_eq 10 (by omega)) ?_) (fun _ _ h => .one (by rw [h]; rfl)) (fun r _ ⟨t, h, hr⟩ => .one (by rw [h, hr]; rfl)))
  rw [hsp]
  have hlen : ((L.map (fun ps : List Pt => jn 32 (ps.map ptT)) ++ [[]]).map Tx.mkB).length = L.length + 1 := by simp
  have hbx : (x ++ (⟨#[32]⟩ : ByteArray)).data.toList = bs x ++ [32] := bs_app _ _
  refine .iter (L.length + 1) (fun k v => v = (k : Int) ∧ ans x L = ans x (L.drop k)) (by omega) ⟨rfl, rfl⟩ ?_ ?_
  · rintro k v hk2 ⟨rfl, ha⟩
    simp only [alibkeep_answer_L3]
    refine .condT (decide_eq_true (by rw [hlen]; omega)) ?_
    by_cases h : k < L.length
    · have hm := List.getElem_mem h
      obtain ⟨y, p, r, e, h32⟩ := hs _ hm
      have hd := List.drop_eq_getElem_cons h
      rw [e] at hd
      refine .bdO (a := Tx.mkB (jn 32 ((.s y :: p :: r : List Pt).map ptT))) (by rw [ix_nat, List.getElem?_map, List.getElem?_append_left (by simpa using h), List.getElem?_map, List.getElem?_eq_getElem h, e]; rfl) (.ck (by unfold catB; exact decide_eq_true (by have : (⟨#[32]⟩ : ByteArray).size = 1 := rfl; omega)) (.bdO rfl ?_))
      have hp := line_pre (p := p) (r := r) h32 hx
      have hb2 : (Tx.mkB (jn 32 ((.s y :: p :: r : List Pt).map ptT))).data.toList = jn 32 ((.s y :: p :: r : List Pt).map ptT) := bs_mk _
      simp only [hbx, hb2]
      refine .cond (fun hc => .one ⟨jn 32 ((p :: r).map ptT), ?_, ?_⟩) fun hc => .ck64 (by omega) (.one ⟨by simp, ?_⟩)
      · rw [hp] at hc
        have := of_decide_eq_true hc
        subst this
        rw [ha, hd, ans_hit]
      · unfold Lib.trimPrefix
        rw [if_pos hc]
        rw [hp] at hc
        have := of_decide_eq_true hc
        subst this
        congr 1
        have e : jn 32 ((.s y :: p :: r : List Pt).map ptT) = bs y ++ [32] ++ jn 32 ((p :: r).map ptT) := by rw [List.append_assoc]; exact jn_cons (r := (p :: r).map ptT) (by simp)
        rw [e, List.drop_left]
        rfl
      · rw [hp] at hc
        rw [ha, hd, ans_miss (of_decide_eq_false hc)]
    · have hk3 : k = L.length := by omega
      subst hk3
      refine .bdO (a := Tx.mkB []) (by rw [ix_nat, List.getElem?_map, List.getElem?_append_right (by simp)]; simp) (.ck (by unfold catB; exact decide_eq_true (by have : (⟨#[32]⟩ : ByteArray).size = 1 := rfl; omega)) (.bdO rfl ?_))
      have hf : Lib.hasPrefix (Tx.mkB []).data.toList (x ++ (⟨#[32]⟩ : ByteArray)).data.toList = false := by
        rw [hbx]
        show (bs x ++ [32]).isPrefixOf [] = false
        cases bs x <;> rfl
      exact .condF hf (.ck64 (by omega) (.one ⟨by simp, by rw [ha, List.drop_of_length_le (Nat.le_refl _), List.drop_of_length_le (by omega)]⟩))
  · rintro v ⟨rfl, ha⟩
    simp only [alibkeep_answer_L3]
    exact .condF (decide_eq_false (by rw [hlen]; omega)) (.one (by rw [ha, List.drop_of_length_le (by omega)]; rfl))
theorem sgl_hd {N : Nat} {typ : Int} {l : List Event} {S : List (List Pt)} (h : Sgl N typ l S) : ∀ ps ∈ S, ∃ p r, ps = .s wB :: p :: r := by
  have hb : ∀ ok b e, ∃ p r, baP ok b e = .s wB :: p :: r := fun ok b e => by
    unfold baP
    split
    · exact ⟨_, _, rfl⟩
    · split <;> exact ⟨_, _, rfl⟩
  intro ps hps
  rcases h with ⟨_, q, _, rfl⟩ | ⟨_, q, _, rfl⟩ | ⟨_, q, _, rfl⟩ | ⟨_, q, _, rfl⟩ | ⟨_, _, _, _, rfl⟩
  · rw [List.mem_singleton.1 hps]; exact hb ..
  · rw [List.mem_singleton.1 hps]; exact hb ..
  · rw [List.mem_singleton.1 hps]; exact hb ..
  · rw [List.mem_singleton.1 hps]
    unfold elP
    split
    · exact ⟨_, _, rfl⟩
    · split
      · exact ⟨_, _, rfl⟩
      · rename_i hn
        cases hq : q.1 with
        | nil => exact absurd hq hn
        | cons a r => exact ⟨_, _, rfl⟩
  · cases hps
/-- What all lines begin with, and how many there are. -/
theorem rep_sh {N : Nat} {s : ByteArray} {L : List (List Pt)} (hS : Shp N s L) : Sh L ∧ L.length ≤ 10 := by
  rcases hS with ⟨e, a, _, rfl⟩ | ⟨types, l, c, op, W, S, _, _, _, _, hW, hT, rfl⟩
  · refine ⟨fun ps hps => ?_, by simp⟩
    rw [List.mem_singleton.1 hps]
    exact ⟨_, _, _, rfl, by decide⟩
  · constructor
    · intro ps hps
      rcases List.mem_cons.1 hps with rfl | hps
      · exact ⟨_, _, _, rfl, by decide⟩
      rcases List.mem_append.1 hps with hps | hps
      · rcases hW with ⟨_, _, ⟨w, b, x, b2, y, b3, _, _, _, _, rfl⟩, _⟩ | ⟨_, rfl⟩
        · simp only [wtP, List.mem_cons, List.not_mem_nil, or_false] at hps
          rcases hps with rfl | rfl | rfl
          · exact ⟨_, _, _, rfl, by decide⟩
          · exact ⟨_, _, _, rfl, by decide⟩
          · exact ⟨_, _, _, rfl, by decide⟩
        · cases hps
      · rcases hT with ⟨_, h, _⟩ | ⟨_, rfl⟩
        · obtain ⟨p, r, rfl⟩ := sgl_hd h ps hps
          exact ⟨_, _, _, rfl, by decide⟩
        · cases hps
    · rw [List.length_cons, List.length_append]
      have : W.length ≤ 3 := by
        rcases hW with ⟨_, _, _, h⟩ | ⟨_, rfl⟩
        · omega
        · simp
      have : S.length ≤ 1 := by
        rcases hT with ⟨_, _, h⟩ | ⟨_, rfl⟩
        · exact h
        · simp
      omega
theorem y_pre {b : Bool} {r : List Pt} {N : Nat} : preO N (Tx.mkB (jn 32 ((.s (yN b) :: r : List Pt).map ptT))) (⟨#[121]⟩ : ByteArray) = some b := by
  unfold preO
  refine congrArg some (show Lib.hasPrefix (bs (Tx.mkB _)) [121] = b from ?_)
  rw [bs_mk, List.map_cons, jn_hd]
  cases b <;> rfl
theorem weakLaw {N : Nat} (hN : 10000 < N) (hv : alibkeep_verdictLives N = some true) (s : ByteArray) : alibkeep_VerdictWeaker N s = some true := by
  refine Wp.eq ?_
  unfold alibkeep_VerdictWeaker
  refine .seq (run_wp hN s) fun o _ ⟨⟨L, hL, ho, hS⟩, hz⟩ => ?_
  obtain ⟨hsh, hl⟩ := rep_sh hS
  refine .bdO (ans_wp (by omega) ho hL hsh (by decide) (by decide) hl hz) (.bdO (ans_wp (by omega) ho hL hsh (by decide) (by decide) hl hz) (.bdO (ans_wp (by omega) ho hL hsh (by decide) (by decide) hl hz) (.bdO hv ?_)))
  rcases hS with ⟨e, a, _, rfl⟩ | ⟨types, l, c, op, W, S, _, ht, hl, R, hW, hT, rfl⟩
  · exact .condF rfl (.bdO rfl (.one rfl))
  · have nS : ∀ x, x ≠ wB → ans x S = none := fun x hx => by
      rcases hT with ⟨_, h, _⟩ | ⟨_, rfl⟩
      · refine ans_none fun ps hps => ?_
        obtain ⟨p, r, rfl⟩ := sgl_hd h ps hps
        exact ⟨_, _, _, rfl, hx.symm⟩
      · rfl
    rcases hW with ⟨_, H, ⟨w, b, x, b2, y, b3, _, F1, F2, F3, rfl⟩, _⟩ | ⟨_, rfl⟩
    · have a1 : ans wT ([.s wK, .i c.length] :: (wtP b b2 b3 w ++ S)) = some (jn 32 ((.s (yN b) :: stP w).map ptT)) := by
        rw [ans_miss (by decide)]; exact ans_hit
      have a2 : ans wP ([.s wK, .i c.length] :: (wtP b b2 b3 w ++ S)) = some (jn 32 ([Pt.s (yN b2)].map ptT)) := by
        rw [ans_miss (by decide)]
        show ans wP ((.s wT :: .s (yN b) :: stP w) :: [.s wP, .s (yN b2)] :: _) = _
        rw [ans_miss (by decide), ans_hit]
      have a3 : ans wC ([.s wK, .i c.length] :: (wtP b b2 b3 w ++ S)) = some (jn 32 ([Pt.s (yN b3)].map ptT)) := by
        rw [ans_miss (by decide)]
        show ans wC ((.s wT :: .s (yN b) :: stP w) :: [.s wP, .s (yN b2)] :: [.s wC, .s (yN b3)] :: _) = _
        rw [ans_miss (by decide), ans_miss (by decide), ans_hit]
      rw [a1, a2, a3]
      have hy : ∀ b, decide (Tx.mkB (jn 32 ([Pt.s (yN b)].map ptT)) = (⟨#[121]⟩ : ByteArray)) = b := fun b => by cases b <;> rfl
      refine .condF rfl (.bdO y_pre (.one ?_))
      show (!b || (decide (Tx.mkB (jn 32 ([Pt.s (yN b2)].map ptT)) = (⟨#[121]⟩ : ByteArray)) && decide (Tx.mkB (jn 32 ([Pt.s (yN b3)].map ptT)) = (⟨#[121]⟩ : ByteArray)))) = true
      rw [hy, hy]
      cases hb : b with
      | false => rfl
      | true =>
        obtain ⟨u, g⟩ := F1.iff.1 hb
        rw [F2.iff.2 ⟨u, g.mono fun i j => prS_bf R.wf⟩, F3.iff.2 ⟨u, g.mono fun i j => caE_bf (rn_ep R)⟩]; rfl
    · have h0 : ∀ x, x ≠ wB → x ≠ wK → ans x ([.s wK, .i c.length] :: ([] ++ S)) = none := fun x h1 h2 => by rw [ans_miss h2.symm]; exact nS x h1
      rw [h0 _ (by decide) (by decide), h0 _ (by decide) (by decide), h0 _ (by decide) (by decide)]
      exact .condF rfl (.bdO rfl (.one rfl))
end Vd

end Go.Proofs.YtjdkkabcenohcaaGreatDoor
