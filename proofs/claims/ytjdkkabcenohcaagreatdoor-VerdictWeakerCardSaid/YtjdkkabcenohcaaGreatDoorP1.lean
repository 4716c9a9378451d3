/- Bytes, rows cut at a byte, numbers, lines. -/
import Derived.Test.YtjdkkabcenohcaaGreatDoorV1
import Derived.Test.YtjdkkabcenohcaaGreatDoorPl
import Derived.Lib.AtoiTie
import Derived.Lib.Join
set_option linter.unusedVariables false
set_option linter.unusedSimpArgs false
set_option linter.unusedSectionVars false
set_option maxRecDepth 100000
namespace Go.Proofs.YtjdkkabcenohcaaGreatDoor
open Go.RowKit
namespace Tx
/-! Bytes; a row cut at one byte. -/
def bs (s : ByteArray) : List UInt8 := s.data.toList
def mkB (l : List UInt8) : ByteArray := ⟨l.toArray⟩
theorem mk_bs (s : ByteArray) : mkB (bs s) = s := Lib.mk_data s
theorem bs_mk (l : List UInt8) : bs (mkB l) = l := by simp [bs, mkB]
theorem bs_app (a b : ByteArray) : bs (a ++ b) = bs a ++ bs b := by simp [bs, ByteArray.data_append]
theorem bs_len (s : ByteArray) : s.size = (bs s).length := Lib.size_eq s
theorem bs_inj {a b : ByteArray} (h : bs a = bs b) : a = b := by rw [← mk_bs a, h, mk_bs]
def spl (c : UInt8) : List UInt8 → List (List UInt8)
  | [] => [[]]
  | b :: l => if b = c then [] :: spl c l else match spl c l with
    | [] => [[b]]
    | p :: r => (b :: p) :: r
def jn (c : UInt8) : List (List UInt8) → List UInt8
  | [] => []
  | [x] => x
  | x :: y :: r => x ++ c :: jn c (y :: r)
theorem spl_ne (c : UInt8) : ∀ s, spl c s ≠ []
  | [] => by simp [spl]
  | b :: l => by
    unfold spl
    split
    · simp
    · split <;> simp
theorem spl_cons_eq (c : UInt8) (l : List UInt8) : spl c (c :: l) = [] :: spl c l := by simp [spl]
theorem spl_cons_ne {b c : UInt8} {l p : List UInt8} {r : List (List UInt8)} (h : b ≠ c) (hs : spl c l = p :: r) : spl c (b :: l) = (b :: p) :: r := by
  unfold spl
  rw [if_neg h, hs]
theorem index1 (b c : UInt8) (l : List UInt8) : Lib.index (b :: l) [c] = if b = c then 0 else if Lib.index l [c] = -1 then -1 else Lib.index l [c] + 1 := by
  rw [Lib.index]
  have e : [c].isPrefixOf (b :: l) = decide (b = c) := by
    by_cases h : b = c
    · subst h; simp [List.isPrefixOf]
    · simp [List.isPrefixOf, h, Ne.symm h]
  rw [e]
  by_cases h : b = c
  · simp [h]
  · simp only [h, decide_false, if_false, Bool.false_eq_true, beq_iff_eq]
theorem splitK_spl (c : UInt8) : ∀ s, Lib.splitK [c] 0 (Lib.count s [c]) s = spl c s
  | [] => by rw [Lib.count_one]; rfl
  | b :: l => by
    have ih := splitK_spl c l
    by_cases h : b = c
    · subst h
      rw [Lib.count_cons_eq, Nat.add_comm, spl_cons_eq, ← ih, Lib.splitK, index1, if_pos rfl]
      rfl
    · rw [Lib.count_cons_ne b c l h]
      generalize Lib.count l [c] = n at ih ⊢
      obtain ⟨p, r, hs⟩ : ∃ p r, spl c l = p :: r := by
        cases hs : spl c l with
        | nil => exact absurd hs (spl_ne c l)
        | cons p r => exact ⟨p, r, rfl⟩
      rw [spl_cons_ne h hs]
      rw [hs] at ih
      cases n with
      | zero =>
        simp only [Lib.splitK] at ih ⊢
        cases ih; rfl
      | succ n =>
        simp only [Lib.splitK] at ih ⊢
        rw [index1, if_neg h]
        by_cases hi : Lib.index l [c] = -1
        · rw [if_pos (by simpa using hi)] at ih
          rw [if_pos hi, if_pos (by rfl)]
          cases ih; rfl
        · rw [if_neg (by simpa using hi)] at ih
          have hge := Lib.index_ge l [c]
          rw [if_neg hi, if_neg (by simp; omega)]
          have e : (Lib.index l [c] + 1).toNat = (Lib.index l [c]).toNat + 1 := by omega
          rw [e]
          have e2 : (b :: l).take ((Lib.index l [c]).toNat + 1 + 0) = b :: l.take ((Lib.index l [c]).toNat + 0) := rfl
          have e3 : (b :: l).drop ((Lib.index l [c]).toNat + 1 + [c].length) = l.drop ((Lib.index l [c]).toNat + [c].length) := rfl
          rw [e2, e3]
          cases ih; rfl
theorem split_eq {N : Nat} {s : ByteArray} (c : UInt8) (h : s.size < 4294967281) : splitO N s ⟨#[c]⟩ = some ((spl c (bs s)).map mkB) := by
  unfold splitO
  rw [if_pos ⟨h, Nat.le_refl 1⟩]
  congr 1
  have h1 := Lib.splitB_data ⟨#[c]⟩ 0 (Lib.countB s ⟨#[c]⟩) s
  have h2 : Lib.splitK [c] 0 (Lib.countB s ⟨#[c]⟩) (bs s) = spl c (bs s) := splitK_spl c (bs s)
  rw [show (⟨#[c]⟩ : ByteArray).data.toList = [c] from rfl, show s.data.toList = bs s from rfl, h2] at h1
  rw [← h1, List.map_map]
  have : (mkB ∘ fun x : ByteArray => x.data.toList) = id := funext fun x => mk_bs x
  rw [this, List.map_id]
theorem spl_no {c : UInt8} : ∀ {s : List UInt8}, c ∉ s → spl c s = [s]
  | [], _ => rfl
  | b :: l, h => by
    have h1 : b ≠ c := fun e => h (by simp [e])
    exact spl_cons_ne h1 (spl_no fun e => h (by simp [e]))
theorem spl_app {c : UInt8} : ∀ {a : List UInt8} (b : List UInt8), c ∉ a → spl c (a ++ c :: b) = a :: spl c b
  | [], b, _ => spl_cons_eq c b
  | x :: a, b, h => by
    have h1 : x ≠ c := fun e => h (by simp [e])
    exact spl_cons_ne h1 (spl_app b fun e => h (by simp [e]))
theorem spl_lines {c : UInt8} : ∀ {ls : List (List UInt8)} (t : List UInt8), (∀ x ∈ ls, c ∉ x) → spl c (ls.flatMap (· ++ [c]) ++ t) = ls ++ spl c t
  | [], _, _ => rfl
  | x :: ls, t, h => by
    have e : (x :: ls).flatMap (· ++ [c]) ++ t = x ++ c :: (ls.flatMap (· ++ [c]) ++ t) := by simp
    rw [e, spl_app _ (h x (by simp)), spl_lines t fun y hy => h y (by simp [hy])]
    rfl
theorem jn_cons {c : UInt8} {x : List UInt8} {r : List (List UInt8)} (h : r ≠ []) : jn c (x :: r) = x ++ c :: jn c r := by
  cases r with
  | nil => exact absurd rfl h
  | cons y r => rfl
theorem spl_jn (c : UInt8) : ∀ s, jn c (spl c s) = s
  | [] => rfl
  | b :: l => by
    have ih := spl_jn c l
    by_cases h : b = c
    · subst h
      rw [spl_cons_eq, jn_cons (spl_ne b l), ih]; rfl
    · obtain ⟨p, r, hs⟩ : ∃ p r, spl c l = p :: r := by
        cases hs : spl c l with
        | nil => exact absurd hs (spl_ne c l)
        | cons p r => exact ⟨p, r, rfl⟩
      rw [spl_cons_ne h hs]
      rw [hs] at ih
      cases r with
      | nil => simp only [jn] at ih ⊢; rw [ih]
      | cons y r => simp only [jn] at ih ⊢; rw [List.cons_append, ih]
theorem spl_len (c : UInt8) : ∀ s, (spl c s).length = s.count c + 1
  | [] => rfl
  | b :: l => by
    have ih := spl_len c l
    by_cases h : b = c
    · subst h
      rw [spl_cons_eq, List.length_cons, ih, List.count_cons_self]
    · obtain ⟨p, r, hs⟩ : ∃ p r, spl c l = p :: r := by
        cases hs : spl c l with
        | nil => exact absurd hs (spl_ne c l)
        | cons p r => exact ⟨p, r, rfl⟩
      rw [spl_cons_ne h hs, List.count_cons_of_ne h]
      rw [hs] at ih
      simpa using ih
theorem decFrom_app : ∀ (a b : List UInt8) (n : Nat), Lib.decFrom n (a ++ b) = (Lib.decFrom n a).bind fun m => Lib.decFrom m b
  | [], b, n => rfl
  | x :: a, b, n => by
    simp only [List.cons_append, Lib.decFrom]
    cases Lib.digitVal x with
    | none => rfl
    | some d => exact decFrom_app a b _
theorem digit_val {k : Nat} (h : k < 10) : Lib.digitVal (UInt8.ofNat (48 + k)) = some k := by
  have : (UInt8.ofNat (48 + k)).toNat = 48 + k := by rw [UInt8.toNat_ofNat']; omega
  unfold Lib.digitVal
  rw [this, if_pos (by omega)]
  congr 1; omega
theorem dec_read : ∀ u, Lib.decFrom 0 (Lib.decDigits u) = some u := by
  intro u
  induction u using Nat.strongRecOn with
  | ind u ih =>
    unfold Lib.decDigits
    split
    · rename_i h
      rw [Lib.decFrom, digit_val h]
      simp [Lib.decFrom]
    · rename_i h
      rw [decFrom_app, ih (u / 10) (by omega), Option.bind_some, Lib.decFrom, digit_val (show u % 10 < 10 by omega)]
      simp only [Lib.decFrom]
      congr 1
      omega
theorem dec_digit : ∀ u, ∀ b ∈ Lib.decDigits u, 48 ≤ b.toNat ∧ b.toNat ≤ 57 := by
  intro u
  induction u using Nat.strongRecOn with
  | ind u ih =>
    intro b hb
    unfold Lib.decDigits at hb
    have dg : ∀ k, k < 10 → 48 ≤ (UInt8.ofNat (48 + k)).toNat ∧ (UInt8.ofNat (48 + k)).toNat ≤ 57 := fun k hk => by
      have : (UInt8.ofNat (48 + k)).toNat = 48 + k := by rw [UInt8.toNat_ofNat']; omega
      omega
    split at hb
    · rename_i h
      rw [List.mem_singleton.1 hb]; exact dg u h
    · rename_i h
      rcases List.mem_append.1 hb with hb | hb
      · exact ih (u / 10) (by omega) b hb
      · rw [List.mem_singleton.1 hb]; exact dg _ (by omega)
theorem dec_ne (u : Nat) : Lib.decDigits u ≠ [] := by
  unfold Lib.decDigits
  split <;> simp
theorem dec_len : ∀ k u, u < 10 ^ (k + 1) → (Lib.decDigits u).length ≤ k + 1
  | 0, u, h => by
    unfold Lib.decDigits
    rw [dif_pos (by simpa using h)]; simp
  | k + 1, u, h => by
    unfold Lib.decDigits
    split
    · simp
    · have := dec_len k (u / 10) (by rw [Nat.pow_succ] at h; omega)
      simp; omega
def it (n : Int) : List UInt8 := Lib.itoa n
theorem it_mem (n : Int) : ∀ b ∈ it n, b.toNat = 45 ∨ (48 ≤ b.toNat ∧ b.toNat ≤ 57) := by
  intro b hb
  unfold it Lib.itoa at hb
  split at hb
  · rcases List.mem_cons.1 hb with rfl | hb
    · exact .inl rfl
    · exact .inr (dec_digit _ b hb)
  · exact .inr (dec_digit _ b hb)
theorem it_no {n : Int} {c : UInt8} (h : c = 32 ∨ c = 10) : c ∉ it n := fun hc => by
  have := it_mem n c hc
  rcases h with rfl | rfl
  · rw [show (32 : UInt8).toNat = 32 from rfl] at this; omega
  · rw [show (10 : UInt8).toNat = 10 from rfl] at this; omega
theorem it_len {n : Int} (h : -1000000 ≤ n ∧ n ≤ 1000000) : (it n).length ≤ 8 := by
  unfold it Lib.itoa
  split
  · have := dec_len 6 n.natAbs (by simp; omega)
    simp; omega
  · have := dec_len 6 n.toNat (by simp; omega)
    omega
theorem dec_nat (u : Nat) : Lib.decNat (Lib.decDigits u) = some u := by
  unfold Lib.decNat
  have := dec_ne u
  rw [if_neg (by simpa using this)]
  exact dec_read u
theorem atoi_it {n : Int} (h : -1000000 ≤ n ∧ n ≤ 1000000) : Lib.atoiAll (it n) = .ok n := by
  rw [Lib.atoiAll_short _ (by have := it_len h; omega)]
  have : Lib.atoi (it n) = some n := by
    unfold it Lib.itoa
    split
    · rename_i hn
      simp only [Lib.atoi]
      rw [if_pos (by rfl), dec_nat]
      simp; omega
    · rename_i hn
      have hd := dec_nat n.toNat
      obtain ⟨b, r, hbr⟩ : ∃ b r, Lib.decDigits n.toNat = b :: r := by
        cases h : Lib.decDigits n.toNat with
        | nil => exact absurd h (dec_ne _)
        | cons b r => exact ⟨b, r, rfl⟩
      have hb := dec_digit n.toNat b (by rw [hbr]; simp)
      rw [hbr] at hd ⊢
      have h45 : b ≠ 45 := fun e => by subst e; rw [show (45 : UInt8).toNat = 45 from rfl] at hb; omega
      have h43 : b ≠ 43 := fun e => by subst e; rw [show (43 : UInt8).toNat = 43 from rfl] at hb; omega
      simp only [Lib.atoi]
      rw [if_neg (by simpa using h45), if_neg (by simpa using h43), hd]
      simp; omega
  rw [this]; rfl
/-- A number's text. -/
def Num (l : List UInt8) (n : Int) : Prop := l = it n ∧ -1000000 ≤ n ∧ n ≤ 1000000
theorem number_wp {N : Nat} {s : ByteArray} (hs : s.size ≤ 8192) : Wp (text_number N s) fun r => (r.2 = true → Num (bs s) r.1) ∧ ∀ n, Num (bs s) n → r = (n, true) := by
  unfold text_number
  have hA : atoiO N s = some (match Lib.atoiAll (bs s) with
    | .ok v => (v, false)
    | .range => (Lib.atoiSat (bs s), true)
    | _ => (0, true)) := by
    unfold atoiO
    rw [if_pos (by omega)]; rfl
  refine .bdO hA ?_
  cases h : Lib.atoiAll (bs s) with
  | ok v =>
    have hb := Lib.atoiAll_bounds h
    refine .bdO (a := mkB (it v)) (by show itoaO N v = _; unfold itoaO; rw [if_pos hb]; rfl) (.one ⟨fun hr => ?_, fun n hn => ?_⟩)
    · simp only [Bool.not_false, Bool.true_and, Bool.and_eq_true, decide_eq_true_eq] at hr
      exact ⟨by rw [← hr.1.1, bs_mk], hr.1.2, hr.2⟩
    · obtain ⟨h1, h2⟩ := hn
      rw [h1, atoi_it h2] at h
      cases h
      have : mkB (it v) = s := bs_inj (by rw [bs_mk, h1])
      simp [this, h2]
  | range =>
    refine .bdO rfl (.one ⟨fun hr => ?_, fun n hn => ?_⟩)
    · simp at hr
    · rw [hn.1, atoi_it hn.2] at h; cases h
  | _ =>
    refine .bdO rfl (.one ⟨fun hr => ?_, fun n hn => ?_⟩)
    · simp at hr
    · rw [hn.1, atoi_it hn.2] at h; cases h
end Tx

namespace Tx
/-! Words; lines. -/
theorem jn_hd {c : UInt8} : ∀ {a : List UInt8} {r : List (List UInt8)}, jn c (a :: r) = a ++ r.flatMap (c :: ·)
  | a, [] => by simp [jn]
  | a, y :: r => by rw [jn_cons (by simp), jn_hd]; simp
theorem spl_hd {c : UInt8} : ∀ {a : List UInt8} {r : List (List UInt8)}, c ∉ a → (∀ x ∈ r, c ∉ x) → spl c (a ++ r.flatMap (c :: ·)) = a :: r
  | a, [], h, _ => by simpa using spl_no h
  | a, y :: r, h, hr => by
    have e : a ++ (y :: r).flatMap (c :: ·) = a ++ c :: (y ++ r.flatMap (c :: ·)) := by simp
    rw [e, spl_app _ h, spl_hd (hr y (by simp)) fun x hx => hr x (by simp [hx])]
theorem jn_le {c : UInt8} : ∀ {ls : List (List UInt8)} {p : List UInt8}, p ∈ ls → p.length ≤ (jn c ls).length
  | [], p, h => by simp at h
  | a :: r, p, h => by
    rcases List.mem_cons.1 h with rfl | h
    · rw [jn_hd]; simp
    · cases r with
      | nil => simp at h
      | cons y r =>
        have := jn_le (c := c) h
        rw [jn_cons (by simp)]
        simp only [List.length_append, List.length_cons]; omega
theorem spl_le {c : UInt8} {s p : List UInt8} (h : p ∈ spl c s) : p.length ≤ s.length := by
  have := jn_le (c := c) h
  rw [spl_jn] at this; exact this
def twl : List (List UInt8) := [[], [114, 101, 103], [113, 117, 101, 117, 101], [115, 116, 97, 99, 107], [115, 101, 116], [116, 105, 99, 107, 101, 116]]
def kwl : List (List UInt8) := [[101, 110, 100], [119, 114, 105, 116, 101], [114, 101, 97, 100], [101, 110, 113], [100, 101, 113], [112, 117, 115, 104], [112, 111, 112], [97, 100, 100], [114, 101, 109, 111, 118, 101], [104, 97, 115], [116, 97, 107, 101]]
theorem twl_no {c : UInt8} (h : c = 32 ∨ c = 10) {x : List UInt8} (hx : x ∈ twl) : c ∉ x := by
  have h1 : ∀ x ∈ twl, (32 : UInt8) ∉ x ∧ (10 : UInt8) ∉ x := by decide
  rcases h with rfl | rfl
  · exact (h1 x hx).1
  · exact (h1 x hx).2
theorem kwl_no {c : UInt8} (h : c = 32 ∨ c = 10) {x : List UInt8} (hx : x ∈ kwl) : c ∉ x := by
  have h1 : ∀ x ∈ kwl, (32 : UInt8) ∉ x ∧ (10 : UInt8) ∉ x := by decide
  rcases h with rfl | rfl
  · exact (h1 x hx).1
  · exact (h1 x hx).2
theorem getD_mem {α : Type} {l : List α} {i : Nat} {d : α} (h : i < l.length) : l.getD i d ∈ l := by
  rw [List.getD_eq_getElem?_getD, List.getElem?_eq_getElem h]
  exact List.getElem_mem h
theorem nodup_at {α : Type} {l : List α} (h : l.Nodup) {i j : Nat} {x : α} (hi : l[i]? = some x) (hj : l[j]? = some x) : i = j := by
  obtain ⟨h1, h2⟩ := List.getElem?_eq_some_iff.1 hi
  obtain ⟨h3, h4⟩ := List.getElem?_eq_some_iff.1 hj
  exact (List.getElem_inj h).1 (h2.trans h4.symm)
/-- slices.Index of words. -/
theorem index_wp {N : Nat} {xs : List (List UInt8)} {v : List UInt8} (hN : 300 < N) (hl : xs.length ≤ 20) : Wp (slices_Index_string_string N (xs.map mkB) (mkB v)) fun r => (r = -1 ∧ v ∉ xs) ∨ ∃ k : Nat, r = k ∧ xs[k]? = some v := by
  unfold slices_Index_string_string
  refine .elim (P := fun t => match t with | .inl _ => v ∉ xs | .inr r => ∃ k : Nat, r = k ∧ xs[k]? = some v) (.iter xs.length (fun k i => i = (k : Int) ∧ ∀ j, j < k → xs[j]? ≠ some v) (by omega) ⟨rfl, fun j h => absurd h (Nat.not_lt_zero _)⟩ ?_ ?_) (fun _ _ h => .one (.inl ⟨rfl, h⟩)) (fun r _ h => .one (.inr h))
  · rintro k i hk ⟨rfl, h⟩
    simp only [slices_Index_string_string_L3, List.length_map]
    refine .condT (decide_eq_true (by omega)) (.ix (by simpa using hk) (.cond (fun he => .one ⟨k, rfl, ?_⟩) (fun he => .ck64 (by omega) (.one ⟨by simp, fun j hj => ?_⟩))))
    · have he : mkB v = (xs.map mkB)[k]'(by simpa using hk) := of_decide_eq_true he
      rw [List.getElem_map] at he
      rw [List.getElem?_eq_getElem hk, ← bs_mk xs[k], ← he, bs_mk]
    · rcases Nat.lt_or_ge j k with h1 | h1
      · exact h j h1
      · obtain rfl : j = k := by omega
        have he : ¬ mkB v = (xs.map mkB)[j]'(by simpa using hk) := of_decide_eq_false he
        rw [List.getElem_map] at he
        rw [List.getElem?_eq_getElem hk]
        intro e
        exact he (by rw [Option.some.inj e])
  · rintro i ⟨rfl, h⟩
    simp only [slices_Index_string_string_L3, List.length_map]
    refine .condF (decide_eq_false (by omega)) (.one fun hm => ?_)
    obtain ⟨j, hj, he⟩ := List.mem_iff_getElem.1 hm
    exact h j hj (by rw [List.getElem?_eq_getElem hj, he])
def bareK (k : Int) : Bool := (((decide (k = 2)) || (decide (k = 4))) || (decide (k = 6))) || (decide (k = 10))
structure EvOk (e : Event) : Prop where
  who : -1000000 ≤ e.who ∧ e.who ≤ 1000000
  thing : -1000000 ≤ e.thing ∧ e.thing ≤ 1000000
  kind : 0 ≤ e.kind ∧ e.kind ≤ 10
  value : if bareK e.kind = true then e.value = 0 else -1000000 ≤ e.value ∧ e.value ≤ 1000000
def evW (e : Event) : List (List UInt8) := it e.thing :: kwl.getD e.kind.toNat [] :: (if bareK e.kind = true then [] else [it e.value])
def evL (e : Event) : List UInt8 := it e.who ++ (evW e).flatMap (32 :: ·)
theorem evW_no {e : Event} (h : EvOk e) {c : UInt8} (hc : c = 32 ∨ c = 10) : ∀ x ∈ evW e, c ∉ x := by
  intro x hx
  have hk := h.kind
  have hw : c ∉ kwl.getD e.kind.toNat [] := kwl_no hc (getD_mem (by simp [kwl]; omega))
  unfold evW at hx
  split at hx
  · simp only [List.mem_cons, List.not_mem_nil, or_false] at hx
    rcases hx with rfl | rfl
    · exact it_no hc
    · exact hw
  · simp only [List.mem_cons, List.not_mem_nil, or_false] at hx
    rcases hx with rfl | rfl | rfl
    · exact it_no hc
    · exact hw
    · exact it_no hc
theorem evL_spl {e : Event} (h : EvOk e) : spl 32 (evL e) = it e.who :: evW e := spl_hd (it_no (.inl rfl)) (evW_no h (.inl rfl))
theorem mkB_size (l : List UInt8) : (mkB l).size = l.length := by rw [bs_len, bs_mk]
theorem event_wp {N : Nat} {line : ByteArray} (hN : 300 < N) (hs : line.size ≤ 8192) : Wp (text_event N line) fun r => (r.2.2.2.2 = true → EvOk ⟨r.1, r.2.1, r.2.2.1, r.2.2.2.1⟩ ∧ bs line = evL ⟨r.1, r.2.1, r.2.2.1, r.2.2.2.1⟩) ∧ ∀ e, EvOk e → bs line = evL e → r = (e.who, e.thing, e.kind, e.value, true) := by
  unfold text_event
  refine .bdO (split_eq 32 (by omega)) ?_
  have key : ∀ e, EvOk e → bs line = evL e → spl 32 (bs line) = it e.who :: evW e := fun e he h => by rw [h]; exact evL_spl he
  have back : ∀ a r, spl 32 (bs line) = a :: r → bs line = a ++ r.flatMap (32 :: ·) := fun a r h => by rw [← jn_hd, ← h, spl_jn]
  have hsz : ∀ p ∈ spl 32 (bs line), (mkB p).size ≤ 8192 := fun p hp => by
    have := spl_le hp
    rw [mkB_size]
    rw [bs_len] at hs; omega
  generalize spl 32 (bs line) = W at key back hsz ⊢
  simp only [List.length_map]
  refine .cond (fun h => .one ⟨fun h => by simp at h, fun e he hl => ?_⟩) (fun h => ?_)
  · exfalso
    have h2 := congrArg List.length (key e he hl)
    have h3 : (W.length : Int) < 3 := of_decide_eq_true h
    unfold evW at h2
    split at h2 <;> simp at h2 <;> omega
  have h3 : ¬ (W.length : Int) < 3 := of_decide_eq_false h
  obtain ⟨a, b, c, rest, rfl⟩ : ∃ a b c rest, W = a :: b :: c :: rest := by
    match W, h3 with
    | [], h => simp at h
    | [_], h => simp at h
    | [_, _], h => simp at h
    | a :: b :: c :: rest, _ => exact ⟨a, b, c, rest, rfl⟩
  refine .bdO (a := mkB a) rfl (.seq (number_wp (hsz a (by simp))) fun r7 _ h7 => .bdO (a := mkB b) rfl (.seq (number_wp (hsz b (by simp))) fun r9 _ h9 => .seq (P := fun r : Int => (r = -1 ∧ c ∉ kwl) ∨ ∃ k : Nat, r = k ∧ kwl[k]? = some c) (.bdO (a := mkB c) rfl (.bdO rfl (.seq (index_wp (xs := kwl) (v := c) hN (by decide)) fun r _ h => .one h))) fun K _ hK => ?_))
  simp only [bs_mk] at h7 h9
  -- what an event with this text tells
  have tell : ∀ e, EvOk e → bs line = evL e → r7 = (e.who, true) ∧ r9 = (e.thing, true) ∧ K = e.kind ∧ rest = (if bareK e.kind = true then [] else [it e.value]) := fun e he hl => by
    have hk := he.kind
    have h1 := key e he hl
    simp only [evW, List.cons.injEq] at h1
    obtain ⟨h1, h2, h4, h5⟩ := h1
    refine ⟨h7.2 e.who ⟨h1, he.who⟩, h9.2 e.thing ⟨h2, he.thing⟩, ?_, h5⟩
    have hm : kwl[e.kind.toNat]? = some c := by
      have hlt : e.kind.toNat < kwl.length := by simp [kwl]; omega
      rw [h4, List.getD_eq_getElem?_getD, List.getElem?_eq_getElem hlt]; rfl
    rcases hK with ⟨_, hK⟩ | ⟨k, rfl, hK⟩
    · exact absurd (List.mem_of_getElem? hm) hK
    · have := nodup_at (by decide : kwl.Nodup) hm hK
      omega
  refine .cond (fun hbad => .one ⟨fun h => by simp at h, fun e he hl => ?_⟩) (fun hok => .bdO rfl ?_)
  · obtain ⟨t1, t2, t3, _⟩ := tell e he hl
    have hk := he.kind
    exfalso
    rw [t1, t2, t3] at hbad
    simp at hbad
    omega
  simp only [Bool.or_eq_false_iff, Bool.not_eq_false', decide_eq_false_iff_not] at hok
  obtain ⟨⟨o7, o9⟩, oK⟩ := hok
  obtain ⟨k, rfl, hkw⟩ : ∃ k : Nat, K = k ∧ kwl[k]? = some c := by
    rcases hK with ⟨rfl, _⟩ | h
    · exact absurd (by decide) oK
    · exact h
  have hk11 : k < 11 := (List.getElem?_eq_some_iff.1 hkw).1
  have hkd : kwl.getD k [] = c := by rw [List.getD_eq_getElem?_getD, hkw]; rfl
  have n7 := h7.1 o7
  have n9 := h9.1 o9
  have hb := back _ _ rfl
  refine .cond (fun hbare => .one ⟨fun hlen => ?_, fun e he hl => ?_⟩) (fun hbare => .cond (fun hlen => .one ⟨fun h => by simp at h, fun e he hl => ?_⟩) (fun hlen => ?_))
  · have hr : rest = [] := by
      have : ((rest.length + 1 + 1 + 1 : Nat) : Int) = 3 := of_decide_eq_true hlen
      exact List.eq_nil_of_length_eq_zero (by omega)
    subst hr
    have hbk : bareK (k : Int) = true := hbare
    refine ⟨⟨n7.2, n9.2, by simp only; omega, by simp only [hbk, if_true]⟩, ?_⟩
    rw [hb]
    simp only [evL, evW, hbk, Int.toNat_natCast, hkd, n7.1.symm, n9.1.symm, if_true]
  · obtain ⟨t1, t2, t3, t4⟩ := tell e he hl
    have hbk : bareK e.kind = true := by rw [← t3]; exact hbare
    have hv := he.value
    rw [if_pos hbk] at t4 hv
    subst t4
    rw [t1, t2, t3, hv]
    rfl
  · obtain ⟨t1, t2, t3, t4⟩ := tell e he hl
    have hbk : ¬ bareK e.kind = true := by rw [← t3]; exact Bool.eq_false_iff.1 hbare
    rw [if_neg hbk] at t4
    subst t4
    exact absurd hlen (by simp)
  · have h4 : ((rest.length + 1 + 1 + 1 : Nat) : Int) = 4 := by simpa using hlen
    obtain ⟨d, rfl⟩ : ∃ d, rest = [d] := by
      match rest, h4 with
      | [d], _ => exact ⟨d, rfl⟩
      | [], h => simp at h
      | _ :: _ :: _, h => simp at h; omega
    refine .bdO (a := mkB d) rfl (.seq (number_wp (hsz d (by simp))) fun r22 _ h22 => .one ⟨fun hr => ?_, fun e he hl => ?_⟩)
    · simp only [bs_mk] at h22
      have n22 := h22.1 hr
      have hbk : bareK (k : Int) = false := hbare
      refine ⟨⟨n7.2, n9.2, by simp only; omega, by simp only [hbk]; exact n22.2⟩, ?_⟩
      rw [hb]
      simp only [evL, evW, hbk, Int.toNat_natCast, hkd, n7.1.symm, n9.1.symm, n22.1.symm]
      rfl
    · simp only [bs_mk] at h22
      obtain ⟨t1, t2, t3, t4⟩ := tell e he hl
      have hbk : ¬ bareK e.kind = true := by rw [← t3]; exact Bool.eq_false_iff.1 hbare
      have hv := he.value
      rw [if_neg hbk] at t4 hv
      simp only [List.cons.injEq, and_true] at t4
      rw [t1, t2, t3, h22.2 e.value ⟨t4, hv⟩]
def thingsL : List UInt8 := [116, 104, 105, 110, 103, 115]
structure TyOk (t : List Int) : Prop where
  len : 1 ≤ t.length ∧ t.length ≤ 4
  all : ∀ x ∈ t, 1 ≤ x ∧ x ≤ 5
def tyW (t : List Int) : List (List UInt8) := t.map fun x => twl.getD x.toNat []
def hdL (t : List Int) : List UInt8 := thingsL ++ (tyW t).flatMap (32 :: ·)
theorem tyW_no {t : List Int} (h : TyOk t) {c : UInt8} (hc : c = 32 ∨ c = 10) : ∀ x ∈ tyW t, c ∉ x := by
  intro x hx
  obtain ⟨y, hy, rfl⟩ := List.mem_map.1 hx
  have := h.all y hy
  exact twl_no hc (getD_mem (by simp [twl]; omega))
theorem hdL_spl {t : List Int} (h : TyOk t) : spl 32 (hdL t) = thingsL :: tyW t := spl_hd (by decide) (tyW_no h (.inl rfl))
theorem tyW_at {t : List Int} (h : TyOk t) {k : Nat} (hk : k < t.length) : (tyW t)[k]? = some (twl.getD (t.getD k 0).toNat []) := by
  unfold tyW
  rw [List.getElem?_map, List.getElem?_eq_getElem hk, getD_of hk]; rfl
theorem things_wp {N : Nat} {line : ByteArray} (hN : 300 < N) (hs : line.size ≤ 8192) : Wp (text_things N line) fun r => (r.2 = true → TyOk r.1 ∧ bs line = hdL r.1) ∧ ∀ t, TyOk t → bs line = hdL t → r = (t, true) := by
  unfold text_things
  refine .bdO (split_eq 32 (by omega)) ?_
  have key : ∀ t, TyOk t → bs line = hdL t → spl 32 (bs line) = thingsL :: tyW t := fun t ht h => by rw [h]; exact hdL_spl ht
  have back : ∀ a r, spl 32 (bs line) = a :: r → bs line = a ++ r.flatMap (32 :: ·) := fun a r h => by rw [← jn_hd, ← h, spl_jn]
  have hne := spl_ne 32 (bs line)
  generalize spl 32 (bs line) = W at key back hne ⊢
  obtain ⟨a, rest, rfl⟩ : ∃ a r, W = a :: r := by
    cases W with
    | nil => exact absurd rfl hne
    | cons a r => exact ⟨a, r, rfl⟩
  have hb := back _ _ rfl
  have tell : ∀ t, TyOk t → bs line = hdL t → a = thingsL ∧ rest = tyW t := fun t ht hl => by
    have := key t ht hl
    simpa using this
  refine .bdO (a := mkB a) rfl (.cond (fun h => .one ⟨fun h => by simp at h, fun t ht hl => ?_⟩) (fun h => ?_))
  · exfalso
    obtain ⟨t1, t2⟩ := tell t ht hl
    have hl := ht.len
    have hlen : rest.length = t.length := by rw [t2]; simp [tyW]
    rw [t1] at h
    simp only [Bool.or_eq_true, Bool.not_eq_true', decide_eq_false_iff_not, decide_eq_true_eq, List.length_map, List.length_cons] at h
    rcases h with (h | h) | h
    · exact h rfl
    · omega
    · omega
  simp only [Bool.or_eq_false_iff, Bool.not_eq_false', decide_eq_true_eq, decide_eq_false_iff_not, List.length_map, List.length_cons] at h
  obtain ⟨⟨ha, hl2⟩, hl5⟩ := h
  have ha : a = thingsL := by rw [← bs_mk a, ha]; rfl
  have hdr : ((a :: rest).map mkB).drop (1 : Int).toNat = rest.map mkB := rfl
  refine .elim (P := fun x => match x with | .inl out => TyOk out ∧ rest = tyW out | .inr r => r = ([], false) ∧ ∃ x ∈ rest, ∀ k : Nat, 1 ≤ k → twl[k]? ≠ some x) (.ck ?_ ?_) (fun out _ h => .one ⟨fun _ => ⟨h.1, ?_⟩, fun t ht hl => ?_⟩) (fun r _ h => .one ⟨fun h2 => ?_, fun t ht hl => ?_⟩)
  · simp [slB]; omega
  · refine .iter rest.length (fun k s => s.2 = (k : Int) ∧ s.1.length = k ∧ (∀ x ∈ s.1, 1 ≤ x ∧ x ≤ 5) ∧ tyW s.1 = rest.take k) (by omega) ⟨rfl, rfl, by simp, rfl⟩ ?_ ?_
    · rintro k ⟨out, v⟩ hk ⟨hv, hol, hall, htw⟩
      simp only at hv hol hall htw
      subst hv
      simp only [text_things_L3, hdr, List.length_map]
      refine .condT (decide_eq_true (by omega)) (.ix (by simpa using hk) (.bdO rfl ?_))
      rw [List.getElem_map]
      refine .seq (index_wp (xs := twl) (v := rest[k]) hN (by decide)) fun i _ hi => .cond (fun hlt => .one ⟨rfl, rest[k], List.getElem_mem hk, fun j hj he => ?_⟩) (fun hlt => .ck (limB_of ⟨?_, ?_⟩) (.ck64 (by omega) (.one ⟨by simp, by simp; omega, fun x hx => ?_, ?_⟩)))
      · have hlt : i < 1 := of_decide_eq_true hlt
        rcases hi with ⟨_, hi⟩ | ⟨q, rfl, hi⟩
        · exact hi (List.mem_of_getElem? he)
        · have := nodup_at (by decide : twl.Nodup) he hi
          omega
      · simp only [List.length_singleton]; exact Nat.le_trans (m := 2000) (by omega) (by decide)
      · simp only [List.length_singleton]; omega
      all_goals
        have hlt : ¬ i < 1 := of_decide_eq_false hlt
        obtain ⟨q, rfl, hj⟩ : ∃ q : Nat, i = q ∧ twl[q]? = some rest[k] := by
          rcases hi with ⟨rfl, _⟩ | h
          · exact absurd (by decide) hlt
          · exact h
        have hq6 : q < 6 := (List.getElem?_eq_some_iff.1 hj).1
      · rcases List.mem_append.1 hx with hx | hx
        · exact hall x hx
        · rw [List.mem_singleton.1 hx]; omega
      · rw [List.take_add_one, List.getElem?_eq_getElem hk, ← htw]
        simp only [tyW, List.map_append, List.map_cons, List.map_nil, Int.toNat_natCast, Option.toList_some]
        rw [List.getD_eq_getElem?_getD, hj]; rfl
    · rintro ⟨out, v⟩ ⟨hv, hol, hall, htw⟩
      simp only at hv hol hall htw
      subst hv
      simp only [text_things_L3, hdr, List.length_map]
      exact .condF (decide_eq_false (by omega)) (.one ⟨⟨by omega, hall⟩, by rw [htw, List.take_length]⟩)
  · rw [hb, ha, h.2]; rfl
  · obtain ⟨_, t2⟩ := tell t ht hl
    rw [h.2] at t2
    have hlen : out.length = t.length := by have := congrArg List.length t2; simpa [tyW] using this
    have : out = t := by
      refine List.ext_getElem hlen fun i h1 h3 => ?_
      have e1 := tyW_at h.1 h1
      rw [t2, tyW_at ht h3, getD_of h1, getD_of h3] at e1
      have e2 := Option.some.inj e1
      have b1 := h.1.all _ (List.getElem_mem h1)
      have b2 := ht.all _ (List.getElem_mem h3)
      have l1 : t[i].toNat < twl.length := by simp [twl]; omega
      have l2 : out[i].toNat < twl.length := by simp [twl]; omega
      have := nodup_at (by decide : twl.Nodup) (i := t[i].toNat) (j := out[i].toNat) (x := twl.getD t[i].toNat []) (by rw [List.getElem?_eq_getElem l1, getD_of l1]) (by rw [e2, List.getElem?_eq_getElem l2, getD_of l2])
      omega
    rw [this]
  · rw [h.1] at h2; simp at h2
  · exfalso
    obtain ⟨_, x, hx, hn⟩ := h
    obtain ⟨_, t2⟩ := tell t ht hl
    rw [t2] at hx
    obtain ⟨y, hy, rfl⟩ := List.mem_map.1 hx
    have := ht.all y hy
    have l1 : y.toNat < twl.length := by simp [twl]; omega
    exact hn y.toNat (by omega) (by rw [List.getElem?_eq_getElem l1, getD_of l1])
end Tx

end Go.Proofs.YtjdkkabcenohcaaGreatDoor
