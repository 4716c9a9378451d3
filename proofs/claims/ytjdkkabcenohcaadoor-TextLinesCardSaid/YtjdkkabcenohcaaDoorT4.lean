/- Bytes, rows cut at a byte, numbers. -/
import Derived.Test.YtjdkkabcenohcaaDoorT2
import Derived.Test.YtjdkkabcenohcaaDoorPl
import Derived.Lib.AtoiTie
import Derived.Lib.Join
set_option linter.unusedVariables false
set_option linter.unusedSimpArgs false
set_option linter.unusedSectionVars false
set_option maxRecDepth 100000
namespace Go.Proofs.YtjdkkabcenohcaaDoor
open Go.RowKit
namespace Tx
/-! Bytes; a row cut at one byte. -/
def bs (s : ByteArray) : List UInt8 := s.data.toList
def mkB (l : List UInt8) : ByteArray := ⟨l.toArray⟩
theorem mk_bs (s : ByteArray) : mkB (bs s) = s := Lib.mk_data s
theorem bs_mk (l : List UInt8) : bs (mkB l) = l := by simp [bs, mkB]
theorem bs_app (a b : ByteArray) : bs (a ++ b) = bs a ++ bs b := by simp [bs, ByteArray.data_append]
theorem bs_len (s : ByteArray) : s.size = (bs s).length := Lib.size_eq s
theorem bs_inj {a b : ByteArray} (h : bs a = bs b) : a = b := by rw [← mk_bs a, h, mk_bs]
def spl (c : UInt8) : List UInt8 → List (List UInt8)
  | [] => [[]]
  | b :: l => if b = c then [] :: spl c l else match spl c l with
    | [] => [[b]]
    | p :: r => (b :: p) :: r
def jn (c : UInt8) : List (List UInt8) → List UInt8
  | [] => []
  | [x] => x
  | x :: y :: r => x ++ c :: jn c (y :: r)
theorem spl_ne (c : UInt8) : ∀ s, spl c s ≠ []
  | [] => by simp [spl]
  | b :: l => by
    unfold spl
    split
    · simp
    · split <;> simp
theorem spl_cons_eq (c : UInt8) (l : List UInt8) : spl c (c :: l) = [] :: spl c l := by simp [spl]
theorem spl_cons_ne {b c : UInt8} {l p : List UInt8} {r : List (List UInt8)} (h : b ≠ c) (hs : spl c l = p :: r) : spl c (b :: l) = (b :: p) :: r := by
  unfold spl
  rw [if_neg h, hs]
theorem index1 (b c : UInt8) (l : List UInt8) : Lib.index (b :: l) [c] = if b = c then 0 else if Lib.index l [c] = -1 then -1 else Lib.index l [c] + 1 := by
  rw [Lib.index]
  have e : [c].isPrefixOf (b :: l) = decide (b = c) := by
    by_cases h : b = c
    · subst h; simp [List.isPrefixOf]
    · simp [List.isPrefixOf, h, Ne.symm h]
  rw [e]
  by_cases h : b = c
  · simp [h]
  · simp only [h, decide_false, if_false, Bool.false_eq_true, beq_iff_eq]
theorem splitK_spl (c : UInt8) : ∀ s, Lib.splitK [c] 0 (Lib.count s [c]) s = spl c s
  | [] => by rw [Lib.count_one]; rfl
  | b :: l => by
    have ih := splitK_spl c l
    by_cases h : b = c
    · subst h
      rw [Lib.count_cons_eq, Nat.add_comm, spl_cons_eq, ← ih, Lib.splitK, index1, if_pos rfl]
      rfl
    · rw [Lib.count_cons_ne b c l h]
      generalize Lib.count l [c] = n at ih ⊢
      obtain ⟨p, r, hs⟩ : ∃ p r, spl c l = p :: r := by
        cases hs : spl c l with
        | nil => exact absurd hs (spl_ne c l)
        | cons p r => exact ⟨p, r, rfl⟩
      rw [spl_cons_ne h hs]
      rw [hs] at ih
      cases n with
      | zero =>
        simp only [Lib.splitK] at ih ⊢
        cases ih; rfl
      | succ n =>
        simp only [Lib.splitK] at ih ⊢
        rw [index1, if_neg h]
        by_cases hi : Lib.index l [c] = -1
        · rw [if_pos (by simpa using hi)] at ih
          rw [if_pos hi, if_pos (by rfl)]
          cases ih; rfl
        · rw [if_neg (by simpa using hi)] at ih
          have hge := Lib.index_ge l [c]
          rw [if_neg hi, if_neg (by simp; omega)]
          have e : (Lib.index l [c] + 1).toNat = (Lib.index l [c]).toNat + 1 := by omega
          rw [e]
          have e2 : (b :: l).take ((Lib.index l [c]).toNat + 1 + 0) = b :: l.take ((Lib.index l [c]).toNat + 0) := rfl
          have e3 : (b :: l).drop ((Lib.index l [c]).toNat + 1 + [c].length) = l.drop ((Lib.index l [c]).toNat + [c].length) := rfl
          rw [e2, e3]
          cases ih; rfl
theorem split_eq {N : Nat} {s : ByteArray} (c : UInt8) (h : s.size < 4294967281) : splitO N s ⟨#[c]⟩ = some ((spl c (bs s)).map mkB) := by
  unfold splitO
  rw [if_pos ⟨h, Nat.le_refl 1⟩]
  congr 1
  have h1 := Lib.splitB_data ⟨#[c]⟩ 0 (Lib.countB s ⟨#[c]⟩) s
  have h2 : Lib.splitK [c] 0 (Lib.countB s ⟨#[c]⟩) (bs s) = spl c (bs s) := splitK_spl c (bs s)
  rw [show (⟨#[c]⟩ : ByteArray).data.toList = [c] from rfl, show s.data.toList = bs s from rfl, h2] at h1
  rw [← h1, List.map_map]
  have : (mkB ∘ fun x : ByteArray => x.data.toList) = id := funext fun x => mk_bs x
  rw [this, List.map_id]
theorem spl_no {c : UInt8} : ∀ {s : List UInt8}, c ∉ s → spl c s = [s]
  | [], _ => rfl
  | b :: l, h => by
    have h1 : b ≠ c := fun e => h (by simp [e])
    exact spl_cons_ne h1 (spl_no fun e => h (by simp [e]))
theorem spl_app {c : UInt8} : ∀ {a : List UInt8} (b : List UInt8), c ∉ a → spl c (a ++ c :: b) = a :: spl c b
  | [], b, _ => spl_cons_eq c b
  | x :: a, b, h => by
    have h1 : x ≠ c := fun e => h (by simp [e])
    exact spl_cons_ne h1 (spl_app b fun e => h (by simp [e]))
theorem spl_lines {c : UInt8} : ∀ {ls : List (List UInt8)} (t : List UInt8), (∀ x ∈ ls, c ∉ x) → spl c (ls.flatMap (· ++ [c]) ++ t) = ls ++ spl c t
  | [], _, _ => rfl
  | x :: ls, t, h => by
    have e : (x :: ls).flatMap (· ++ [c]) ++ t = x ++ c :: (ls.flatMap (· ++ [c]) ++ t) := by simp
    rw [e, spl_app _ (h x (by simp)), spl_lines t fun y hy => h y (by simp [hy])]
    rfl
theorem jn_cons {c : UInt8} {x : List UInt8} {r : List (List UInt8)} (h : r ≠ []) : jn c (x :: r) = x ++ c :: jn c r := by
  cases r with
  | nil => exact absurd rfl h
  | cons y r => rfl
theorem spl_jn (c : UInt8) : ∀ s, jn c (spl c s) = s
  | [] => rfl
  | b :: l => by
    have ih := spl_jn c l
    by_cases h : b = c
    · subst h
      rw [spl_cons_eq, jn_cons (spl_ne b l), ih]; rfl
    · obtain ⟨p, r, hs⟩ : ∃ p r, spl c l = p :: r := by
        cases hs : spl c l with
        | nil => exact absurd hs (spl_ne c l)
        | cons p r => exact ⟨p, r, rfl⟩
      rw [spl_cons_ne h hs]
      rw [hs] at ih
      cases r with
      | nil => simp only [jn] at ih ⊢; rw [ih]
      | cons y r => simp only [jn] at ih ⊢; rw [List.cons_append, ih]
theorem spl_mem {c : UInt8} : ∀ {s p : List UInt8}, p ∈ spl c s → c ∉ p
  | [], p, h => by
    simp only [spl, List.mem_singleton] at h
    subst h; simp
  | b :: l, p, h => by
    by_cases hb : b = c
    · subst hb
      rw [spl_cons_eq] at h
      rcases List.mem_cons.1 h with rfl | h
      · simp
      · exact spl_mem h
    · obtain ⟨q, r, hs⟩ : ∃ q r, spl c l = q :: r := by
        cases hs : spl c l with
        | nil => exact absurd hs (spl_ne c l)
        | cons q r => exact ⟨q, r, rfl⟩
      rw [spl_cons_ne hb hs] at h
      rcases List.mem_cons.1 h with rfl | h
      · have := spl_mem (c := c) (s := l) (p := q) (by rw [hs]; simp)
        intro hc
        rcases List.mem_cons.1 hc with e | e
        · exact hb e.symm
        · exact this e
      · exact spl_mem (s := l) (by rw [hs]; simp [h])
theorem spl_len (c : UInt8) : ∀ s, (spl c s).length = s.count c + 1
  | [] => rfl
  | b :: l => by
    have ih := spl_len c l
    by_cases h : b = c
    · subst h
      rw [spl_cons_eq, List.length_cons, ih, List.count_cons_self]
    · obtain ⟨p, r, hs⟩ : ∃ p r, spl c l = p :: r := by
        cases hs : spl c l with
        | nil => exact absurd hs (spl_ne c l)
        | cons p r => exact ⟨p, r, rfl⟩
      rw [spl_cons_ne h hs, List.count_cons_of_ne h]
      rw [hs] at ih
      simpa using ih
/-- A row of lines, one of which is empty at the end. -/
theorem jn_lines {c : UInt8} : ∀ {ls : List (List UInt8)}, jn c (ls ++ [[]]) = ls.flatMap (· ++ [c])
  | [] => rfl
  | x :: ls => by
    rw [List.cons_append, jn_cons (by simp), jn_lines]; simp
theorem join_jn (c : UInt8) : ∀ xs, Lib.join xs [c] = jn c xs
  | [] => rfl
  | [x] => Lib.join_one x [c]
  | x :: y :: r => by
    have ih := join_jn c (y :: r)
    rw [Lib.join_cons] at ih ⊢
    simp only [jn]
    rw [← ih, Lib.joinTail, Lib.joinTail]
    simp
/-! Numbers. -/
theorem decFrom_app : ∀ (a b : List UInt8) (n : Nat), Lib.decFrom n (a ++ b) = (Lib.decFrom n a).bind fun m => Lib.decFrom m b
  | [], b, n => rfl
  | x :: a, b, n => by
    simp only [List.cons_append, Lib.decFrom]
    cases Lib.digitVal x with
    | none => rfl
    | some d => exact decFrom_app a b _
theorem digit_val {k : Nat} (h : k < 10) : Lib.digitVal (UInt8.ofNat (48 + k)) = some k := by
  have : (UInt8.ofNat (48 + k)).toNat = 48 + k := by rw [UInt8.toNat_ofNat']; omega
  unfold Lib.digitVal
  rw [this, if_pos (by omega)]
  congr 1; omega
theorem dec_read : ∀ u, Lib.decFrom 0 (Lib.decDigits u) = some u := by
  intro u
  induction u using Nat.strongRecOn with
  | ind u ih =>
    unfold Lib.decDigits
    split
    · rename_i h
      rw [Lib.decFrom, digit_val h]
      simp [Lib.decFrom]
    · rename_i h
      rw [decFrom_app, ih (u / 10) (by omega), Option.bind_some, Lib.decFrom, digit_val (show u % 10 < 10 by omega)]
      simp only [Lib.decFrom]
      congr 1
      omega
theorem dec_digit : ∀ u, ∀ b ∈ Lib.decDigits u, 48 ≤ b.toNat ∧ b.toNat ≤ 57 := by
  intro u
  induction u using Nat.strongRecOn with
  | ind u ih =>
    intro b hb
    unfold Lib.decDigits at hb
    have dg : ∀ k, k < 10 → 48 ≤ (UInt8.ofNat (48 + k)).toNat ∧ (UInt8.ofNat (48 + k)).toNat ≤ 57 := fun k hk => by
      have : (UInt8.ofNat (48 + k)).toNat = 48 + k := by rw [UInt8.toNat_ofNat']; omega
      omega
    split at hb
    · rename_i h
      rw [List.mem_singleton.1 hb]; exact dg u h
    · rename_i h
      rcases List.mem_append.1 hb with hb | hb
      · exact ih (u / 10) (by omega) b hb
      · rw [List.mem_singleton.1 hb]; exact dg _ (by omega)
theorem dec_ne (u : Nat) : Lib.decDigits u ≠ [] := by
  unfold Lib.decDigits
  split <;> simp
theorem dec_len : ∀ k u, u < 10 ^ (k + 1) → (Lib.decDigits u).length ≤ k + 1
  | 0, u, h => by
    unfold Lib.decDigits
    rw [dif_pos (by simpa using h)]; simp
  | k + 1, u, h => by
    unfold Lib.decDigits
    split
    · simp
    · have := dec_len k (u / 10) (by rw [Nat.pow_succ] at h; omega)
      simp; omega
def it (n : Int) : List UInt8 := Lib.itoa n
theorem it_mem (n : Int) : ∀ b ∈ it n, b.toNat = 45 ∨ (48 ≤ b.toNat ∧ b.toNat ≤ 57) := by
  intro b hb
  unfold it Lib.itoa at hb
  split at hb
  · rcases List.mem_cons.1 hb with rfl | hb
    · exact .inl rfl
    · exact .inr (dec_digit _ b hb)
  · exact .inr (dec_digit _ b hb)
theorem it_no {n : Int} {c : UInt8} (h : c = 32 ∨ c = 10) : c ∉ it n := fun hc => by
  have := it_mem n c hc
  rcases h with rfl | rfl
  · rw [show (32 : UInt8).toNat = 32 from rfl] at this; omega
  · rw [show (10 : UInt8).toNat = 10 from rfl] at this; omega
theorem it_len {n : Int} (h : -1000000 ≤ n ∧ n ≤ 1000000) : (it n).length ≤ 8 := by
  unfold it Lib.itoa
  split
  · have := dec_len 6 n.natAbs (by simp; omega)
    simp; omega
  · have := dec_len 6 n.toNat (by simp; omega)
    omega
theorem dec_nat (u : Nat) : Lib.decNat (Lib.decDigits u) = some u := by
  unfold Lib.decNat
  have := dec_ne u
  rw [if_neg (by simpa using this)]
  exact dec_read u
theorem atoi_it {n : Int} (h : -1000000 ≤ n ∧ n ≤ 1000000) : Lib.atoiAll (it n) = .ok n := by
  rw [Lib.atoiAll_short _ (by have := it_len h; omega)]
  have : Lib.atoi (it n) = some n := by
    unfold it Lib.itoa
    split
    · rename_i hn
      simp only [Lib.atoi]
      rw [if_pos (by rfl), dec_nat]
      simp; omega
    · rename_i hn
      have hd := dec_nat n.toNat
      obtain ⟨b, r, hbr⟩ : ∃ b r, Lib.decDigits n.toNat = b :: r := by
        cases h : Lib.decDigits n.toNat with
        | nil => exact absurd h (dec_ne _)
        | cons b r => exact ⟨b, r, rfl⟩
      have hb := dec_digit n.toNat b (by rw [hbr]; simp)
      rw [hbr] at hd ⊢
      have h45 : b ≠ 45 := fun e => by subst e; rw [show (45 : UInt8).toNat = 45 from rfl] at hb; omega
      have h43 : b ≠ 43 := fun e => by subst e; rw [show (43 : UInt8).toNat = 43 from rfl] at hb; omega
      simp only [Lib.atoi]
      rw [if_neg (by simpa using h45), if_neg (by simpa using h43), hd]
      simp; omega
  rw [this]; rfl
/-- A number's text. -/
def Num (l : List UInt8) (n : Int) : Prop := l = it n ∧ -1000000 ≤ n ∧ n ≤ 1000000
theorem number_wp {N : Nat} {s : ByteArray} (hs : s.size ≤ 8192) : Wp (text_number N s) fun r => (r.2 = true → Num (bs s) r.1) ∧ ∀ n, Num (bs s) n → r = (n, true) := by
  unfold text_number
  have hA : atoiO N s = some (match Lib.atoiAll (bs s) with
    | .ok v => (v, false)
    | .range => (Lib.atoiSat (bs s), true)
    | _ => (0, true)) := by
    unfold atoiO
    rw [if_pos (by omega)]; rfl
  refine .bdO hA ?_
  cases h : Lib.atoiAll (bs s) with
  | ok v =>
    have hb := Lib.atoiAll_bounds h
    refine .bdO (a := mkB (it v)) (by show itoaO N v = _; unfold itoaO; rw [if_pos hb]; rfl) (.one ⟨fun hr => ?_, fun n hn => ?_⟩)
    · simp only [Bool.not_false, Bool.true_and, Bool.and_eq_true, decide_eq_true_eq] at hr
      exact ⟨by rw [← hr.1.1, bs_mk], hr.1.2, hr.2⟩
    · obtain ⟨h1, h2⟩ := hn
      rw [h1, atoi_it h2] at h
      cases h
      have : mkB (it v) = s := bs_inj (by rw [bs_mk, h1])
      simp [this, h2]
  | range =>
    refine .bdO rfl (.one ⟨fun hr => ?_, fun n hn => ?_⟩)
    · simp at hr
    · rw [hn.1, atoi_it hn.2] at h; cases h
  | _ =>
    refine .bdO rfl (.one ⟨fun hr => ?_, fun n hn => ?_⟩)
    · simp at hr
    · rw [hn.1, atoi_it hn.2] at h; cases h
end Tx

end Go.Proofs.YtjdkkabcenohcaaDoor
