/- Objects, plainly: what comes of a step. -/
import Derived.Test.YtpakplmpihhmbaaK1
set_option linter.unusedVariables false
set_option linter.unusedSimpArgs false
set_option linter.unusedSectionVars false
set_option maxRecDepth 100000
namespace Go.Proofs.Ytpakplmpihhmbaa
open Go.RowKit
theorem wrapI64 {z : Int} (h0 : 0 ≤ z) (h : z < 9223372036854775808) : IntKind.i64.wrap z = z := by
  have e : z % 2 ^ 64 = z := Int.emod_eq_of_lt h0 (by show z < 2 ^ 64; omega)
  unfold IntKind.wrap
  simp only [IntKind.bits, IntKind.signed, Bool.true_and, e]
  exact if_neg (by simp; omega)
namespace Ob
theorem half {a : Nat} (h : a < 9223372036854775808) : IntKind.i64.wrap (shrI .u64 (IntKind.u64.wrap (a : Int)) 1) = ((a / 2 : Nat) : Int) := by
  rw [wrapU64 (by omega) (by omega)]
  have : shrI .u64 (a : Int) 1 = ((a / 2 : Nat) : Int) := by
    unfold shrI
    show (a : Int).fdiv (2 ^ (min 1 64)) = _
    rw [Int.fdiv_eq_ediv_of_nonneg _ (by decide)]
    simp
  rw [this, wrapI64 (by omega) (by omega)]
theorem inc_lt {s : List Int} (h : Inc s) {k : Nat} : ∀ {m : Nat}, k < m → m < s.length → s.getD k 0 < s.getD m 0
  | 0, h1, _ => absurd h1 (Nat.not_lt_zero _)
  | m + 1, h1, h2 => by
    have h3 := (inc_iff s).1 h m h2
    rcases Nat.lt_or_ge k m with h4 | h4
    · have := inc_lt h h4 (by omega)
      omega
    · obtain rfl : k = m := by omega
      exact h3
theorem less_ok (N : Nat) (x y : Int) : cmp_Less_int N x y = some () := by
  unfold cmp_Less_int cmp_isNaN_int
  simp [bd]
/-- Where something stands, or would stand. -/
structure At (s : List Int) (arg : Int) (i : Nat) : Prop where
  le : i ≤ s.length
  lo : ∀ k, k < i → s.getD k 0 < arg
  hi : ∀ k, i ≤ k → k < s.length → arg ≤ s.getD k 0
theorem At.mem {s : List Int} {arg : Int} {i : Nat} (h : At s arg i) (hs : Inc s) : arg ∈ s ↔ i < s.length ∧ s.getD i 0 = arg := by
  constructor
  · intro hm
    obtain ⟨k, hk, rfl⟩ := List.getElem_of_mem hm
    have e := getD_of (d := (0 : Int)) hk
    have h1 : i ≤ k := by
      rcases Nat.lt_or_ge k i with h1 | h1
      · have := h.lo k h1; omega
      · exact h1
    rcases Nat.lt_or_ge i k with h2 | h2
    · have h3 := inc_lt hs h2 hk
      have := h.hi i (Nat.le_refl _) (by omega)
      omega
    · obtain rfl : i = k := by omega
      exact ⟨hk, e⟩
  · rintro ⟨h1, h2⟩
    rw [getD_of h1] at h2
    rw [← h2]
    exact List.getElem_mem h1
theorem bs_wp {N : Nat} (hN : 300 < N) {s : List Int} (hl : s.length ≤ 60) (hs : Inc s) (arg : Int) : Wp (slices_BinarySearch_int_int N s arg) fun r => ∃ i : Nat, r = ((i : Int), decide (arg ∈ s)) ∧ At s arg i := by
  unfold slices_BinarySearch_int_int
  refine .seq (P := fun (i : Int) => ∃ n : Nat, i = n ∧ At s arg n) (.loop (s := ((0 : Int), (s.length : Int))) (fun st => ∃ i j : Nat, st = ((i : Int), (j : Int)) ∧ i ≤ j ∧ j ≤ s.length ∧ (∀ k, k < i → s.getD k 0 < arg) ∧ ∀ k, j ≤ k → k < s.length → arg ≤ s.getD k 0) (fun st => (st.2 - st.1).toNat) (show ((s.length : Int) - 0).toNat < N by omega) ⟨0, s.length, rfl, Nat.zero_le _, Nat.le_refl _, fun k h => absurd h (Nat.not_lt_zero _), fun k h1 h2 => by omega⟩ ?_) fun v _ hv => ?_
  · rintro st ⟨i, j, rfl, hij, hj, h1, h2⟩
    simp only [slices_BinarySearch_int_int_L3]
    have e : (i : Int) + (j : Int) = ((i + j : Nat) : Int) := by omega
    rw [e, half (by omega)]
    refine .cond (fun h => ?_) fun h => .one ?_
    · have h := of_decide_eq_true h
      have hm : (i + j) / 2 < s.length := by omega
      refine .ck64 (by omega) (.ixD 0 (by omega) (by omega) (.bdO (less_ok ..) ?_))
      rw [Int.toNat_natCast]
      refine .cond (fun h3 => .ck64 (by omega) (.one ⟨⟨(i + j) / 2 + 1, j, by simp, by omega, hj, fun k hk => ?_, h2⟩, by simp only; omega⟩)) fun h3 => .one ⟨⟨i, (i + j) / 2, rfl, by omega, by omega, h1, fun k hk hk2 => ?_⟩, by simp only; omega⟩
      · have h3 : s.getD ((i + j) / 2) 0 < arg := by simpa using h3
        rcases Nat.lt_or_ge k ((i + j) / 2) with h4 | h4
        · have := inc_lt hs h4 hm
          omega
        · obtain rfl : k = (i + j) / 2 := by omega
          exact h3
      · have h3 : ¬ s.getD ((i + j) / 2) 0 < arg := by
          intro h4
          have h4 : decide (s.getD ((i + j) / 2) 0 < arg) = true := decide_eq_true h4
          rw [h4, Bool.or_true] at h3
          cases h3
        rcases Nat.lt_or_ge ((i + j) / 2) k with h4 | h4
        · have := inc_lt hs h4 hk2
          omega
        · obtain rfl : k = (i + j) / 2 := by omega
          omega
    · have h := of_decide_eq_false h
      obtain rfl : i = j := by omega
      exact ⟨i, rfl, hj, h1, h2⟩
  · obtain ⟨n, rfl, hn⟩ := hv
    refine .gix 0 (fun h => ⟨by omega, by simpa using h⟩) fun x hx => .gix 0 (fun h => ⟨by omega, by
      have := (Bool.and_eq_true .. ▸ h).1
      simpa using this⟩) fun y _ => ?_
    refine .seq (P := fun _ => True) (.cond (fun _ => .one trivial) fun _ => .one trivial) fun _ _ _ => .seq (P := fun _ => True) (.cond (fun _ => .one trivial) fun _ => .one trivial) fun _ _ _ => .one ⟨n, ?_, hn⟩
    rw [Prod.mk.injEq]
    refine ⟨rfl, ?_⟩
    have em : decide (arg ∈ s) = decide (n < s.length ∧ s.getD n 0 = arg) := decide_eq_decide.2 (hn.mem hs)
    rw [em]
    by_cases h : n < s.length
    · have hx := hx (by simpa using h)
      rw [Int.toNat_natCast] at hx
      rw [hx]
      have : decide ((n : Int) < (s.length : Int)) = true := decide_eq_true (by omega)
      rw [this]
      simp [h]
    · have : decide ((n : Int) < (s.length : Int)) = false := decide_eq_false (by omega)
      rw [this]
      simp [h]
theorem At.tw : ∀ {s : List Int} {arg : Int} {i : Nat}, At s arg i → s.takeWhile (· < arg) = s.take i ∧ s.dropWhile (· < arg) = s.drop i
  | [], arg, i, h => by simp
  | a :: s, arg, 0, h => by
    have h1 := h.hi 0 (Nat.le_refl _) (by simp)
    have h2 : ¬ a < arg := by simpa using h1
    simp [List.takeWhile_cons, List.dropWhile_cons, h2]
  | a :: s, arg, i + 1, h => by
    have h1 : a < arg := by simpa using h.lo 0 (by omega)
    have ih := At.tw (s := s) (arg := arg) (i := i) ⟨by have := h.le; simp at this; omega, fun k hk => by simpa using h.lo (k + 1) (by omega), fun k h1 h2 => by simpa using h.hi (k + 1) (by omega) (by simp; omega)⟩
    simp [List.takeWhile_cons, List.dropWhile_cons, h1, ih.1, ih.2]
/-- What a step of a type gives, as its code gives it. -/
def Sp (typ : Int) (s : List Int) (kind arg : Int) (r : List Int × Int × Int) : Prop := (∃ n res, stp typ s kind arg = some (n, res) ∧ n.length ≤ 60 ∧ r = (n, res, 0)) ∨ (stp typ s kind arg = none ∧ r = ([], 0, 2))
theorem put_ok {N : Nat} {s : List Int} (hl : s.length ≤ 50) (a : ObjectSingle) (arg : Int) : object_many_put N a s arg = some (if s.length = 50 then ([], 2) else (s ++ [arg], 0)) := by
  unfold object_many_put
  by_cases h : s.length = 50
  · rw [cond_of (decide_eq_true (by omega)), if_pos h]
  · rw [cond_no (decide_eq_false (by omega)), if_neg h, ck_of (limB_of ⟨by unfold maxLen; simp; omega, by simp; omega⟩)]
theorem tyK_inv {k t : Int} (h : tyK k = t) (ht : t ≠ 0) : (t = 1 ∧ (k = 1 ∨ k = 2)) ∨ (t = 2 ∧ (k = 3 ∨ k = 4)) ∨ (t = 3 ∧ (k = 5 ∨ k = 6)) ∨ (t = 4 ∧ (k = 7 ∨ k = 8 ∨ k = 9)) ∨ (t = 5 ∧ k = 10) := by
  unfold tyK at h
  split at h
  · exact .inl ⟨h.symm, by assumption⟩
  split at h
  · exact .inr (.inl ⟨h.symm, by assumption⟩)
  split at h
  · exact .inr (.inr (.inl ⟨h.symm, by assumption⟩))
  split at h
  · exact .inr (.inr (.inr (.inl ⟨h.symm, by assumption⟩)))
  split at h
  · exact .inr (.inr (.inr (.inr ⟨h.symm, by assumption⟩)))
  · exact (ht h.symm).elim
theorem queue_wp {N : Nat} {s : List Int} (hl : s.length ≤ 50) (a : ObjectSet) {kind : Int} (hk : kind = 3 ∨ kind = 4) (arg : Int) : Wp (object_queue_step N a s kind arg) (Sp 2 s kind arg) := by
  unfold object_queue_step Sp stp
  rcases hk with rfl | rfl
  · refine .condT rfl (.bdO (put_ok hl _ arg) (.one ?_))
    by_cases h : s.length = 50
    · right
      simp [h]
    · left
      refine ⟨s ++ [arg], 0, by simp [h], by simp; omega, by simp [h]⟩
  · refine .condF rfl (.cond (fun h => .one ?_) fun h => ?_)
    · have h : s.length = 0 := by have := of_decide_eq_true h; omega
      exact .inl ⟨s, -1, by simp [h], by omega, rfl⟩
    · have h : s.length ≠ 0 := by have := of_decide_eq_false h; omega
      refine .ck (by simp [slB]; omega) (.ixD 0 (by omega) (by omega) (.one (.inl ⟨s.drop 1, s.getD 0 0, by simp [h], by simp; omega, rfl⟩)))
theorem stack_wp {N : Nat} {s : List Int} (hl : s.length ≤ 50) (a : ObjectSet) {kind : Int} (hk : kind = 5 ∨ kind = 6) (arg : Int) : Wp (object_stack_step N a s kind arg) (Sp 3 s kind arg) := by
  unfold object_stack_step Sp stp
  rcases hk with rfl | rfl
  · refine .condT rfl (.bdO (put_ok hl _ arg) (.one ?_))
    by_cases h : s.length = 50
    · right
      simp [h]
    · left
      refine ⟨s ++ [arg], 0, by simp [h], by simp; omega, by simp [h]⟩
  · refine .condF rfl (.cond (fun h => .one ?_) fun h => ?_)
    · have h : s.length = 0 := by have := of_decide_eq_true h; omega
      exact .inl ⟨s, -1, by simp [h], by omega, rfl⟩
    · have h : s.length ≠ 0 := by have := of_decide_eq_false h; omega
      refine .ck64 (by omega) (.ck (by simp [slB]; omega) (.ck64 (by omega) (.ixD 0 (by omega) (by omega) (.one (.inl ⟨s.take (s.length - 1), s.getD (s.length - 1) 0, by simp [h], by simp; omega, ?_⟩)))))
      rw [show ((s.length : Int) - 1).toNat = s.length - 1 by omega]
theorem ticket_wp {N : Nat} {v : Int} (hv : 0 ≤ v ∧ v ≤ 1000) (a : ObjectRegister) (kind arg : Int) : Wp (object_ticket_step N a [v] kind arg) (Sp 5 [v] kind arg) := by
  unfold object_ticket_step Sp stp
  refine .bdO (a := v) rfl (.cond (fun h => .one (.inr ⟨?_, rfl⟩)) fun h => .ck64 (by omega) (.one (.inl ⟨[v + 1], v, ?_, by simp, rfl⟩)))
  · have h := of_decide_eq_true h
    simp [h]
  · have h := of_decide_eq_false h
    simp [h]
theorem reg_wp {N : Nat} {v : Int} (a : ObjectRegister) {kind : Int} (hk : kind = 1 ∨ kind = 2) (arg : Int) : Wp (object_register_step N a [v] kind arg) fun r => stp 1 [v] kind arg = some r ∧ r.1.length ≤ 60 := by
  unfold object_register_step stp
  rcases hk with rfl | rfl
  · exact .condT rfl (.one ⟨rfl, by simp⟩)
  · exact .condF rfl (.bdO (a := v) rfl (.one ⟨rfl, by simp⟩))
theorem set_step_wp {N : Nat} (hN : 300 < N) {s : List Int} (hl : s.length ≤ 50) (hs : Inc s) (a : ObjectSet) {kind : Int} (hk : kind = 7 ∨ kind = 8 ∨ kind = 9) (arg : Int) : Wp (object_set_step N a s kind arg) (Sp 4 s kind arg) := by
  unfold object_set_step Sp stp
  refine .seq (bs_wp hN (by omega) hs arg) fun r _ hr => ?_
  obtain ⟨i, rfl, hi⟩ := hr
  have hle := hi.le
  have hm := hi.mem hs
  obtain ⟨t1, t2⟩ := hi.tw
  simp only
  rcases hk with rfl | rfl | rfl
  · by_cases h : arg ∈ s
    · rw [decide_eq_true h]
      exact .condF rfl (.condF rfl (.condT rfl (.one (.inl ⟨s, 0, by simp [h], by omega, rfl⟩))))
    · rw [decide_eq_false h]
      by_cases h5 : s.length = 50
      · exact .condT (by simp; omega) (.one (.inr ⟨by simp [h, h5], rfl⟩))
      · refine .condF (by simp; omega) (.condT rfl ?_)
        have e : slices_Insert_int N s (i : Int) [arg] = some (s.take i ++ [arg] ++ s.drop i) := by
          unfold slices_Insert_int
          rw [if_pos ⟨by omega, by omega, by simp, by simp; omega⟩, Int.toNat_natCast]
        refine .bdO e (.one (.inl ⟨s.take i ++ [arg] ++ s.drop i, 1, ?_, by simp; omega, rfl⟩))
        rw [← t1, ← t2]
        simp [h, h5]
  · by_cases h : arg ∈ s
    · rw [decide_eq_true h]
      obtain ⟨hlt, _⟩ := hm.1 h
      have e : slices_Delete_int N s (i : Int) ((i : Int) + 1) = some (s.take i ++ s.drop (i + 1)) := by
        unfold slices_Delete_int
        rw [if_pos ⟨by omega, by omega, by omega, by omega⟩, Int.toNat_natCast, show ((i : Int) + 1).toNat = i + 1 by omega]
      refine .condF rfl (.condF rfl (.condF rfl (.condT rfl (.ck64 (by omega) (.bdO e (.one (.inl ⟨s.take i ++ s.drop (i + 1), 1, ?_, by simp; omega, rfl⟩)))))))
      rw [← t1, show s.drop (i + 1) = (s.dropWhile (· < arg)).drop 1 by rw [t2, List.drop_drop]]
      simp [h]
    · rw [decide_eq_false h]
      exact .condF rfl (.condF rfl (.condT rfl (.one (.inl ⟨s, 0, by simp [h], by omega, rfl⟩))))
  · by_cases h : arg ∈ s
    · rw [decide_eq_true h]
      exact .condF rfl (.condF rfl (.condF rfl (.condF rfl (.one (.inl ⟨s, 1, by simp [h], by omega, rfl⟩)))))
    · rw [decide_eq_false h]
      exact .condF rfl (.condF rfl (.condT rfl (.one (.inl ⟨s, 0, by simp [h], by omega, rfl⟩))))
/-- What Step answers. -/
def St (typ : Int) (s : List Int) (kind arg : Int) (r : List Int × Int × Int) : Prop :=
  (OkS typ s ∧ Asked typ kind arg ∧ ((∃ n res, stp typ s kind arg = some (n, res) ∧ r = (n, res, 0)) ∨ (stp typ s kind arg = none ∧ r = ([], 0, 2)))) ∨ (¬ (OkS typ s ∧ Asked typ kind arg) ∧ ∃ e, e ≠ 0 ∧ r = ([], 0, e))
theorem step_wp {N : Nat} (hN : 300 < N) (typ : Int) (s : List Int) (kind arg : Int) : Wp (object_Step N typ s kind arg) (St typ s kind arg) := by
  unfold object_Step St
  refine .seq (check_wp hN typ s) fun e _ he => ?_
  by_cases h0 : e ≠ 0
  · rcases he with ⟨h1, _⟩ | ⟨_, hO⟩
    · exact (h0 h1).elim
    · exact .condT (by simpa using h0) (.one (.inr ⟨fun h => hO h.1, e, h0, rfl⟩))
  obtain ⟨rfl, hO⟩ : e = 0 ∧ OkS typ s := by
    rcases he with h | ⟨h, _⟩
    · exact h
    · exact (h0 h).elim
  refine .condF rfl (.bdO (fits_ok ..) ?_)
  by_cases hf : typ ≠ 0 ∧ tyK kind = typ
  · rw [decide_eq_true hf]
    refine .bdO (by rw [cond_of (by rfl), argument_ok, argd]) ?_
    by_cases ha : ((kind = 2 ∨ kind = 4 ∨ kind = 6 ∨ kind = 10) → arg = 0) ∧ (¬ (kind = 2 ∨ kind = 4 ∨ kind = 6 ∨ kind = 10) → Num arg)
    · rw [decide_eq_true ha]
      have hA : Asked typ kind arg := ⟨hf.1, hf.2, ha⟩
      have hlen : s.length ≤ 50 := by
        rcases hO with ⟨_, v, rfl, _⟩ | ⟨_, h, _⟩ | ⟨_, h, _⟩
        · simp
        · exact h
        · exact h
      have hlim : limB 8 s.length = true := limB_of ⟨by unfold maxLen; omega, by omega⟩
      refine .condF rfl (.seq (P := Sp typ s kind arg) ?_ fun r _ hr => ?_)
      · rcases tyK_inv hf.2 hf.1 with ⟨rfl, hk⟩ | ⟨rfl, hk⟩ | ⟨rfl, hk⟩ | ⟨rfl, hk⟩ | ⟨rfl, hk⟩
        · obtain ⟨v, rfl, _⟩ : ∃ v, s = [v] ∧ 0 ≤ v ∧ v ≤ 1000 := by
            rcases hO with ⟨_, h⟩ | ⟨h, _⟩ | ⟨h, _⟩
            · exact h
            · omega
            · omega
          refine .bdO (a := 133) rfl (.condT rfl (.ck hlim (.seq (reg_wp _ hk arg) fun r _ hr => .one (.inl ⟨r.1, r.2, hr.1, hr.2, rfl⟩))))
        · refine .bdO (a := 136) rfl (.condF rfl (.condT rfl (.ck hlim (.seq (queue_wp hlen _ hk arg) fun r _ hr => .one hr))))
        · refine .bdO (a := 137) rfl (.condF rfl (.condF rfl (.condT rfl (.ck hlim (.seq (stack_wp hlen _ hk arg) fun r _ hr => .one hr)))))
        · have hs : Inc s := by
            rcases hO with ⟨h, _⟩ | ⟨h, _⟩ | ⟨_, _, _, h⟩
            · omega
            · omega
            · exact h
          refine .bdO (a := 138) rfl (.condF rfl (.condF rfl (.condF rfl (.condT rfl (.ck hlim (.seq (set_step_wp hN hlen hs _ hk arg) fun r _ hr => .one hr))))))
        · obtain ⟨v, rfl, hv⟩ : ∃ v, s = [v] ∧ 0 ≤ v ∧ v ≤ 1000 := by
            rcases hO with ⟨_, h⟩ | ⟨h, _⟩ | ⟨h, _⟩
            · exact h
            · omega
            · omega
          refine .bdO (a := 139) rfl (.condF rfl (.condF rfl (.condF rfl (.condF rfl (.condT rfl (.ck hlim (.seq (ticket_wp hv _ kind arg) fun r _ hr => .one hr)))))))
      · rcases hr with ⟨n, res, h1, h2, rfl⟩ | ⟨h1, rfl⟩
        · exact .ck (limB_of ⟨by unfold maxLen; omega, by omega⟩) (.one (.inl ⟨hO, hA, .inl ⟨n, res, h1, rfl⟩⟩))
        · exact .ck rfl (.one (.inl ⟨hO, hA, .inr ⟨h1, rfl⟩⟩))
    · rw [decide_eq_false ha]
      exact .condT rfl (.one (.inr ⟨fun h => ha h.2.2.2, 3, by decide, rfl⟩))
  · rw [decide_eq_false hf]
    exact .bdO (a := false) rfl (.condT rfl (.one (.inr ⟨fun h => hf ⟨h.2.1, h.2.2.1⟩, 3, by decide, rfl⟩)))
end Ob

end Go.Proofs.Ytpakplmpihhmbaa
