/- ObjectOne, plainly. -/
import Derived.Test.YtpakplmpihhmbaaK2
import Derived.Test.YtpakplmpihhmbaaA5
set_option linter.unusedVariables false
set_option linter.unusedSimpArgs false
set_option linter.unusedSectionVars false
set_option maxRecDepth 100000
namespace Go.Proofs.Ytpakplmpihhmbaa
open Go.RowKit
namespace Ob
theorem inc_pw : ∀ s : List Int, Inc s ↔ s.Pairwise (· < ·)
  | [] => ⟨fun _ => .nil, fun _ => trivial⟩
  | [a] => ⟨fun _ => by simp, fun _ => trivial⟩
  | a :: b :: r => by
    have ih := inc_pw (b :: r)
    constructor
    · rintro ⟨h1, h2⟩
      have h3 := ih.1 h2
      refine List.pairwise_cons.2 ⟨fun x hx => ?_, h3⟩
      rcases List.mem_cons.1 hx with rfl | hx
      · exact h1
      · have := (List.pairwise_cons.1 h3).1 x hx
        omega
    · intro h
      obtain ⟨h1, h2⟩ := List.pairwise_cons.1 h
      exact ⟨h1 b (.head _), ih.2 h2⟩
theorem at_ex {s : List Int} (hl : s.length ≤ 60) (hs : Inc s) (arg : Int) : ∃ i, At s arg i := by
  obtain ⟨r, _, i, _, h⟩ := bs_wp (N := 301) (by decide) hl hs arg
  exact ⟨i, h⟩
def ins (s : List Int) (a : Int) : List Int := s.takeWhile (· < a) ++ [a] ++ s.dropWhile (· < a)
def del (s : List Int) (a : Int) : List Int := s.takeWhile (· < a) ++ (s.dropWhile (· < a)).drop 1
theorem ins_mem {s : List Int} {a x : Int} : x ∈ ins s a ↔ x = a ∨ x ∈ s := by
  unfold ins
  rw [List.mem_append, List.mem_append, List.mem_singleton]
  conv => rhs; rw [← List.takeWhile_append_dropWhile (p := (· < a)) (l := s), List.mem_append]
  constructor
  · rintro ((h | h) | h)
    · exact .inr (.inl h)
    · exact .inl h
    · exact .inr (.inr h)
  · rintro (h | h | h)
    · exact .inl (.inr h)
    · exact .inl (.inl h)
    · exact .inr h
theorem mem_drop_ge {s : List Int} {a : Int} {i : Nat} (h : At s a i) {x : Int} (hx : x ∈ s.drop i) : a ≤ x := by
  obtain ⟨k, hk, rfl⟩ := List.getElem_of_mem hx
  rw [List.length_drop] at hk
  have := h.hi (i + k) (by omega) (by omega)
  rw [getD_of (by omega)] at this
  rw [List.getElem_drop]
  exact this
theorem mem_take_lt {s : List Int} {a : Int} {i : Nat} (h : At s a i) {x : Int} (hx : x ∈ s.take i) : x < a := by
  obtain ⟨k, hk, rfl⟩ := List.getElem_of_mem hx
  rw [List.length_take] at hk
  have := h.lo k (by omega)
  rw [getD_of (by omega)] at this
  rw [List.getElem_take]
  exact this
theorem ins_inc {s : List Int} (hl : s.length ≤ 60) (hs : Inc s) {a : Int} (ha : a ∉ s) : Inc (ins s a) := by
  obtain ⟨i, hi⟩ := at_ex hl hs a
  unfold ins
  rw [hi.tw.1, hi.tw.2]
  rw [inc_pw] at hs ⊢
  rw [List.append_assoc, List.pairwise_append]
  refine ⟨hs.sublist (List.take_sublist i s), ?_, fun x hx y hy => ?_⟩
  · rw [List.singleton_append, List.pairwise_cons]
    refine ⟨fun y hy => ?_, hs.sublist (List.drop_sublist i s)⟩
    have h1 := mem_drop_ge hi hy
    have h2 : y ≠ a := fun e => ha (e ▸ List.mem_of_mem_drop hy)
    omega
  · have h1 := mem_take_lt hi hx
    rcases List.mem_append.1 hy with hy | hy
    · rw [List.mem_singleton.1 hy]; exact h1
    · have := mem_drop_ge hi hy
      omega
theorem del_sub (s : List Int) (a : Int) : (del s a).Sublist s := by
  unfold del
  conv => rhs; rw [← List.takeWhile_append_dropWhile (p := (· < a)) (l := s)]
  exact List.Sublist.append_left (List.drop_sublist _ _) _
theorem del_inc {s : List Int} (hs : Inc s) (a : Int) : Inc (del s a) := by
  rw [inc_pw] at hs ⊢
  exact hs.sublist (del_sub s a)
theorem del_mem {s : List Int} (hl : s.length ≤ 60) (hs : Inc s) {a x : Int} (ha : a ∈ s) : x ∈ del s a ↔ x ≠ a ∧ x ∈ s := by
  obtain ⟨i, hi⟩ := at_ex hl hs a
  obtain ⟨hlt, he⟩ := (hi.mem hs).1 ha
  have e : s.drop i = a :: s.drop (i + 1) := by
    rw [List.drop_eq_getElem_cons hlt, ← getD_of (d := (0 : Int)) hlt, he]
  have hd : del s a = s.take i ++ s.drop (i + 1) := by
    unfold del
    rw [hi.tw.1, hi.tw.2, List.drop_drop]
  have hp := (inc_pw s).1 hs
  have hs2 : s = s.take i ++ a :: s.drop (i + 1) := by rw [← e, List.take_append_drop]
  rw [hd, List.mem_append]
  constructor
  · rintro (h | h)
    · have := mem_take_lt hi h
      exact ⟨by omega, List.mem_of_mem_take h⟩
    · rw [hs2, List.pairwise_append, List.pairwise_cons] at hp
      have := hp.2.1.1 x h
      exact ⟨by omega, List.mem_of_mem_drop h⟩
  · rintro ⟨h1, h2⟩
    rw [hs2, List.mem_append, List.mem_cons] at h2
    rcases h2 with h2 | h2 | h2
    · exact .inl h2
    · exact (h1 h2).elim
    · exact .inr h2
/-- Two rows in order are one, if they hold the same. -/
theorem inc_ext : ∀ {s t : List Int}, Inc s → Inc t → (∀ x, x ∈ s ↔ x ∈ t) → s = t := by
  intro s t hs ht h
  rw [inc_pw] at hs ht
  refine List.Perm.eq_of_pairwise (le := (· < ·)) (fun a b _ _ h1 h2 => by omega) hs ht ((List.perm_ext_iff_of_nodup ?_ ?_).2 h)
  · exact hs.imp fun h => by omega
  · exact ht.imp fun h => by omega
theorem OkS.len {typ : Int} {s : List Int} (h : OkS typ s) : s.length ≤ 50 := by
  rcases h with ⟨_, v, rfl, _⟩ | ⟨_, h, _⟩ | ⟨_, h, _⟩
  · simp
  · exact h
  · exact h
theorem ins_len (s : List Int) (a : Int) : (ins s a).length = s.length + 1 := by
  have := congrArg List.length (List.takeWhile_append_dropWhile (p := (· < a)) (l := s))
  rw [List.length_append] at this
  unfold ins
  simp only [List.length_append, List.length_cons, List.length_nil]
  omega
theorem del_len {s : List Int} (hl : s.length ≤ 60) (hs : Inc s) {a : Int} (ha : a ∈ s) : (del s a).length + 1 = s.length := by
  obtain ⟨i, hi⟩ := at_ex hl hs a
  obtain ⟨hlt, he⟩ := (hi.mem hs).1 ha
  unfold del
  rw [hi.tw.1, hi.tw.2]
  simp only [List.length_append, List.length_take, List.length_drop]
  omega
/-- What comes of a step may be; it is one longer, or shorter, at most; who asks leaves it. -/
theorem stp_ok {typ : Int} {s : List Int} {kind arg : Int} (hO : OkS typ s) (hA : Asked typ kind arg) {n : List Int} {res : Int} (h : stp typ s kind arg = some (n, res)) :
    OkS typ n ∧ n.length ≤ s.length + 1 ∧ s.length ≤ n.length + 1 ∧ (kind = 2 ∨ kind = 9 → n = s) := by
  obtain ⟨h0, hk, ha1, ha2⟩ := hA
  unfold stp at h
  have hinv := tyK_inv hk h0
  clear hk
  rcases hinv with ⟨rfl, hk⟩ | ⟨rfl, hk⟩ | ⟨rfl, hk⟩ | ⟨rfl, hk⟩ | ⟨rfl, hk⟩
  · obtain ⟨v, rfl, hv⟩ : ∃ v, s = [v] ∧ 0 ≤ v ∧ v ≤ 1000 := by
      rcases hO with ⟨_, h⟩ | ⟨h, _⟩ | ⟨h, _⟩
      · exact h
      · omega
      · omega
    rw [if_pos rfl] at h
    rcases hk with rfl | rfl
    · rw [if_pos rfl] at h
      cases h
      have := ha2 (by decide)
      unfold Num at this
      exact ⟨.inl ⟨.inl rfl, arg, rfl, by omega, by omega⟩, by simp, by simp, fun h => by omega⟩
    · rw [if_neg (by decide)] at h
      cases h
      exact ⟨.inl ⟨.inl rfl, v, rfl, hv⟩, by simp, by simp, fun _ => rfl⟩
  · obtain ⟨hl, hn⟩ : s.length ≤ 50 ∧ ∀ n ∈ s, Num n := by
      rcases hO with ⟨h, _⟩ | ⟨_, h⟩ | ⟨h, _⟩
      · omega
      · exact h
      · omega
    rw [if_neg (by decide), if_neg (by decide), if_pos rfl] at h
    rcases hk with rfl | rfl
    · rw [if_pos rfl] at h
      split at h
      · cases h
      · cases h
        refine ⟨.inr (.inl ⟨.inl rfl, by simp; omega, fun x hx => ?_⟩), by simp, by simp; omega, fun h => by omega⟩
        rcases List.mem_append.1 hx with hx | hx
        · exact hn x hx
        · rw [List.mem_singleton.1 hx]; exact ha2 (by decide)
    · rw [if_neg (by decide)] at h
      split at h
      · cases h
        exact ⟨hO, by omega, by omega, fun h => by omega⟩
      · cases h
        exact ⟨.inr (.inl ⟨.inl rfl, by simp; omega, fun x hx => hn x (List.mem_of_mem_drop hx)⟩), by simp; omega, by simp; omega, fun h => by omega⟩
  · obtain ⟨hl, hn⟩ : s.length ≤ 50 ∧ ∀ n ∈ s, Num n := by
      rcases hO with ⟨h, _⟩ | ⟨_, h⟩ | ⟨h, _⟩
      · omega
      · exact h
      · omega
    rw [if_neg (by decide), if_neg (by decide), if_neg (by decide), if_pos rfl] at h
    rcases hk with rfl | rfl
    · rw [if_pos rfl] at h
      split at h
      · cases h
      · cases h
        refine ⟨.inr (.inl ⟨.inr rfl, by simp; omega, fun x hx => ?_⟩), by simp, by simp; omega, fun h => by omega⟩
        rcases List.mem_append.1 hx with hx | hx
        · exact hn x hx
        · rw [List.mem_singleton.1 hx]; exact ha2 (by decide)
    · rw [if_neg (by decide)] at h
      split at h
      · cases h
        exact ⟨hO, by omega, by omega, fun h => by omega⟩
      · cases h
        exact ⟨.inr (.inl ⟨.inr rfl, by simp; omega, fun x hx => hn x (List.mem_of_mem_take hx)⟩), by simp; omega, by simp; omega, fun h => by omega⟩
  · obtain ⟨hl, hn, hs⟩ : s.length ≤ 50 ∧ (∀ n ∈ s, Num n) ∧ Inc s := by
      rcases hO with ⟨h, _⟩ | ⟨h, _⟩ | ⟨_, h⟩
      · omega
      · omega
      · exact h
    rw [if_neg (by decide), if_neg (by decide), if_neg (by decide), if_neg (by decide)] at h
    have same : n = s → OkS 4 n ∧ n.length ≤ s.length + 1 ∧ s.length ≤ n.length + 1 ∧ (kind = 2 ∨ kind = 9 → n = s) := by
      rintro rfl
      exact ⟨hO, by omega, by omega, fun _ => rfl⟩
    rcases hk with rfl | rfl | rfl
    · rw [if_pos rfl] at h
      split at h
      · cases h; exact same rfl
      split at h
      · cases h
      · rename_i h1 h2
        obtain ⟨rfl, rfl⟩ : ins s arg = n ∧ 1 = res := by simpa [ins] using h
        have e := ins_len s arg
        refine ⟨.inr (.inr ⟨rfl, by omega, fun x hx => ?_, ins_inc (by omega) hs h1⟩), by omega, by omega, fun h => by omega⟩
        rcases ins_mem.1 hx with rfl | hx
        · exact ha2 (by decide)
        · exact hn x hx
    · rw [if_neg (by decide), if_pos rfl] at h
      split at h
      · rename_i h1
        obtain ⟨rfl, rfl⟩ : del s arg = n ∧ 1 = res := by simpa [del] using h
        have e := del_len (by omega) hs h1
        refine ⟨.inr (.inr ⟨rfl, by omega, fun x hx => hn x ((del_sub s arg).subset hx), del_inc hs arg⟩), by omega, by omega, fun h => by omega⟩
      · cases h; exact same rfl
    · rw [if_neg (by decide), if_neg (by decide)] at h
      cases h; exact same rfl
  · obtain ⟨v, rfl, hv⟩ : ∃ v, s = [v] ∧ 0 ≤ v ∧ v ≤ 1000 := by
      rcases hO with ⟨_, h⟩ | ⟨h, _⟩ | ⟨h, _⟩
      · exact h
      · omega
      · omega
    rw [if_neg (by decide), if_pos rfl] at h
    split at h
    · cases h
    · rename_i h1
      cases h
      have h1 : v ≠ 1000 := h1
      exact ⟨.inl ⟨.inr rfl, v + 1, rfl, by omega, by omega⟩, by simp, by simp, fun h => by omega⟩
theorem eq_wp {N : Nat} {s t : List Int} (hN : 300 < N) (hl : s.length ≤ 200) : Wp (slices_Equal_int_int N s t) fun b => b = decide (s = t) := by
  unfold slices_Equal_int_int
  refine .cond (fun h => .one ?_) fun h => ?_
  · have h : (s.length : Int) ≠ t.length := by simpa using h
    rw [decide_eq_false]
    rintro rfl
    exact h rfl
  · have h : s.length = t.length := by
      have h : (s.length : Int) = t.length := by simpa using h
      omega
    refine .elim (P := fun r => match r with | .inl _ => s = t | .inr b => b = false ∧ s ≠ t) (.iter s.length (fun k v => v = (k : Int) ∧ ∀ j, j < k → s.getD j 0 = t.getD j 0) (by omega) ⟨rfl, fun j h => absurd h (Nat.not_lt_zero _)⟩ ?_ ?_) (fun _ _ h => .one (decide_eq_true h).symm) (fun b _ h => .one (by rw [h.1]; exact (decide_eq_false h.2).symm))
    · rintro k v hk ⟨rfl, hr⟩
      simp only [slices_Equal_int_int_L3]
      refine .condT (decide_eq_true (by omega)) (.ixD 0 (by omega) (by omega) (.ixD 0 (by omega) (by omega) ?_))
      simp only [Int.toNat_natCast]
      refine .cond (fun h2 => .one ⟨rfl, fun e => ?_⟩) fun h2 => .ck64 (by omega) (.one ⟨by simp, fun j hj => ?_⟩)
      · rw [e] at h2
        simp at h2
      · rcases Nat.lt_or_ge j k with h1 | h1
        · exact hr j h1
        · obtain rfl : j = k := by omega
          simpa using h2
    · rintro v ⟨rfl, hr⟩
      simp only [slices_Equal_int_int_L3]
      refine .condF (decide_eq_false (by omega)) (.one (List.ext_getElem h fun j h1 h2 => ?_))
      have := hr j h1
      rwa [getD_of h1, getD_of h2] at this
theorem eq_ok {N : Nat} {s t : List Int} (hN : 300 < N) (hl : s.length ≤ 200) : slices_Equal_int_int N s t = some (decide (s = t)) := Wp.eq (eq_wp hN hl)
theorem objLives : alibkeep_objectLives 18446744073709551616 = some true := by kernel_rfl
/-- Step, as one equation. -/
theorem step_eq {N : Nat} (hN : 300 < N) (typ : Int) (s : List Int) (kind arg : Int) : ∃ r, object_Step N typ s kind arg = some r ∧ St typ s kind arg r := step_wp hN typ s kind arg
theorem check_eq {N : Nat} (hN : 300 < N) {typ : Int} {s : List Int} (h : OkS typ s) : object_Check N typ s = some 0 := by
  obtain ⟨e, h1, h2⟩ := check_wp hN typ s
  rcases h2 with ⟨rfl, _⟩ | ⟨_, h2⟩
  · exact h1
  · exact (h2 h).elim
theorem oneLaw {N : Nat} (hN : 300 < N) (hL : alibkeep_objectLives N = some true) (typ : Int) (s : List Int) (kind arg : Int) : alibkeep_ObjectOne N typ s kind arg = some true := by
  refine Wp.eq ?_
  unfold alibkeep_ObjectOne
  obtain ⟨r, hr, h⟩ := step_eq hN typ s kind arg
  have hlen : r.1.length ≤ 200 := by
    rcases h with ⟨hO, hA, ⟨n, res, h1, rfl⟩ | ⟨_, rfl⟩⟩ | ⟨_, e, _, rfl⟩
    · have := (stp_ok hO hA h1).2.1
      have := hO.len
      simp only; omega
    · simp
    · simp
  refine .bdO hr (.bdO hr (.bdO hL ?_))
  have e1 : decide (r.2.2 = r.2.2) = true := decide_eq_true rfl
  rw [e1]
  refine .bdO (by rw [cond_of (by rfl), eq_ok hN hlen]) ?_
  rw [decide_eq_true (show r.1 = r.1 from rfl), decide_eq_true (show r.2.1 = r.2.1 from rfl)]
  refine .condF rfl ?_
  rcases h with ⟨hO, hA, ⟨n, res, h1, rfl⟩ | ⟨_, rfl⟩⟩ | ⟨_, e, he, rfl⟩
  · obtain ⟨o1, o2, o3, o4⟩ := stp_ok hO hA h1
    have := hO.len
    refine .condF rfl (.bdO (check_eq hN o1) ?_)
    simp only
    have g1 : ok64 ((s.length : Int) + 1) = true := ok64_of (by omega)
    have g2 : ok64 ((n.length : Int) + 1) = true := ok64_of (by omega)
    rw [g1, g2]
    refine .ck (by simp) (.ck (by simp) (.condF (by simp; omega) ?_))
    by_cases hk : kind = 2 ∨ kind = 9
    · rw [o4 hk]
      refine .bdO (a := true) ?_ (.one (by simp))
      rw [cond_of (by rcases hk with rfl | rfl <;> rfl), eq_ok hN (by omega), decide_eq_true rfl]
    · have k2 : kind ≠ 2 := fun h => hk (.inl h)
      have k9 : kind ≠ 9 := fun h => hk (.inr h)
      rw [decide_eq_false k2, decide_eq_false k9]
      exact .bdO (a := false) rfl (.one rfl)
  · exact .condT rfl (.one rfl)
  · exact .condT (by simpa using he) (.one rfl)
end Ob

end Go.Proofs.Ytpakplmpihhmbaa
