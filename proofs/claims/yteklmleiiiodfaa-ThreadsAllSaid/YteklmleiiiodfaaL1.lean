/- Objects, plainly: what is played. -/
import Derived.Test.YteklmleiiiodfaaK2
set_option linter.unusedVariables false
set_option linter.unusedSimpArgs false
set_option linter.unusedSectionVars false
set_option maxRecDepth 100000
namespace Go.Proofs.Yteklmleiiiodfaa
open Go.RowKit
namespace Ob
theorem inc_pw : ∀ s : List Int, Inc s ↔ s.Pairwise (· < ·)
  | [] => ⟨fun _ => .nil, fun _ => trivial⟩
  | [a] => ⟨fun _ => by simp, fun _ => trivial⟩
  | a :: b :: r => by
    have ih := inc_pw (b :: r)
    constructor
    · rintro ⟨h1, h2⟩
      have h3 := ih.1 h2
      refine List.pairwise_cons.2 ⟨fun x hx => ?_, h3⟩
      rcases List.mem_cons.1 hx with rfl | hx
      · exact h1
      · have := (List.pairwise_cons.1 h3).1 x hx
        omega
    · intro h
      obtain ⟨h1, h2⟩ := List.pairwise_cons.1 h
      exact ⟨h1 b (.head _), ih.2 h2⟩
theorem at_ex {s : List Int} (hl : s.length ≤ 60) (hs : Inc s) (arg : Int) : ∃ i, At s arg i := by
  obtain ⟨r, _, i, _, h⟩ := bs_wp (N := 301) (by decide) hl hs arg
  exact ⟨i, h⟩
def ins (s : List Int) (a : Int) : List Int := s.takeWhile (· < a) ++ [a] ++ s.dropWhile (· < a)
def del (s : List Int) (a : Int) : List Int := s.takeWhile (· < a) ++ (s.dropWhile (· < a)).drop 1
theorem ins_mem {s : List Int} {a x : Int} : x ∈ ins s a ↔ x = a ∨ x ∈ s := by
  unfold ins
  rw [List.mem_append, List.mem_append, List.mem_singleton]
  conv => rhs; rw [← List.takeWhile_append_dropWhile (p := (· < a)) (l := s), List.mem_append]
  constructor
  · rintro ((h | h) | h)
    · exact .inr (.inl h)
    · exact .inl h
    · exact .inr (.inr h)
  · rintro (h | h | h)
    · exact .inl (.inr h)
    · exact .inl (.inl h)
    · exact .inr h
theorem mem_drop_ge {s : List Int} {a : Int} {i : Nat} (h : At s a i) {x : Int} (hx : x ∈ s.drop i) : a ≤ x := by
  obtain ⟨k, hk, rfl⟩ := List.getElem_of_mem hx
  rw [List.length_drop] at hk
  have := h.hi (i + k) (by omega) (by omega)
  rw [getD_of (by omega)] at this
  rw [List.getElem_drop]
  exact this
theorem mem_take_lt {s : List Int} {a : Int} {i : Nat} (h : At s a i) {x : Int} (hx : x ∈ s.take i) : x < a := by
  obtain ⟨k, hk, rfl⟩ := List.getElem_of_mem hx
  rw [List.length_take] at hk
  have := h.lo k (by omega)
  rw [getD_of (by omega)] at this
  rw [List.getElem_take]
  exact this
theorem ins_inc {s : List Int} (hl : s.length ≤ 60) (hs : Inc s) {a : Int} (ha : a ∉ s) : Inc (ins s a) := by
  obtain ⟨i, hi⟩ := at_ex hl hs a
  unfold ins
  rw [hi.tw.1, hi.tw.2]
  rw [inc_pw] at hs ⊢
  rw [List.append_assoc, List.pairwise_append]
  refine ⟨hs.sublist (List.take_sublist i s), ?_, fun x hx y hy => ?_⟩
  · rw [List.singleton_append, List.pairwise_cons]
    refine ⟨fun y hy => ?_, hs.sublist (List.drop_sublist i s)⟩
    have h1 := mem_drop_ge hi hy
    have h2 : y ≠ a := fun e => ha (e ▸ List.mem_of_mem_drop hy)
    omega
  · have h1 := mem_take_lt hi hx
    rcases List.mem_append.1 hy with hy | hy
    · rw [List.mem_singleton.1 hy]; exact h1
    · have := mem_drop_ge hi hy
      omega
theorem del_sub (s : List Int) (a : Int) : (del s a).Sublist s := by
  unfold del
  conv => rhs; rw [← List.takeWhile_append_dropWhile (p := (· < a)) (l := s)]
  exact List.Sublist.append_left (List.drop_sublist _ _) _
theorem del_inc {s : List Int} (hs : Inc s) (a : Int) : Inc (del s a) := by
  rw [inc_pw] at hs ⊢
  exact hs.sublist (del_sub s a)
theorem del_mem {s : List Int} (hl : s.length ≤ 60) (hs : Inc s) {a x : Int} (ha : a ∈ s) : x ∈ del s a ↔ x ≠ a ∧ x ∈ s := by
  obtain ⟨i, hi⟩ := at_ex hl hs a
  obtain ⟨hlt, he⟩ := (hi.mem hs).1 ha
  have e : s.drop i = a :: s.drop (i + 1) := by
    rw [List.drop_eq_getElem_cons hlt, ← getD_of (d := (0 : Int)) hlt, he]
  have hd : del s a = s.take i ++ s.drop (i + 1) := by
    unfold del
    rw [hi.tw.1, hi.tw.2, List.drop_drop]
  have hp := (inc_pw s).1 hs
  have hs2 : s = s.take i ++ a :: s.drop (i + 1) := by rw [← e, List.take_append_drop]
  rw [hd, List.mem_append]
  constructor
  · rintro (h | h)
    · have := mem_take_lt hi h
      exact ⟨by omega, List.mem_of_mem_take h⟩
    · rw [hs2, List.pairwise_append, List.pairwise_cons] at hp
      have := hp.2.1.1 x h
      exact ⟨by omega, List.mem_of_mem_drop h⟩
  · rintro ⟨h1, h2⟩
    rw [hs2, List.mem_append, List.mem_cons] at h2
    rcases h2 with h2 | h2 | h2
    · exact .inl h2
    · exact (h1 h2).elim
    · exact .inr h2
/-- Two rows in order are one, if they hold the same. -/
theorem inc_ext : ∀ {s t : List Int}, Inc s → Inc t → (∀ x, x ∈ s ↔ x ∈ t) → s = t := by
  intro s t hs ht h
  rw [inc_pw] at hs ht
  refine List.Perm.eq_of_pairwise (le := (· < ·)) (fun a b _ _ h1 h2 => by omega) hs ht ((List.perm_ext_iff_of_nodup ?_ ?_).2 h)
  · exact hs.imp fun h => by omega
  · exact ht.imp fun h => by omega
theorem OkS.len {typ : Int} {s : List Int} (h : OkS typ s) : s.length ≤ 50 := by
  rcases h with ⟨_, v, rfl, _⟩ | ⟨_, h, _⟩ | ⟨_, h, _⟩
  · simp
  · exact h
  · exact h
theorem ins_len (s : List Int) (a : Int) : (ins s a).length = s.length + 1 := by
  have := congrArg List.length (List.takeWhile_append_dropWhile (p := (· < a)) (l := s))
  rw [List.length_append] at this
  unfold ins
  simp only [List.length_append, List.length_cons, List.length_nil]
  omega
theorem del_len {s : List Int} (hl : s.length ≤ 60) (hs : Inc s) {a : Int} (ha : a ∈ s) : (del s a).length + 1 = s.length := by
  obtain ⟨i, hi⟩ := at_ex hl hs a
  obtain ⟨hlt, he⟩ := (hi.mem hs).1 ha
  unfold del
  rw [hi.tw.1, hi.tw.2]
  simp only [List.length_append, List.length_take, List.length_drop]
  omega
/-- What comes of a step may be; it is one longer, or shorter, at most; who asks leaves it. -/
theorem stp_ok {typ : Int} {s : List Int} {kind arg : Int} (hO : OkS typ s) (hA : Asked typ kind arg) {n : List Int} {res : Int} (h : stp typ s kind arg = some (n, res)) :
    OkS typ n ∧ n.length ≤ s.length + 1 ∧ s.length ≤ n.length + 1 ∧ (kind = 2 ∨ kind = 9 → n = s) := by
  obtain ⟨h0, hk, ha1, ha2⟩ := hA
  unfold stp at h
  have hinv := tyK_inv hk h0
  clear hk
  rcases hinv with ⟨rfl, hk⟩ | ⟨rfl, hk⟩ | ⟨rfl, hk⟩ | ⟨rfl, hk⟩ | ⟨rfl, hk⟩
  · obtain ⟨v, rfl, hv⟩ : ∃ v, s = [v] ∧ 0 ≤ v ∧ v ≤ 1000 := by
      rcases hO with ⟨_, h⟩ | ⟨h, _⟩ | ⟨h, _⟩
      · exact h
      · omega
      · omega
    rw [if_pos rfl] at h
    rcases hk with rfl | rfl
    · rw [if_pos rfl] at h
      cases h
      have := ha2 (by decide)
      unfold Num at this
      exact ⟨.inl ⟨.inl rfl, arg, rfl, by omega, by omega⟩, by simp, by simp, fun h => by omega⟩
    · rw [if_neg (by decide)] at h
      cases h
      exact ⟨.inl ⟨.inl rfl, v, rfl, hv⟩, by simp, by simp, fun _ => rfl⟩
  · obtain ⟨hl, hn⟩ : s.length ≤ 50 ∧ ∀ n ∈ s, Num n := by
      rcases hO with ⟨h, _⟩ | ⟨_, h⟩ | ⟨h, _⟩
      · omega
      · exact h
      · omega
    rw [if_neg (by decide), if_neg (by decide), if_pos rfl] at h
    rcases hk with rfl | rfl
    · rw [if_pos rfl] at h
      split at h
      · cases h
      · cases h
        refine ⟨.inr (.inl ⟨.inl rfl, by simp; omega, fun x hx => ?_⟩), by simp, by simp; omega, fun h => by omega⟩
        rcases List.mem_append.1 hx with hx | hx
        · exact hn x hx
        · rw [List.mem_singleton.1 hx]; exact ha2 (by decide)
    · rw [if_neg (by decide)] at h
      split at h
      · cases h
        exact ⟨hO, by omega, by omega, fun h => by omega⟩
      · cases h
        exact ⟨.inr (.inl ⟨.inl rfl, by simp; omega, fun x hx => hn x (List.mem_of_mem_drop hx)⟩), by simp; omega, by simp; omega, fun h => by omega⟩
  · obtain ⟨hl, hn⟩ : s.length ≤ 50 ∧ ∀ n ∈ s, Num n := by
      rcases hO with ⟨h, _⟩ | ⟨_, h⟩ | ⟨h, _⟩
      · omega
      · exact h
      · omega
    rw [if_neg (by decide), if_neg (by decide), if_neg (by decide), if_pos rfl] at h
    rcases hk with rfl | rfl
    · rw [if_pos rfl] at h
      split at h
      · cases h
      · cases h
        refine ⟨.inr (.inl ⟨.inr rfl, by simp; omega, fun x hx => ?_⟩), by simp, by simp; omega, fun h => by omega⟩
        rcases List.mem_append.1 hx with hx | hx
        · exact hn x hx
        · rw [List.mem_singleton.1 hx]; exact ha2 (by decide)
    · rw [if_neg (by decide)] at h
      split at h
      · cases h
        exact ⟨hO, by omega, by omega, fun h => by omega⟩
      · cases h
        exact ⟨.inr (.inl ⟨.inr rfl, by simp; omega, fun x hx => hn x (List.mem_of_mem_take hx)⟩), by simp; omega, by simp; omega, fun h => by omega⟩
  · obtain ⟨hl, hn, hs⟩ : s.length ≤ 50 ∧ (∀ n ∈ s, Num n) ∧ Inc s := by
      rcases hO with ⟨h, _⟩ | ⟨h, _⟩ | ⟨_, h⟩
      · omega
      · omega
      · exact h
    rw [if_neg (by decide), if_neg (by decide), if_neg (by decide), if_neg (by decide)] at h
    have same : n = s → OkS 4 n ∧ n.length ≤ s.length + 1 ∧ s.length ≤ n.length + 1 ∧ (kind = 2 ∨ kind = 9 → n = s) := by
      rintro rfl
      exact ⟨hO, by omega, by omega, fun _ => rfl⟩
    rcases hk with rfl | rfl | rfl
    · rw [if_pos rfl] at h
      split at h
      · cases h; exact same rfl
      split at h
      · cases h
      · rename_i h1 h2
        obtain ⟨rfl, rfl⟩ : ins s arg = n ∧ 1 = res := by simpa [ins] using h
        have e := ins_len s arg
        refine ⟨.inr (.inr ⟨rfl, by omega, fun x hx => ?_, ins_inc (by omega) hs h1⟩), by omega, by omega, fun h => by omega⟩
        rcases ins_mem.1 hx with rfl | hx
        · exact ha2 (by decide)
        · exact hn x hx
    · rw [if_neg (by decide), if_pos rfl] at h
      split at h
      · rename_i h1
        obtain ⟨rfl, rfl⟩ : del s arg = n ∧ 1 = res := by simpa [del] using h
        have e := del_len (by omega) hs h1
        refine ⟨.inr (.inr ⟨rfl, by omega, fun x hx => hn x ((del_sub s arg).subset hx), del_inc hs arg⟩), by omega, by omega, fun h => by omega⟩
      · cases h; exact same rfl
    · rw [if_neg (by decide), if_neg (by decide)] at h
      cases h; exact same rfl
  · obtain ⟨v, rfl, hv⟩ : ∃ v, s = [v] ∧ 0 ≤ v ∧ v ≤ 1000 := by
      rcases hO with ⟨_, h⟩ | ⟨h, _⟩ | ⟨h, _⟩
      · exact h
      · omega
      · omega
    rw [if_neg (by decide), if_pos rfl] at h
    split at h
    · cases h
    · rename_i h1
      cases h
      have h1 : v ≠ 1000 := h1
      exact ⟨.inl ⟨.inr rfl, v + 1, rfl, by omega, by omega⟩, by simp, by simp, fun h => by omega⟩
instance (typ : Int) : Decidable (Ty typ) := by unfold Ty; infer_instance
open Classical in
/-- A step that may be: the state behind, and the answer. -/
noncomputable def nx (typ : Int) (s : List Int) (kind arg : Int) : Option (List Int × Int) := if OkS typ s ∧ Asked typ kind arg then stp typ s kind arg else none
theorem nx_ok {typ : Int} {s : List Int} {kind arg : Int} {n : List Int} {res : Int} (h : nx typ s kind arg = some (n, res)) : OkS typ s ∧ Asked typ kind arg ∧ stp typ s kind arg = some (n, res) ∧ OkS typ n := by
  unfold nx at h
  split at h
  · rename_i h1
    exact ⟨h1.1, h1.2, h, (stp_ok h1.1 h1.2 h).1⟩
  · cases h
theorem step_eq {N : Nat} (hN : 300 < N) (typ : Int) (s : List Int) (kind arg : Int) : ∃ r, object_Step N typ s kind arg = some r ∧ St typ s kind arg r := step_wp hN typ s kind arg
theorem step_nx {N : Nat} (hN : 300 < N) (typ : Int) (s : List Int) (kind arg : Int) : (∃ n res, nx typ s kind arg = some (n, res) ∧ object_Step N typ s kind arg = some (n, res, 0)) ∨ (nx typ s kind arg = none ∧ ∃ e, e ≠ 0 ∧ object_Step N typ s kind arg = some ([], 0, e)) := by
  obtain ⟨r, h1, h⟩ := step_eq hN typ s kind arg
  rcases h with ⟨hO, hA, ⟨n, res, h, rfl⟩ | ⟨h, rfl⟩⟩ | ⟨hn, e, he, rfl⟩
  · exact .inl ⟨n, res, by unfold nx; rw [if_pos ⟨hO, hA⟩]; exact h, h1⟩
  · exact .inr ⟨by unfold nx; rw [if_pos ⟨hO, hA⟩]; exact h, 2, by decide, h1⟩
  · exact .inr ⟨by unfold nx; rw [if_neg hn], e, he, h1⟩
/-- What is done, one behind the other: the state behind, if all may be. -/
noncomputable def run (typ : Int) : List Int → List Do → Option (List Int)
  | s, [] => some s
  | s, d :: l => match nx typ s d.kind d.arg with
    | some (n, res) => if res = d.res then run typ n l else none
    | none => none
theorem run_app (typ : Int) : ∀ (l m : List Do) (s : List Int), run typ s (l ++ m) = (run typ s l).bind fun t => run typ t m
  | [], m, s => rfl
  | d :: l, m, s => by
    simp only [List.cons_append, run]
    cases h : nx typ s d.kind d.arg with
    | none => rfl
    | some p =>
      obtain ⟨n, res⟩ := p
      simp only
      split
      · exact run_app typ l m n
      · rfl
/-- The state at first. -/
def st0 (typ : Int) : List Int := if typ = 1 ∨ typ = 5 then [0] else []
theorem st0_ok {typ : Int} (h : Ty typ) : OkS typ (st0 typ) := by
  unfold Ty at h
  unfold st0
  have : typ = 1 ∨ typ = 2 ∨ typ = 3 ∨ typ = 4 ∨ typ = 5 := by omega
  rcases this with rfl | rfl | rfl | rfl | rfl
  · exact .inl ⟨.inl rfl, 0, rfl, by decide, by decide⟩
  · exact .inr (.inl ⟨.inl rfl, by simp, by simp⟩)
  · exact .inr (.inl ⟨.inr rfl, by simp, by simp⟩)
  · exact .inr (.inr ⟨rfl, by simp, by simp, by simp [Inc]⟩)
  · exact .inl ⟨.inr rfl, 0, rfl, by decide, by decide⟩
theorem start_ok (N : Nat) (typ : Int) : object_Start N typ = some (if Ty typ then (st0 typ, 0) else ([], 1)) := by
  by_cases h : Ty typ
  · rw [if_pos h]
    unfold Ty at h
    have : typ = 1 ∨ typ = 2 ∨ typ = 3 ∨ typ = 4 ∨ typ = 5 := by omega
    rcases this with rfl | rfl | rfl | rfl | rfl <;> rfl
  · rw [if_neg h]
    have e : ∀ n : Int, 1 ≤ n → n ≤ 5 → ¬ typ = n := fun n h1 h2 e => h ⟨by omega, by omega⟩
    unfold object_Start object_of
    simp [e, bd]
/-- How much of it may be. -/
theorem play_wp {N : Nat} (hN : 300 < N) (typ : Int) {l : List Do} (hl : l.length < N) (hl2 : l.length ≤ 9223372036854775806) : Wp (object_Play N typ l) fun r => (Ty typ ∧ r.2 = 0 ∧ ∃ k : Nat, r.1 = k ∧ k ≤ l.length ∧ (∃ t, run typ (st0 typ) (l.take k) = some t) ∧ (k < l.length → run typ (st0 typ) (l.take (k + 1)) = none)) ∨ (¬ Ty typ ∧ r = (0, 1)) := by
  unfold object_Play
  refine .bdO (start_ok N typ) ?_
  by_cases h : Ty typ
  · rw [if_pos h]
    refine .condF rfl ?_
    refine .elim (P := fun t => match t with | .inl _ => ∃ t, run typ (st0 typ) l = some t | .inr r => r.2 = 0 ∧ ∃ k : Nat, r.1 = k ∧ k ≤ l.length ∧ (∃ t, run typ (st0 typ) (l.take k) = some t) ∧ (k < l.length → run typ (st0 typ) (l.take (k + 1)) = none))
      (.iter l.length (fun k st => st.2 = (k : Int) ∧ run typ (st0 typ) (l.take k) = some st.1) hl ⟨rfl, rfl⟩ ?_ ?_) (fun _ _ h2 => .one (.inl ⟨h, rfl, l.length, rfl, Nat.le_refl _, by rw [List.take_length]; exact h2, fun h => absurd h (Nat.lt_irrefl _)⟩)) (fun r _ h2 => .one (.inl ⟨h, h2⟩))
    · rintro k ⟨t, v⟩ hk ⟨hv, hr⟩
      simp only at hv hr
      subst hv
      simp only [object_Play_L3]
      refine .condT (decide_eq_true (by omega)) (.ix hk ?_)
      have e1 : l.take (k + 1) = l.take k ++ [l[k]] := (List.take_append_getElem hk).symm
      have e2 : run typ (st0 typ) (l.take (k + 1)) = run typ t [l[k]] := by rw [e1, run_app, hr]; rfl
      rcases step_nx hN typ t l[k].kind l[k].arg with ⟨n, res, h1, h2⟩ | ⟨h1, e, he, h2⟩
      · refine .bdO h2 (.cond (fun h3 => .one ⟨rfl, k, rfl, by omega, ⟨t, hr⟩, fun _ => ?_⟩) fun h3 => .ck64 (by omega) (.one ⟨by simp, ?_⟩))
        · rw [e2]
          have : res ≠ l[k].res := by simpa using h3
          simp only [run, h1, if_neg this]
        · have : res = l[k].res := by simpa using h3
          rw [e2]
          simp only [run, h1, if_pos this]
      · refine .bdO h2 (.condT (by simp [he]) (.one ⟨rfl, k, rfl, by omega, ⟨t, hr⟩, fun _ => ?_⟩))
        rw [e2]
        simp only [run, h1]
    · rintro ⟨t, v⟩ ⟨hv, hr⟩
      simp only at hv hr
      subst hv
      simp only [object_Play_L3]
      refine .condF (decide_eq_false (by omega)) (.one ⟨t, ?_⟩)
      rwa [List.take_length] at hr
  · rw [if_neg h]
    exact .condT rfl (.one (.inr ⟨h, rfl⟩))
end Ob

end Go.Proofs.Yteklmleiiiodfaa
