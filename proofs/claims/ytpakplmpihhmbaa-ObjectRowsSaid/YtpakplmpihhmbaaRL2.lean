/- Queues and stacks, plainly. -/
import Derived.Test.YtpakplmpihhmbaaRL1
set_option linter.unusedVariables false
set_option linter.unusedSimpArgs false
set_option linter.unusedSectionVars false
set_option maxRecDepth 100000
namespace Go.Proofs.Ytpakplmpihhmbaa
open Go.RowKit
namespace Ob
theorem ok2 {s : List Int} (h : s.length ≤ 50) (hs : ∀ n ∈ s, Num n) : OkS 2 s := .inr (.inl ⟨.inl rfl, h, hs⟩)
theorem ok3 {s : List Int} (h : s.length ≤ 50) (hs : ∀ n ∈ s, Num n) : OkS 3 s := .inr (.inl ⟨.inr rfl, h, hs⟩)
theorem nx_enq {s : List Int} {n : Int} (h : s.length < 50) (hs : ∀ n ∈ s, Num n) (hn : Num n) : nx 2 s 3 n = some (s ++ [n], 0) := by
  have hA : Asked 2 3 n := ⟨by decide, by decide, fun h => by omega, fun _ => hn⟩
  unfold nx
  rw [if_pos ⟨ok2 (by omega) hs, hA⟩]
  unfold stp
  rw [if_neg (by decide), if_neg (by decide), if_pos rfl, if_pos rfl, if_neg (by omega)]
theorem nx_deq {s : List Int} {n : Int} (h : (n :: s).length ≤ 50) (hs : ∀ x ∈ n :: s, Num x) : nx 2 (n :: s) 4 0 = some (s, n) := by
  have hA : Asked 2 4 0 := ⟨by decide, by decide, fun _ => rfl, fun h => (h (by decide)).elim⟩
  unfold nx
  rw [if_pos ⟨ok2 h hs, hA⟩]
  unfold stp
  rw [if_neg (by decide), if_neg (by decide), if_pos rfl, if_neg (by decide), if_neg (by simp)]
  rfl
theorem nx_deq0 : nx 2 [] 4 0 = some ([], -1) := by
  have hA : Asked 2 4 0 := ⟨by decide, by decide, fun _ => rfl, fun h => (h (by decide)).elim⟩
  unfold nx
  rw [if_pos ⟨ok2 (by simp) (by simp), hA⟩]
  rfl
theorem nx_push {s : List Int} {n : Int} (h : s.length < 50) (hs : ∀ n ∈ s, Num n) (hn : Num n) : nx 3 s 5 n = some (s ++ [n], 0) := by
  have hA : Asked 3 5 n := ⟨by decide, by decide, fun h => by omega, fun _ => hn⟩
  unfold nx
  rw [if_pos ⟨ok3 (by omega) hs, hA⟩]
  unfold stp
  rw [if_neg (by decide), if_neg (by decide), if_neg (by decide), if_pos rfl, if_pos rfl, if_neg (by omega)]
theorem nx_pop {s : List Int} {n : Int} (h : (s ++ [n]).length ≤ 50) (hs : ∀ x ∈ s ++ [n], Num x) : nx 3 (s ++ [n]) 6 0 = some (s, n) := by
  have hA : Asked 3 6 0 := ⟨by decide, by decide, fun _ => rfl, fun h => (h (by decide)).elim⟩
  unfold nx
  rw [if_pos ⟨ok3 h hs, hA⟩]
  unfold stp
  rw [if_neg (by decide), if_neg (by decide), if_neg (by decide), if_pos rfl, if_neg (by decide), if_neg (by simp)]
  have e : (s ++ [n]).length - 1 = s.length := by simp
  rw [e, List.take_append_of_le_length (Nat.le_refl _), List.take_length]
  simp
theorem nx_pop0 : nx 3 [] 6 0 = some ([], -1) := by
  have hA : Asked 3 6 0 := ⟨by decide, by decide, fun _ => rfl, fun h => (h (by decide)).elim⟩
  unfold nx
  rw [if_pos ⟨ok3 (by simp) (by simp), hA⟩]
  rfl
theorem run_enq : ∀ (m s : List Int), (∀ n ∈ s, Num n) → (∀ n ∈ m, Num n) → s.length + m.length ≤ 50 → run 2 s (m.map fun n => ⟨3, n, 0⟩) = some (s ++ m)
  | [], s, _, _, _ => by simp [run]
  | n :: m, s, h1, h2, h3 => by
    rw [List.length_cons] at h3
    simp only [List.map_cons, run, nx_enq (show s.length < 50 by omega) h1 (h2 n (.head _)), if_true]
    rw [run_enq m (s ++ [n]) (fun x hx => by
      rcases List.mem_append.1 hx with hx | hx
      · exact h1 x hx
      · rw [List.mem_singleton.1 hx]; exact h2 n (.head _)) (fun x hx => h2 x (.tail _ hx)) (by simp; omega), List.append_assoc]
    rfl
theorem run_deq : ∀ (s : List Int), (∀ n ∈ s, Num n) → s.length ≤ 50 → run 2 s (s.map fun n => ⟨4, 0, n⟩) = some []
  | [], _, _ => rfl
  | n :: s, h1, h3 => by
    simp only [List.map_cons, run, nx_deq h3 h1, if_true]
    exact run_deq s (fun x hx => h1 x (.tail _ hx)) (by rw [List.length_cons] at h3; omega)
theorem run_push : ∀ (m s : List Int), (∀ n ∈ s, Num n) → (∀ n ∈ m, Num n) → s.length + m.length ≤ 50 → run 3 s (m.map fun n => ⟨5, n, 0⟩) = some (s ++ m)
  | [], s, _, _, _ => by simp [run]
  | n :: m, s, h1, h2, h3 => by
    rw [List.length_cons] at h3
    simp only [List.map_cons, run, nx_push (show s.length < 50 by omega) h1 (h2 n (.head _)), if_true]
    rw [run_push m (s ++ [n]) (fun x hx => by
      rcases List.mem_append.1 hx with hx | hx
      · exact h1 x hx
      · rw [List.mem_singleton.1 hx]; exact h2 n (.head _)) (fun x hx => h2 x (.tail _ hx)) (by simp; omega), List.append_assoc]
    rfl
theorem run_pop : ∀ (r : List Int), (∀ n ∈ r, Num n) → r.length ≤ 50 → run 3 r.reverse (r.map fun n => ⟨6, 0, n⟩) = some []
  | [], _, _ => rfl
  | n :: r, h1, h3 => by
    rw [List.reverse_cons]
    simp only [List.map_cons, run]
    rw [nx_pop (by simpa using h3) (fun x hx => h1 x (by simpa [or_comm] using hx))]
    simp only [if_true]
    exact run_pop r (fun x hx => h1 x (.tail _ hx)) (by rw [List.length_cons] at h3; omega)
/-- What is done to a queue, and to a stack. -/
def qd (l : List Int) : List Do := ((l.map fun n => (⟨3, n, 0⟩ : Do)) ++ l.map fun n => (⟨4, 0, n⟩ : Do)) ++ [⟨4, 0, -1⟩]
def sd (l : List Int) : List Do := ((l.map fun n => (⟨5, n, 0⟩ : Do)) ++ l.reverse.map fun n => (⟨6, 0, n⟩ : Do)) ++ [⟨6, 0, -1⟩]
theorem run_qd {l : List Int} (h : l.length ≤ 50) (hl : ∀ n ∈ l, Num n) : run 2 [] (qd l) = some [] := by
  unfold qd
  rw [run_app, run_app, run_enq l [] (by simp) hl (by simpa using h)]
  simp only [Option.bind_some, List.nil_append]
  rw [run_deq l hl h]
  simp only [Option.bind_some, run, nx_deq0, if_true]
theorem run_sd {l : List Int} (h : l.length ≤ 50) (hl : ∀ n ∈ l, Num n) : run 3 [] (sd l) = some [] := by
  unfold sd
  rw [run_app, run_app, run_push l [] (by simp) hl (by simpa using h)]
  simp only [Option.bind_some, List.nil_append]
  have := run_pop l.reverse (fun n hn => hl n (List.mem_reverse.1 hn)) (by simpa using h)
  rw [List.reverse_reverse] at this
  rw [this]
  simp only [Option.bind_some, run, nx_pop0, if_true]
theorem take_none {typ : Int} {s : List Int} {l : List Do} {k : Nat} (h : run typ s (l.take k) = none) : run typ s l = none := by
  have e : l = l.take k ++ l.drop k := (List.take_append_drop k l).symm
  rw [e, run_app, h]; rfl
/-- All that is done may be. -/
theorem play_whole {N : Nat} (hN : 300 < N) {typ : Int} (ht : Ty typ) {l : List Do} (hl : l.length ≤ 200) (h : ∃ t, run typ (st0 typ) l = some t) : Wp (object_Play N typ l) fun r => r.1 = (l.length : Int) ∧ r.2 = 0 := by
  refine (play_wp hN typ (l := l) (by omega) (by omega)).mono fun r hr => ?_
  rcases hr with ⟨_, h0, k, h1, h2, _, h4⟩ | ⟨h1, _⟩
  · rcases Nat.lt_or_ge k l.length with g | g
    · obtain ⟨t, h⟩ := h
      rw [take_none (h4 g)] at h; cases h
    · obtain rfl : k = l.length := by omega
      exact ⟨h1, h0⟩
  · exact (h1 ht).elim
end Ob

end Go.Proofs.Ytpakplmpihhmbaa
