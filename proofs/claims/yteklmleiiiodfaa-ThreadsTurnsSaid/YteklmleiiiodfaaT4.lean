/- ThreadsTurns, plainly. -/
import Derived.Test.YteklmleiiiodfaaT3
import Derived.Test.YteklmleiiiodfaaT2
set_option linter.unusedVariables false
set_option linter.unusedSimpArgs false
set_option linter.unusedSectionVars false
set_option maxRecDepth 100000
namespace Go.Proofs.Yteklmleiiiodfaa
open Go.RowKit
namespace Th
theorem eqE_ok {N : Nat} {a b : List Event} (hN : b.length < N) (hb : b.length ≤ 1000) (h : a = b) : slices_Equal_api_Event_api_Event N a b = some true := by
  subst h
  unfold slices_Equal_api_Event_api_Event
  refine Wp.eq (.condF (by simp) (.elim (P := fun t => match t with | .inl _ => True | .inr _ => False) (.iter a.length (fun k v => v = (k : Int)) (by omega) rfl ?_ ?_) (fun _ _ _ => .one rfl) (fun _ _ h => h.elim)))
  · rintro k v hk rfl
    simp only [slices_Equal_api_Event_api_Event_L3]
    exact .condT (decide_eq_true (by omega)) (.ix hk (.ix hk (.condF (by simp) (.ck64 (by omega) (.one (by simp))))))
  · rintro v rfl
    simp only [slices_Equal_api_Event_api_Event_L3]
    exact .condF (decide_eq_false (by omega)) (.one trivial)
theorem eqS_ok {N : Nat} {a b : List Step} (hN : b.length < N) (hb : b.length ≤ 1000) (h : a = b) : slices_Equal_api_Step_api_Step N a b = some true := by
  subst h
  unfold slices_Equal_api_Step_api_Step
  refine Wp.eq (.condF (by simp) (.elim (P := fun t => match t with | .inl _ => True | .inr _ => False) (.iter a.length (fun k v => v = (k : Int)) (by omega) rfl ?_ ?_) (fun _ _ _ => .one rfl) (fun _ _ h => h.elim)))
  · rintro k v hk rfl
    simp only [slices_Equal_api_Step_api_Step_L3]
    exact .condT (decide_eq_true (by omega)) (.ix hk (.ix hk (.condF (by simp) (.ck64 (by omega) (.one (by simp))))))
  · rintro v rfl
    simp only [slices_Equal_api_Step_api_Step_L3]
    exact .condF (decide_eq_false (by omega)) (.one trivial)
theorem lives : alibkeep_threadsLives 18446744073709551616 = some true := by kernel_rfl
theorem turnsLaw {N : Nat} (hN : 5000 < N) (hL : alibkeep_threadsLives N = some true) (types : List Int) (people : List (List Ask)) (turns : List Int) (n : Int) (hl : ∀ l ∈ people, l.length < N ∧ l.length ≤ 9223372036854775807) : alibkeep_ThreadsTurns N types people turns n = some true := by
  obtain ⟨e, he, h1⟩ := play_wp hN (types := types) hl turns
  refine Wp.eq ?_
  unfold alibkeep_ThreadsTurns
  refine .seq h1 fun r hr0 hr => .bdO hL (.cond (fun _ => .bdO hL (.one rfl)) fun hc => ?_)
  simp only [Bool.or_eq_false_iff, Bool.not_eq_false', decide_eq_true_eq, decide_eq_false_iff_not, Bool.not_true] at hc
  obtain ⟨⟨⟨_, h0⟩, hn0⟩, hn1⟩ := hc
  obtain ⟨n, rfl⟩ : ∃ k : Nat, n = k := ⟨n.toNat, by omega⟩
  have hn1 : n ≤ turns.length := by omega
  have hr : e = 0 ∧ OkP types people ∧ (turns.length ≤ 300 ∧ ∀ t ∈ turns, 0 ≤ t ∧ t < people.length) ∧ r = ((runM types (m0 types people) turns).events, (runM types (m0 types people) turns).steps, 0) := by
    rcases hr with ⟨h, rfl⟩ | h | ⟨_, _, _, _, _, h, _⟩
    · exact (h h0).elim
    · exact h
    · exact (h h0).elim
  obtain ⟨rfl, hP, hT, rfl⟩ := hr
  refine .ck (by simp [slB]; omega) ?_
  rw [Int.toNat_natCast]
  obtain ⟨e', he', h2⟩ := play_wp hN (types := types) hl (turns.take n)
  obtain rfl : 0 = e' := by rw [he] at he'; exact Option.some.inj he'
  refine .seq h2 fun q _ hq => ?_
  have hTn : (turns.take n).length ≤ 300 ∧ ∀ t ∈ turns.take n, 0 ≤ t ∧ t < people.length := ⟨by simp; omega, fun t ht => hT.2 t (List.mem_of_mem_take ht)⟩
  have hq : q = ((runM types (m0 types people) (turns.take n)).events, (runM types (m0 types people) (turns.take n)).steps, 0) := by
    rcases hq with ⟨h, _⟩ | ⟨_, _, _, h⟩ | ⟨_, _, h, _⟩
    · exact (h rfl).elim
    · exact h
    · exact (h hTn).elim
  subst hq
  obtain ⟨hi, ⟨ev1, he1, hle1⟩, st1, hs1, hls1⟩ := run_ok (by omega : 300 < N) (inv0 hP) (turns := turns.take n) hTn.2 (by simp; omega)
  obtain ⟨_, ⟨ev2, he2, hle2⟩, st2, hs2, hls2⟩ := run_ok (by omega : 300 < N) hi (turns := turns.drop n) (fun t ht => hT.2 t (List.mem_of_mem_drop ht)) (by simp; omega)
  rw [← runM_app, List.take_append_drop] at he2 hs2
  have z1 : (m0 types people).events = [] := rfl
  have z2 : (m0 types people).steps = [] := rfl
  rw [z1, List.nil_append] at he1
  rw [z2, List.nil_append] at hs1
  simp only [List.length_take, List.length_drop] at hle1 hle2 hls1 hls2
  generalize (runM types (m0 types people) turns) = X at he2 hs2 ⊢
  generalize (runM types (m0 types people) (turns.take n)) = Y at he1 hs1 he2 hs2 ⊢
  simp only
  have lx : X.events.length = Y.events.length + ev2.length := by rw [he2, List.length_append]
  have ls : X.steps.length = Y.steps.length + st2.length := by rw [hs2, List.length_append]
  rw [← he1] at hle1
  rw [← hs1] at hls1
  have f1 : decide ((X.events.length : Int) < (Y.events.length : Int)) = false := decide_eq_false (by omega)
  have f2 : decide ((X.steps.length : Int) < (Y.steps.length : Int)) = false := decide_eq_false (by omega)
  rw [f1, f2]
  have g1 : slices_Equal_api_Event_api_Event N (X.events.take ((Y.events.length : Int)).toNat) Y.events = some true := eqE_ok (by omega) (by omega) (by rw [Int.toNat_natCast, he2, List.take_left])
  have g2 : slices_Equal_api_Step_api_Step N (X.steps.take ((Y.steps.length : Int)).toNat) Y.steps = some true := eqS_ok (by omega) (by omega) (by rw [Int.toNat_natCast, hs2, List.take_left])
  rw [g1, g2]
  refine .ck (by simp [slB]; omega) (.bdO (a := true) rfl (.ck (by simp [slB]; omega) (.bdO (a := true) rfl (.condF rfl (.one ?_)))))
  simp
  omega
end Th

end Go.Proofs.Yteklmleiiiodfaa
