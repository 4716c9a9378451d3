/- SitesLive, plainly: all are answered. -/
import Derived.Test.YteklmleiiiodfaaH7
import Derived.Test.YteklmleiiiodfaaE4
set_option linter.unusedVariables false
set_option linter.unusedSimpArgs false
set_option linter.unusedSectionVars false
set_option maxRecDepth 100000
namespace Go.Proofs.Yteklmleiiiodfaa
open Go.RowKit
namespace Si
open Hs
theorem wrapI64s {z : Int} (h0 : 0 ≤ z) (h : z < 9223372036854775808) : IntKind.i64.wrap z = z := by
  have e : z % 2 ^ 64 = z := Int.emod_eq_of_lt h0 (by show z < 2 ^ 64; omega)
  unfold IntKind.wrap
  simp only [IntKind.bits, IntKind.signed, Bool.true_and, e]
  exact if_neg (by simp; omega)
def callsL (np : Nat) : List Act := (List.range np).map fun (w : Nat) => ⟨1, (w : Int)⟩
def lettersL (L : Nat) : List Act := (List.range L).flatMap fun (k : Nat) => [⟨2, (k : Int)⟩, ⟨3, (k : Int)⟩]
theorem callsL_succ (k : Nat) : callsL (k + 1) = callsL k ++ [⟨1, (k : Int)⟩] := by unfold callsL; rw [List.range_succ, List.map_append]; rfl
theorem lettersL_succ (k : Nat) : lettersL (k + 1) = lettersL k ++ [⟨2, (k : Int)⟩, ⟨3, (k : Int)⟩] := by unfold lettersL; rw [List.range_succ, List.flatMap_append]; rfl
theorem callsL_len (k : Nat) : (callsL k).length = k := by simp [callsL]
theorem lettersL_len : ∀ k : Nat, (lettersL k).length = 2 * k
  | 0 => rfl
  | k + 1 => by rw [lettersL_succ, List.length_append, lettersL_len k]; simp; omega
def pass (np L : Nat) : List Act := callsL np ++ lettersL L
def passes (np L : Nat) : Nat → List Act
  | 0 => []
  | k + 1 => passes np L k ++ pass np L
theorem passes_len (np L : Nat) : ∀ k, (passes np L k).length = k * (np + 2 * L)
  | 0 => by simp [passes]
  | k + 1 => by unfold passes pass; rw [List.length_append, List.length_append, passes_len np L k, callsL_len, lettersL_len, Nat.add_mul]; omega
theorem callsL_ok (np n : Nat) {k : Nat} (hk : k ≤ np) : ∀ a ∈ callsL k, OkA np n a := by
  intro a ha
  obtain ⟨w, hw, rfl⟩ := List.mem_map.1 ha
  have := List.mem_range.1 hw
  exact ⟨⟨by show (1 : Int) ≤ 1; decide, by show (1 : Int) ≤ 4; decide⟩, fun _ => ⟨Int.natCast_nonneg _, by show (w : Int) < np; omega⟩, fun h => absurd h (by show ¬ (1 : Int) = 4; decide)⟩
theorem lettersL_ok (np n L : Nat) : ∀ a ∈ lettersL L, OkA np n a := by
  intro a ha
  obtain ⟨k, _, hk⟩ := List.mem_flatMap.1 ha
  rcases List.mem_cons.1 hk with rfl | hk
  · exact ⟨⟨by show (1 : Int) ≤ 2; decide, by show (2 : Int) ≤ 4; decide⟩, fun h => absurd h (by show ¬ (2 : Int) = 1; decide), fun h => absurd h (by show ¬ (2 : Int) = 4; decide)⟩
  · rw [List.mem_singleton.1 hk]
    exact ⟨⟨by show (1 : Int) ≤ 3; decide, by show (3 : Int) ≤ 4; decide⟩, fun h => absurd h (by show ¬ (3 : Int) = 1; decide), fun h => absurd h (by show ¬ (3 : Int) = 4; decide)⟩
theorem passes_ok (np n L : Nat) : ∀ k, ∀ a ∈ passes np L k, OkA np n a
  | 0, a, h => nomatch h
  | k + 1, a, h => by
    rcases List.mem_append.1 h with h | h
    · exact passes_ok np n L k a h
    · rcases List.mem_append.1 h with h | h
      · exact callsL_ok np n (Nat.le_refl _) a h
      · exact lettersL_ok np n L a h
/-- Soon answered, or answered. -/
def Q (m : M) (w l : Nat) : Prop := ((m.who w).pending = true ∧ (m.who w).program.length ≤ l) ∨ (m.who w).program.length < l
theorem Grow.q {m m' : M} (G : Grow m m') {w l : Nat} (hl : 1 ≤ l) (h : Q m w l) : Q m' w l := by
  have h1 := G.len w
  rcases h with ⟨hp, h⟩ | h
  · cases hq : (m'.who w).pending with
    | true => exact .inl ⟨hq, by omega⟩
    | false =>
      right
      rcases G.les w hp hq with h2 | h2 <;> omega
  · exact .inr (by omega)
section
variable {N : Nat} {fast : Bool} {np n : Nat} {m : M} {g : Gh}
def Up (n : Nat) (m : M) : Prop := Most n fun s => !(m.site s).down
def SameD (m m' : M) : Prop := ∀ s, (m'.site s).down = (m.site s).down
theorem act1 (m : M) (w : Nat) : act fast m ⟨1, (w : Int)⟩ = call m w := by unfold act; rw [if_pos rfl]; rfl
theorem act2 (m : M) (j : Nat) : act fast m ⟨2, (j : Int)⟩ = hand m j := by unfold act; rw [if_neg (by show ¬ (2 : Int) = 1; decide), if_pos rfl]
theorem act3 (m : M) (j : Nat) : act fast m ⟨3, (j : Int)⟩ = back fast m j := by unfold act; rw [if_neg (by show ¬ (3 : Int) = 1; decide), if_neg (by show ¬ (3 : Int) = 2; decide), if_pos rfl]
/-- One letter more. -/
theorem sweep_one (A : ZZ N fast np n m g) {j : Nat} (hs : Swept np j m) : ∃ g', ZZ N fast np n (back fast (hand m j) j) g' ∧ Swept np (j + 1) (back fast (hand m j) j) ∧ SameD m (back fast (hand m j) j) ∧ (∀ w l, 1 ≤ l → Q m w l → Q (back fast (hand m j) j) w l) ∧ pot n (back fast (hand m j) j) ≤ pot n m := by
  have ok2 : OkA np n ⟨2, (j : Int)⟩ := lettersL_ok np n (j + 1) _ (by rw [lettersL_succ]; simp)
  have ok3 : OkA np n ⟨3, (j : Int)⟩ := lettersL_ok np n (j + 1) _ (by rw [lettersL_succ]; simp)
  obtain ⟨g1, A1, _, p1⟩ := act_zz A ok2
  rw [act2] at A1 p1
  obtain ⟨g2, A2, _, p2⟩ := act_zz A1 ok3
  rw [act3] at A2 p2
  have hsl := A.z.sl
  have n1 := A.z.n1
  have hsite : (m.let_ j).site.toNat < m.sites.length := by
    rcases Nat.lt_or_ge j m.letters.length with h | h
    · have := A.z.lt j h; omega
    · have e : m.let_ j = SitesLetter.z := by unfold M.let_; rw [List.getD_eq_getElem?_getD, List.getElem?_eq_none h]; rfl
      rw [e]; show 0 < _; omega
  obtain ⟨h1, h2, h3, h4⟩ := hand_facts m j hsite
  have hw : ∀ w, (hand m j).who w = m.who w := fun w => (hand_who m j w).1
  have K := bk_back (fast := fast) A1.z j
  have G := grow_back (fast := fast) A1.z j
  refine ⟨g2, A2, fun k hk hkl w hwn hp hwho hrd hdn => ?_, fun s => ?_, fun w l hl hq => G.q hl ?_, Nat.le_trans p2 p1⟩
  · have hk1 : k < (hand m j).letters.length := by
      rcases K.nw with h | h
      · omega
      · omega
    obtain ⟨a1, a2, a3, a4⟩ := K.lt k hk1
    obtain ⟨b1, b2⟩ := K.pp w hp
    rw [a1] at hwho
    rw [a2] at hrd
    rw [a3] at hdn
    have hold := (A1.z.old k hk1).1
    rw [hwho, Int.toNat_natCast] at hold
    have hrd1 : ((hand m j).let_ k).round = ((hand m j).who w).round := by omega
    obtain ⟨c1, c2, c3, c4⟩ := h2 k
    have hdn1 : (m.site (m.let_ k).site.toNat).down = false := by
      have e : (back fast (hand m j) j).site ((hand m j).let_ k).site.toNat = (hand m j).site ((hand m j).let_ k).site.toNat := by unfold M.site; rw [K.sites]
      rw [e, h3, c3] at hdn
      exact hdn
    rcases Nat.lt_or_ge k j with hkj | hkj
    · refine a4 ?_
      rw [c4]
      refine hs k hkj (by omega) w hwn (by rw [← hw]; exact b1) (by rw [← c1]; exact hwho) ?_ hdn1
      rw [← c2, ← hw]; exact hrd1
    · obtain rfl : k = j := by omega
      exact K.rc hk1 (h4 (by omega) hdn1)
  · have e : (back fast (hand m j) j).site s = (hand m j).site s := by unfold M.site; rw [K.sites]
    rw [e]; exact h3 s
  · unfold Q at hq ⊢
    rw [hw]; exact hq
theorem sweep_all (A : ZZ N fast np n m g) : ∀ L, ∃ g', ZZ N fast np n (run fast m (lettersL L)) g' ∧ Swept np L (run fast m (lettersL L)) ∧ SameD m (run fast m (lettersL L)) ∧ (∀ w l, 1 ≤ l → Q m w l → Q (run fast m (lettersL L)) w l) ∧ pot n (run fast m (lettersL L)) ≤ pot n m
  | 0 => ⟨g, A, fun j hj => absurd hj (Nat.not_lt_zero _), fun s => rfl, fun _ _ _ h => h, Nat.le_refl _⟩
  | L + 1 => by
    obtain ⟨g1, A1, s1, d1, q1, p1⟩ := sweep_all A L
    obtain ⟨g2, A2, s2, d2, q2, p2⟩ := sweep_one A1 s1
    have e : run fast m (lettersL (L + 1)) = back fast (hand (run fast m (lettersL L)) L) L := by
      rw [lettersL_succ, run_app]
      show act fast (act fast (run fast m (lettersL L)) ⟨2, (L : Int)⟩) ⟨3, (L : Int)⟩ = _
      rw [act2, act3]
    rw [e]
    exact ⟨g2, A2, s2, fun s => (d2 s).trans (d1 s), fun w l hl h => q2 w l hl (q1 w l hl h), Nat.le_trans p2 p1⟩
/-- Behind all letters nobody waits. -/
theorem swept_none (A : ZZ N fast np n m g) {L : Nat} (hs : Swept np L m) (hL : m.letters.length ≤ L) (hu : Up n m) : ∀ w, w < np → (m.who w).pending = false := by
  intro w hw
  cases hp : (m.who w).pending with
  | false => rfl
  | true =>
    exfalso
    obtain ⟨i, P⟩ := A.z.pend w hw hp
    have hc := A.calm w hw hp
    have hm : Most n fun s => (m.let_ (g.B w + s)).received := hu.mono fun s hs2 h => by
      obtain ⟨b1, b2, b3, _⟩ := P.bat.2 s hs2
      have hb := P.bat.1
      refine hs (g.B w + s) (by omega) (by omega) w hw hp b1 b2 ?_
      rw [b3, Int.toNat_natCast]
      simpa using h
    have := P.rep
    unfold Most at hm
    omega
theorem calls_all (A : ZZ N fast np n m g) : ∀ k, k ≤ np → ∃ g', ZZ N fast np n (run fast m (callsL k)) g' ∧ SameD m (run fast m (callsL k)) ∧ (∀ w, k ≤ w → (run fast m (callsL k)).who w = m.who w) ∧ (∀ w l, w < k → 1 ≤ l → (m.who w).program.length ≤ l → Q (run fast m (callsL k)) w l) ∧ pot n (run fast m (callsL k)) ≤ pot n m
  | 0, _ => ⟨g, A, fun s => rfl, fun _ _ => rfl, fun w l h => absurd h (Nat.not_lt_zero _), Nat.le_refl _⟩
  | k + 1, hk => by
    obtain ⟨g1, A1, d1, w1, q1, p1⟩ := calls_all A k (by omega)
    have ok1 : OkA np n ⟨1, (k : Int)⟩ := callsL_ok np n hk _ (by rw [callsL_succ]; simp)
    obtain ⟨g2, A2, _, p2⟩ := act_zz A1 ok1
    rw [act1] at A2 p2
    have e : run fast m (callsL (k + 1)) = call (run fast m (callsL k)) k := by
      rw [callsL_succ, run_app]
      show act fast (run fast m (callsL k)) ⟨1, (k : Int)⟩ = _
      rw [act1]
    rw [e]
    have hpl := A1.z.pl
    obtain ⟨c1, c2, c3, c4, c5, c6⟩ := call_who (m := run fast m (callsL k)) (w := k) (by omega)
    refine ⟨g2, A2, fun s => ?_, fun w hw => ?_, fun w l hw hl hq => ?_, Nat.le_trans p2 p1⟩
    · have : (call (run fast m (callsL k)) k).site s = (run fast m (callsL k)).site s := by unfold M.site; rw [c6]
      rw [this]; exact d1 s
    · rw [c1 w (by omega)]; exact w1 w (by omega)
    · by_cases h : w = k
      · subst h
        have hw0 := w1 w (Nat.le_refl _)
        unfold Q
        rw [c2, hw0]
        cases hpr : (m.who w).program with
        | nil => exact .inr (by simp; omega)
        | cons a r =>
          left
          refine ⟨c3 (by rw [hw0, hpr]; simp), by rw [← hpr]; exact hq⟩
      · unfold Q
        rw [c1 w h]
        exact q1 w l (by omega) hl hq
/-- One pass: each one is answered once more. -/
theorem pass_one (A : ZZ N fast np n m g) {L : Nat} (hL : pot n m ≤ L) (hu : Up n m) : ∃ g', ZZ N fast np n (run fast m (pass np L)) g' ∧ Up n (run fast m (pass np L)) ∧ (∀ w l, w < np → 1 ≤ l → (m.who w).program.length ≤ l → ((run fast m (pass np L)).who w).program.length < l) ∧ pot n (run fast m (pass np L)) ≤ L := by
  obtain ⟨g1, A1, d1, _, q1, p1⟩ := calls_all A np (Nat.le_refl _)
  obtain ⟨g2, A2, s2, d2, q2, p2⟩ := sweep_all A1 L
  have e : run fast m (pass np L) = run fast (run fast m (callsL np)) (lettersL L) := run_app ..
  rw [e]
  have hu2 : Up n (run fast (run fast m (callsL np)) (lettersL L)) := hu.mono fun s _ h => by rw [d2 s, d1 s]; exact h
  have hp : pot n (run fast (run fast m (callsL np)) (lettersL L)) ≤ L := by omega
  have none := swept_none A2 s2 (by unfold pot at hp; omega) hu2
  refine ⟨g2, A2, hu2, fun w l hw hl h => ?_, hp⟩
  rcases q2 w l hl (q1 w l hw hl h) with ⟨h1, _⟩ | h1
  · rw [none w hw] at h1; cases h1
  · exact h1
theorem pass_all (A : ZZ N fast np n m g) {L : Nat} (hL : pot n m ≤ L) (hu : Up n m) {a : Nat} (ha : ∀ w, w < np → (m.who w).program.length ≤ a) : ∀ k, k ≤ a → ∃ g', ZZ N fast np n (run fast m (passes np L k)) g' ∧ Up n (run fast m (passes np L k)) ∧ (∀ w, w < np → ((run fast m (passes np L k)).who w).program.length ≤ a - k) ∧ pot n (run fast m (passes np L k)) ≤ L
  | 0, _ => ⟨g, A, hu, ha, hL⟩
  | k + 1, hk => by
    obtain ⟨g1, A1, u1, l1, p1⟩ := pass_all A hL hu ha k (by omega)
    obtain ⟨g2, A2, u2, l2, p2⟩ := pass_one A1 p1 u1
    have e : run fast m (passes np L (k + 1)) = run fast (run fast m (passes np L k)) (pass np L) := run_app ..
    rw [e]
    refine ⟨g2, A2, u2, fun w hw => ?_, p2⟩
    have := l2 w (a - k) hw (by omega) (l1 w hw)
    omega
end
theorem sum_ge {α : Type} {f : α → Nat} : ∀ {l : List α} {x : α}, x ∈ l → f x ≤ (l.map f).sum
  | y :: l, x, h => by
    rw [List.map_cons, List.sum_cons]
    rcases List.mem_cons.1 h with rfl | h
    · omega
    · have := sum_ge (f := f) h; omega
theorem who_mem {m : M} {w : Nat} (hw : w < m.people.length) : m.who w ∈ m.people := mem_getD hw
theorem letters_eq {N : Nat} {L : Nat} (hN : L < N) (hL : L ≤ 100000) : alibkeep_letters N 0 (L : Int) = some (lettersL L) := by
  unfold alibkeep_letters
  refine Wp.eq (.seq (P := fun r => r = lettersL L) (.iter L (fun k st => st = (lettersL k, (k : Int))) hN rfl ?_ ?_) fun r _ h => .one h)
  · rintro k st hk rfl
    simp only [alibkeep_letters_L3]
    have := lettersL_len k
    refine .ck64 (by omega) (.condT (decide_eq_true (by omega)) (.ck (limB_of ⟨?_, ?_⟩) (.ck64 (by omega) (.one ?_))))
    · simp only [List.length_cons, List.length_nil]; exact Nat.le_trans (m := 300000) (by omega) (by decide)
    · simp only [List.length_cons, List.length_nil]; omega
    · show (_, _) = (_, _)
      rw [lettersL_succ]; simp
  · rintro st rfl
    simp only [alibkeep_letters_L3]
    exact .ck64 (by omega) (.condF (decide_eq_false (by omega)) (.one rfl))
theorem sum_mulB {B : Nat} : ∀ (P0 : List (List Ask)), (∀ q ∈ P0, q.length ≤ B) → (P0.map List.length).sum ≤ P0.length * B
  | [], _ => Nat.zero_le _
  | q :: r, h => by
    have h1 := sum_mulB r fun x hx => h x (List.mem_cons_of_mem _ hx)
    have h2 := h q List.mem_cons_self
    rw [List.map_cons, List.sum_cons, List.length_cons, Nat.add_mul]
    omega
theorem check_sum {N : Nat} (hN : 5000 < N) {n : Int} {people : List (List Ask)} (hl : ∀ l ∈ people, l.length < N ∧ l.length ≤ 9223372036854775807) (hq9 : ∀ q ∈ people, q.length ≤ 10000000000000) (h8 : people.length ≤ 8) {acts : List Act} (h : sites_check N n people acts = some 0) : (people.map List.length).sum ≤ 12 := by
  have hs : (people.map List.length).sum ≤ 80000000000000 := Nat.le_trans (sum_mulB people hq9) (Nat.le_trans (Nat.mul_le_mul_right _ h8) (by decide))
  unfold sites_check at h
  cases hc : (decide (n < 1) || decide (5 < n)) with
  | true => rw [hc] at h; cases h
  | false =>
    rw [hc] at h
    obtain ⟨r, hr, _⟩ := Th.check_wp hN (types := [1]) hl
    rw [cond_false, hr, bd_some] at h
    by_cases hr0 : r = 0
    rotate_left
    · rw [decide_eq_false hr0] at h
      have h : some r = some 0 := h
      cases h; exact (hr0 rfl).elim
    rw [decide_eq_true hr0] at h
    have hsum : ∀ k, ((people.take k).map List.length).sum ≤ 80000000000000 := fun k => by
      have : ((people.take k).map List.length).sum + ((people.drop k).map List.length).sum = (people.map List.length).sum := by
        rw [← List.sum_append_nat, ← List.map_append, List.take_append_drop]
      omega
    have hq : iter (sites_check_L5 N people) N (0, 0) = some (((people.map List.length).sum : Nat) : Int) := by
      refine Wp.eq (.iter people.length (fun k st => st = (((((people.take k).map List.length).sum : Nat) : Int), (k : Int))) (by omega) rfl ?_ ?_)
      · rintro k st hk rfl
        simp only [sites_check_L5]
        refine .condT (decide_eq_true (by omega)) (.ix hk (.ck64 (by omega) (.one ?_)))
        have e : ((people.take (k + 1)).map List.length).sum = ((people.take k).map List.length).sum + people[k].length := by
          rw [← List.take_append_getElem hk, List.map_append, List.sum_append_nat]; simp
        have h2 := hsum (k + 1)
        have hw : IntKind.i64.wrap ((((people.take k).map List.length).sum : Nat) + (people[k].length : Int)) = (((people.take k).map List.length).sum : Nat) + (people[k].length : Int) := by
          exact wrapI64s (by omega) (by omega)
        show (_, _) = (_, _)
        rw [hw, e]; simp
      · rintro st rfl
        simp only [sites_check_L5]
        exact .condF (decide_eq_false (by omega)) (.one (by rw [List.take_length]))
    rw [hq] at h
    rcases Nat.lt_or_ge 12 (people.map List.length).sum with h2 | h2
    · exfalso
      have e : (decide ((12 : Int) < (((people.map List.length).sum : Nat) : Int)) || decide (1000 < ((acts).length : Int))) = true := by
        rw [decide_eq_true (by omega)]; rfl
      simp only [Bool.not_true, cond_false, bd_some, e, cond_true] at h
      cases h
    · exact h2
theorem play_sum {N : Nat} (hN : 5000 < N) {n : Int} {fast : Bool} {people : List (List Ask)} (hl : ∀ l ∈ people, l.length < N ∧ l.length ≤ 9223372036854775807) (hs : ∀ q ∈ people, q.length ≤ 10000000000000) {acts : List Act} (ha : acts.length < N ∧ acts.length ≤ 9223372036854775807) {ev : List Event} {si : List Site} (h : sites_Play_1 N n fast people acts = some (ev, si, 0)) (h8 : people.length ≤ 8) : (people.map List.length).sum ≤ 12 := by
  obtain ⟨e0, _, hc⟩ := check_eq hN n hl
  have hc := hc acts ha.1 ha.2
  generalize (if e0 ≠ 0 then e0 else if ¬ acts.length ≤ 1000 then 2 else if ∀ a ∈ acts, OkA people.length n.toNat a then 0 else 1) = e at hc
  have e1 : e = 0 := by
    by_cases e1 : e = 0
    · exact e1
    · exfalso
      unfold sites_Play_1 at h
      rw [hc, bd_some, decide_eq_false e1] at h
      have h : some (([] : List Event), ([] : List Site), e) = some (ev, si, 0) := h
      cases h
      exact e1 rfl
  rw [e1] at hc
  exact check_sum hN hl hs h8 hc
end Si

end Go.Proofs.Yteklmleiiiodfaa
