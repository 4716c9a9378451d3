/- StepsAnew, plainly. -/
import Derived.Test.YtkmmagekepoapaaP10
set_option linter.unusedVariables false
set_option linter.unusedSimpArgs false
set_option linter.unusedSectionVars false
set_option maxRecDepth 100000
namespace Go.Proofs.Ytkmmagekepoapaa
open Go.RowKit
namespace Sp
open Ob Hs
theorem tot_take (P0 : List (List Ask)) {k : Nat} (hk : k < P0.length) : tot (P0.take (k + 1)) = tot (P0.take k) + P0[k].length := by
  rw [← List.take_append_getElem hk]
  unfold tot
  rw [List.map_append, List.sum_append]
  simp
theorem tot_le (P0 : List (List Ask)) : ∀ k, tot (P0.take k) ≤ tot P0 := by
  intro k
  have : tot P0 = tot (P0.take k) + tot (P0.drop k) := by
    unfold tot
    rw [← List.sum_append, ← List.map_append, List.take_append_drop]
  omega
theorem tot_mul {B : Nat} : ∀ (P0 : List (List Ask)), (∀ q ∈ P0, q.length ≤ B) → tot P0 ≤ P0.length * B
  | [], _ => Nat.zero_le _
  | q :: r, h => by
    have h1 := tot_mul r fun x hx => h x (List.mem_cons_of_mem _ hx)
    have h2 := h q List.mem_cons_self
    unfold tot at *
    rw [List.map_cons, List.sum_cons, List.length_cons, Nat.add_mul]
    omega
theorem check_tot {N : Nat} (hN : 5000 < N) {types : List Int} {P0 : List (List Ask)} (h : threads_Check N types P0 = some 0) (hb9 : ∀ q ∈ P0, q.length ≤ 10000000000000) : tot P0 ≤ 90 := by
  unfold threads_Check at h
  obtain ⟨r, hr, h⟩ := bd_inv h
  rcases cond_inv h with ⟨_, h⟩ | ⟨hc, h⟩
  · cases h
  simp only [Bool.or_eq_false_iff, decide_eq_false_iff_not] at hc
  have h8 : P0.length ≤ 8 := by omega
  have hb : tot P0 ≤ 80000000000000 := Nat.le_trans (tot_mul P0 hb9) (Nat.le_trans (Nat.mul_le_mul_right _ h8) (by decide))
  obtain ⟨n, hn, h⟩ := bd_inv h
  rcases cond_inv h with ⟨_, h⟩ | ⟨hc2, _⟩
  · cases h
  have h9 := of_decide_eq_false hc2
  obtain ⟨n', hn', e⟩ : Wp (iter (threads_Check_L17 N P0) N (0, 0)) fun n => n = (tot P0 : Int) := by
    refine .iter P0.length (fun k st => st = ((tot (P0.take k) : Int), (k : Int))) (by omega) (by simp [tot]) ?_ ?_
    · rintro k st hk rfl
      simp only [threads_Check_L17]
      refine .condT (decide_eq_true (by omega)) (.ix hk (.ck64 (by omega) (.one ?_)))
      refine Prod.ext ?_ (by simp)
      show IntKind.i64.wrap _ = ((tot (P0.take (k + 1)) : Nat) : Int)
      have h1 := tot_take P0 hk
      have h2 := tot_le P0 (k + 1)
      rw [wrap64_in _ (by omega), h1]
      omega
    · rintro st rfl
      simp only [threads_Check_L17]
      refine .condF (decide_eq_false (by omega)) (.one ?_)
      rw [List.take_length]
  rw [hn'] at hn
  cases hn
  omega
end Sp
namespace Sp
open Ob Hs
section
variable {N : Nat} {algo : Int} {P0 : List (List Ask)} {m m' : M} {w k : Nat} {out out' : List Call} {op op' : List Int}
def actN (p : P) : Nat := if p.pending = true ∧ p.complete = false then 1 else 0
/-- What was read is so still. -/
def Cs (algo : Int) (m : M) (p : P) : Prop := (algo = 1 → m.n = p.n) ∧ (algo = 3 → m.top = p.x)
inductive Rs (algo : Int) (m m' : M) (w : Nat) : Prop
  | read (q : P) (hp : m'.people = m.people.set w q) (hq : q.pending = true ∧ q.complete = false) (hc : Cs algo m' q) (hn : m'.n = m.n) (ht : m'.top = m.top) (hr : m'.restarts = m.restarts) : Rs algo m m' w
  | done (q : P) (hp : m'.people = m.people.set w q) (hq : q.complete = true) (hr : m'.restarts = m.restarts) : Rs algo m m' w
  | again (hi : (m.who w).item ≠ 1) (hc : ¬ Cs algo m (m.who w)) (h : m' = m.again w) : Rs algo m m' w
theorem rs_step (hP : OkP [tyA algo] P0) (I : Inv algo P0 k m) (h13 : algo = 1 ∨ algo = 3) (hw : w < P0.length) (ha : m.act w) : Rs algo m (stepS algo m w) w := by
  have hne := I.ne hw ha.1
  rcases h13 with h | h
  · have hkd := kd5 hP I.a hw hne (.inl h)
    unfold stepS counterS
    rw [if_pos hkd]
    split
    · exact .read _ rfl ⟨ha.1, ha.2⟩ ⟨fun _ => rfl, fun e => by omega⟩ rfl rfl rfl
    · rename_i hi
      split
      · exact .done _ rfl rfl rfl
      · rename_i hc
        exact .again hi (fun c => hc (.inr (c.1 h))) rfl
  · have n1 : algo ≠ 1 := by omega
    unfold stepS
    rcases kd3 hP I.a hw hne h with ⟨hk, _⟩ | hk
    · rw [if_neg (by omega), if_pos hk]
      unfold pushS
      split
      · exact .read _ rfl ⟨ha.1, ha.2⟩ ⟨fun e => (n1 e).elim, fun _ => rfl⟩ rfl rfl rfl
      · rename_i hi
        split
        · exact .done _ rfl rfl rfl
        · rename_i hc
          exact .again hi (fun c => hc (c.2 h)) rfl
    · rw [if_neg (by omega), if_neg (by omega), if_pos hk]
      unfold popS
      split
      · exact .done _ rfl rfl rfl
      · split
        · exact .read _ rfl ⟨ha.1, ha.2⟩ ⟨fun e => (n1 e).elim, fun _ => rfl⟩ rfl rfl rfl
        · rename_i hi
          split
          · exact .done _ rfl rfl rfl
          · rename_i hc
            exact .again hi (fun c => hc (c.2 h)) rfl
/-- How often each has begun anew, and when each has read. -/
structure G (algo : Int) (m : M) (out : List Call) (S : Nat) (r : List Nat) (v : Nat → Nat) : Prop where
  len : r.length = m.people.length
  sum : m.restarts = r.sum
  le : ∀ w, w < m.people.length → r.getD w 0 ≤ S
  at2 : ∀ w, w < m.people.length → m.act w → (m.who w).item ≠ 1 → r.getD w 0 ≤ v w ∧ v w ≤ S ∧ (v w = S → Cs algo m (m.who w))
  cnt : S + (m.people.map actN).sum ≤ out.length
theorem Cs.of (hn : m'.n = m.n) (ht : m'.top = m.top) {p : P} (h : Cs algo m p) : Cs algo m' p := ⟨fun e => by rw [hn]; exact h.1 e, fun e => by rw [ht]; exact h.2 e⟩
theorem g_trn (hP : OkP [tyA algo] P0) (I : Inv algo P0 k m) (h13 : algo = 1 ∨ algo = 3) (hw : w < P0.length) {S : Nat} {r : List Nat} {v : Nat → Nat} (g : G algo m out S r v) (M_ : Mv algo m w out op out' op') : ∃ S' r' v', G algo (trn algo m w) out' S' r' v' := by
  have hw' := I.len hw
  cases M_ with
  | same h => rw [h]; exact ⟨S, r, v, g⟩
  | call hn hne h =>
    rw [h]
    have hwho : ∀ u, (begS m w).who u = if u = w then beg (m.who w) m.nodes.length else m.who u := fun u => who_set hw'
    have hl : (begS m w).people.length = m.people.length := by show (m.people.set w _).length = _; rw [List.length_set]
    refine ⟨S, r, v, by rw [hl]; exact g.len, g.sum, fun u hu => g.le u (by omega), fun u hu hau hiu => ?_, ?_⟩
    · rw [M.act, hwho] at hau
      rw [hwho] at hiu ⊢
      by_cases e : u = w
      · subst e
        rw [if_pos rfl] at hiu
        exact (hiu rfl).elim
      · rw [if_neg e] at hau hiu ⊢
        obtain ⟨a, b, c⟩ := g.at2 u (by omega) hau hiu
        exact ⟨a, b, fun e => (c e).of rfl rfl⟩
    · have hs := sum_people actN hw' (beg (m.who w) m.nodes.length)
      have h1 : actN (m.who w) = 0 := by unfold actN; rw [hn]; simp
      have h2 : actN (beg (m.who w) m.nodes.length) = 1 := by unfold actN beg; simp
      have := g.cnt
      show S + ((m.people.set w _).map actN).sum ≤ _
      simp only [List.length_append, List.length_singleton]
      omega
  | step ha h =>
    rw [h]
    have a1 : actN (m.who w) = 1 := by unfold actN; rw [if_pos (show (m.who w).pending = true ∧ (m.who w).complete = false from ha)]
    cases rs_step hP I h13 hw ha with
    | read q hp hq hc hn ht hr =>
      have hwho := who_of (m := m) (m' := stepS algo m w) hw' hp
      have hl : (stepS algo m w).people.length = m.people.length := stepS_len
      refine ⟨S, r, fun u => if u = w then S else v u, by rw [hl]; exact g.len, by rw [hr]; exact g.sum, fun u hu => g.le u (by omega), fun u hu hau hiu => ?_, ?_⟩
      · rw [M.act, hwho] at hau
        rw [hwho] at hiu ⊢
        by_cases e : u = w
        · subst e
          rw [if_pos rfl]
          simp only [if_true]
          exact ⟨g.le u (by omega), Nat.le_refl _, fun _ => hc⟩
        · rw [if_neg e] at hau hiu ⊢
          simp only [if_neg e]
          obtain ⟨a, b, c⟩ := g.at2 u (by omega) hau hiu
          exact ⟨a, b, fun e => (c e).of hn ht⟩
      · rw [hp]
        have hs := sum_people actN hw' q
        have h2 : actN q = 1 := by unfold actN; rw [if_pos hq]
        have := g.cnt
        omega
    | done q hp hq hr =>
      have hwho := who_of (m := m) (m' := stepS algo m w) hw' hp
      have hl : (stepS algo m w).people.length = m.people.length := stepS_len
      refine ⟨S + 1, r, v, by rw [hl]; exact g.len, by rw [hr]; exact g.sum, fun u hu => Nat.le_succ_of_le (g.le u (by omega)), fun u hu hau hiu => ?_, ?_⟩
      · rw [M.act, hwho] at hau
        rw [hwho] at hiu ⊢
        by_cases e : u = w
        · subst e
          rw [if_pos rfl] at hau
          have := hau.2
          rw [hq] at this; cases this
        · rw [if_neg e] at hau hiu ⊢
          obtain ⟨a, b, c⟩ := g.at2 u (by omega) hau hiu
          exact ⟨a, by omega, fun e => by omega⟩
      · rw [hp]
        have hs := sum_people actN hw' q
        have h2 : actN q = 0 := by unfold actN; rw [hq]; simp
        have := g.cnt
        omega
    | again hi hc h2 =>
      rw [h2]
      have hwho : ∀ u, (m.again w).who u = if u = w then at1 (m.who w) else m.who u := fun u => who_set hw'
      have hl : (m.again w).people.length = m.people.length := by show (m.people.set w _).length = _; rw [List.length_set]
      obtain ⟨a, b, c⟩ := g.at2 w hw' ha hi
      have hlt : v w < S := by
        rcases Nat.lt_or_ge (v w) S with h | h
        · exact h
        · exact (hc (c (by omega))).elim
      have hwr : w < r.length := by rw [g.len]; exact hw'
      have hset : ∀ u, (r.set w (r.getD w 0 + 1)).getD u 0 = if u = w then r.getD w 0 + 1 else r.getD u 0 := fun u => by
        simp only [List.getD_eq_getElem?_getD]
        by_cases e : u = w
        · subst e; rw [if_pos rfl]; simp [hwr]
        · rw [if_neg e, List.getElem?_set_ne (fun e2 => e e2.symm)]
      refine ⟨S, r.set w (r.getD w 0 + 1), v, by rw [hl, List.length_set]; exact g.len, ?_, fun u hu => ?_, fun u hu hau hiu => ?_, ?_⟩
      · show m.restarts + 1 = _
        have := sum_set (l := r) (i := w) (a := r.getD w 0 + 1) hwr
        rw [g.sum]
        rw [getD_of hwr] at this ⊢
        omega
      · rw [hset]
        split
        · omega
        · exact g.le u (by omega)
      · rw [M.act, hwho] at hau
        rw [hwho] at hiu ⊢
        by_cases e : u = w
        · subst e
          rw [if_pos rfl] at hiu
          exact (hiu rfl).elim
        · rw [if_neg e] at hau hiu ⊢
          rw [hset, if_neg e]
          obtain ⟨a, b, c⟩ := g.at2 u (by omega) hau hiu
          exact ⟨a, b, fun e => (c e).of rfl rfl⟩
      · have hs := sum_people actN hw' (at1 (m.who w))
        have h2 : actN (at1 (m.who w)) = 1 := by unfold actN; rw [if_pos (show (at1 (m.who w)).pending = true ∧ (at1 (m.who w)).complete = false from ha)]
        have := g.cnt
        show S + ((m.people.set w _).map actN).sum ≤ _
        omega
  | ans i hn hc hi ho h =>
    rw [h]
    have hwho : ∀ u, (ansS m w).who u = if u = w then ans (m.who w) else m.who u := fun u => who_set hw'
    have hl : (ansS m w).people.length = m.people.length := by show (m.people.set w _).length = _; rw [List.length_set]
    refine ⟨S, r, v, by rw [hl]; exact g.len, g.sum, fun u hu => g.le u (by omega), fun u hu hau hiu => ?_, ?_⟩
    · rw [M.act, hwho] at hau
      rw [hwho] at hiu ⊢
      by_cases e : u = w
      · subst e
        rw [if_pos rfl] at hau
        cases hau.1
      · rw [if_neg e] at hau hiu ⊢
        obtain ⟨a, b, c⟩ := g.at2 u (by omega) hau hiu
        exact ⟨a, b, fun e => (c e).of rfl rfl⟩
    · have hs := sum_people actN hw' (ans (m.who w))
      have h1 : actN (m.who w) = 0 := by unfold actN; rw [hc]; simp
      have h2 : actN (ans (m.who w)) = 0 := by unfold actN ans; simp
      have := g.cnt
      show S + ((m.people.set w _).map actN).sum ≤ _
      simp only [List.length_set]
      omega
theorem g0 : G algo (m0 P0) [] 0 (List.replicate P0.length 0) (fun _ => 0) := by
  refine ⟨by simp [m0], by simp [m0], fun w hw => ?_, fun w hw ha => ?_, ?_⟩
  · rw [List.getD_eq_getElem?_getD, List.getElem?_replicate]
    split <;> simp
  · have := ha.1
    rw [m0_pend] at this
    cases this
  · have : ∀ l : List (List Ask), ((l.map fun l => (⟨l, false, false, 0, 0, 0, -1, -1, -1, -1⟩ : P)).map actN).sum = 0 := by
      intro l
      induction l with
      | nil => rfl
      | cons a l ih => simpa [actN] using ih
    show 0 + ((P0.map _).map actN).sum ≤ 0
    rw [this]; exact Nat.le_refl _
theorem grun (hP : OkP [tyA algo] P0) (h13 : algo = 1 ∨ algo = 3) : ∀ {turns : List Int} {k : Nat} {m : M} {out : List Call} {op : List Int} {S : Nat} {r : List Nat} {v : Nat → Nat}, Inv algo P0 k m → H N (tyA algo) P0 m out op → G algo m out S r v → (∀ t ∈ turns, 0 ≤ t ∧ t < P0.length) → k + turns.length ≤ 1000 → ∃ out' op' S' r' v', H N (tyA algo) P0 (runM algo m turns) out' op' ∧ G algo (runM algo m turns) out' S' r' v'
  | [], _, m, out, op, S, r, v, _, h, g, _, _ => ⟨out, op, S, r, v, h, g⟩
  | t :: turns, k, m, out, op, S, r, v, I, h, g, ht, hk => by
    have hw : t.toNat < P0.length := by have := ht t (.head _); omega
    have hk' : k + (turns.length + 1) ≤ 1000 := hk
    obtain ⟨out', op', mv, h'⟩ := turn_mv hP I (by omega) h hw
    obtain ⟨S', r', v', g'⟩ := g_trn hP I h13 hw g mv
    exact grun hP h13 (turns := turns) (I.trn hP hw) h' g' (fun x hx => ht x (.tail _ hx)) (by omega)
theorem sum_le : ∀ {r : List Nat} {S : Nat}, (∀ w, w < r.length → r.getD w 0 ≤ S) → r.sum ≤ r.length * S
  | [], _, _ => by simp
  | a :: r, S, h => by
    have h1 := h 0 (by simp)
    have h2 := sum_le (r := r) (S := S) fun w hw => h (w + 1) (by simpa using hw)
    simp only [List.sum_cons, List.length_cons, Nat.add_mul, Nat.one_mul]
    have h1 : a ≤ S := h1
    omega
/-- The naive one never begins anew. -/
theorem naive_trn (hP : OkP [tyA 2] P0) (I : Inv 2 P0 k m) (hw : w < P0.length) : (trn 2 m w).restarts = m.restarts := by
  unfold trn
  split
  · split <;> rfl
  · rename_i hp
    split
    · rfl
    · rename_i hc
      have hkd := kd5 hP I.a hw (I.ne hw (by simpa using hp)) (.inr rfl)
      unfold stepS counterS
      rw [if_pos hkd]
      split
      · rfl
      · rw [if_pos (.inl rfl)]; rfl
theorem naive_run (hP : OkP [tyA 2] P0) : ∀ {turns : List Int} {k : Nat} {m : M}, Inv 2 P0 k m → (∀ t ∈ turns, 0 ≤ t ∧ t < P0.length) → (runM 2 m turns).restarts = m.restarts
  | [], _, _, _, _ => rfl
  | t :: turns, k, m, I, ht => by
    have hw : t.toNat < P0.length := by have := ht t (.head _); omega
    have := naive_run hP (turns := turns) (I.trn hP hw) fun x hx => ht x (.tail _ hx)
    rw [naive_trn hP I hw] at this
    exact this
theorem types_ok {T : Int} (h : threads_Check N [T] P0 = some 0) : history_Types N [T] = some 0 := by
  unfold threads_Check at h
  obtain ⟨r, hr, h⟩ := bd_inv h
  rcases cond_inv h with ⟨_, h⟩ | ⟨hc, _⟩
  · cases h
  simp only [Bool.or_eq_false_iff, Bool.not_eq_false', decide_eq_true_eq] at hc
  rw [hr, hc.1]
theorem lives : alibkeep_stepsLives 18446744073709551616 = some true := by kernel_rfl
theorem anewLaw (hN : 5000 < N) (hL : alibkeep_stepsLives N = some true) (algo : Int) (P0 : List (List Ask)) (turns : List Int) (hl : ∀ l ∈ P0, l.length < N ∧ l.length ≤ 9223372036854775807) (hb : ∀ q ∈ P0, q.length ≤ 10000000000000) : alibkeep_StepsAnew N algo P0 turns = some true := by
  refine Wp.eq ?_
  unfold alibkeep_StepsAnew
  refine .seq (play_wp hN hl turns) fun r _ hr => .bdO hL (.cond (fun _ => .bdO hL (.one rfl)) fun hc => ?_)
  simp only [Bool.or_eq_false_iff, Bool.not_eq_false', decide_eq_true_eq, decide_eq_false_iff_not, Bool.not_true] at hc
  obtain ⟨⟨_, h0⟩, h4⟩ := hc
  obtain ⟨hP, hck, hT, rfl⟩ : OkP [tyA algo] P0 ∧ threads_Check N [tyA algo] P0 = some 0 ∧ (turns.length ≤ 300 ∧ ∀ t ∈ turns, 0 ≤ t ∧ t < P0.length) ∧ r = ((runM algo (m0 P0) turns).events, (runM algo (m0 P0) turns).restarts, 0) := by
    rcases hr with ⟨h, _⟩ | h
    · exact (h h0).elim
    · exact h
  have ht := check_tot hN hck hb
  have h8 := hP.few
  refine .bdO (type_eq N algo) ?_
  by_cases h2 : algo = 2
  · subst h2
    obtain ⟨out, op, h⟩ := hrun (N := N) hP inv0 Sp.h0 hT.2 (by omega)
    obtain ⟨l1, l2⟩ := ev_len h
    have hnr := naive_run hP inv0 hT.2
    refine .bdO (calls_of (by omega) (types_ok hck) (show (runM 2 (m0 P0) turns).events.length ≤ 200 by omega) h.rn) (.condT rfl (.one ?_))
    rw [hnr]
    rfl
  · have h13 : algo = 1 ∨ algo = 3 := by
      rcases ty_cases hP with h | h | h | h
      · exact .inl h
      · exact (h2 h).elim
      · exact .inr h
      · exact (h4 h).elim
    obtain ⟨out, op, S, r, v, h, g⟩ := grun (N := N) hP h13 inv0 Sp.h0 g0 hT.2 (by omega)
    obtain ⟨l1, l2⟩ := ev_len h
    refine .bdO (calls_of (by omega) (types_ok hck) (show (runM algo (m0 P0) turns).events.length ≤ 200 by omega) h.rn) (.condF (decide_eq_false h2) ?_)
    have hpl := (run_ok hP (inv0 (algo := algo)) hT.2).b.pl
    generalize runM algo (m0 P0) turns = x at *
    have hsum : r.sum ≤ P0.length * out.length := by
      have h1 := sum_le (r := r) (S := S) fun w hw => g.le w (by rw [← g.len]; exact hw)
      rw [g.len, hpl] at h1
      exact Nat.le_trans h1 (Nat.mul_le_mul_left _ (by have := g.cnt; omega))
    have hmul : P0.length * out.length ≤ 8 * 90 := Nat.mul_le_mul h8 (by omega)
    have hcast : ((P0.length : Int) * (out.length : Int)) = ((P0.length * out.length : Nat) : Int) := by simp
    refine .ck ?_ (.one ?_)
    · rw [ok64_of (by simp only; rw [hcast]; omega)]; simp
    · simp only
      rw [g.sum, hcast, decide_eq_true (by omega : ((r.sum : Nat) : Int) ≤ ((P0.length * out.length : Nat) : Int))]
      rfl
end
end Sp

end Go.Proofs.Ytkmmagekepoapaa
