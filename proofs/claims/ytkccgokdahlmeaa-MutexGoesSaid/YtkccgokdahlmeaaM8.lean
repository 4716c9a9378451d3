/- MutexGoes, plainly. -/
import Derived.Test.YtkccgokdahlmeaaM7
set_option linter.unusedVariables false
set_option linter.unusedSimpArgs false
set_option linter.unusedSectionVars false
set_option maxRecDepth 100000
namespace Go.Proofs.Ytkccgokdahlmeaa
open Go.RowKit
namespace Mx
def sumN (n : Nat) (f : Nat → Int) : Int := match n with
  | 0 => 0
  | n + 1 => sumN n f + f n
theorem sumN_cong {f g : Nat → Int} : ∀ {n : Nat}, (∀ i, i < n → f i = g i) → sumN n f = sumN n g
  | 0, _ => rfl
  | n + 1, h => by
    unfold sumN
    rw [sumN_cong fun i hi => h i (by omega), h n (by omega)]
theorem sumN_upd {f : Nat → Int} {w : Nat} {v : Int} : ∀ {n : Nat}, w < n → sumN n (upd f w v) = sumN n f - f w + v
  | 0, h => absurd h (Nat.not_lt_zero _)
  | n + 1, h => by
    unfold sumN
    by_cases e : w = n
    · subst e
      rw [sumN_cong (g := f) fun i hi => by unfold upd; rw [if_neg (by omega)]]
      have : upd f w v w = v := by unfold upd; rw [if_pos rfl]
      omega
    · rw [sumN_upd (by omega)]
      have : upd f w v n = f n := by unfold upd; rw [if_neg (by omega)]
      omega
theorem sumN_nn {f : Nat → Int} : ∀ {n : Nat}, (∀ i, i < n → 0 ≤ f i) → 0 ≤ sumN n f
  | 0, _ => Int.le_refl _
  | n + 1, h => by
    unfold sumN
    have := sumN_nn (n := n) fun i hi => h i (by omega)
    have := h n (by omega)
    omega
theorem sumN_zero {f : Nat → Int} : ∀ {n : Nat}, (∀ i, i < n → 0 ≤ f i) → sumN n f ≤ 0 → ∀ i, i < n → f i = 0
  | 0, _, _, i, hi => absurd hi (Nat.not_lt_zero _)
  | n + 1, h, h0, i, hi => by
    unfold sumN at h0
    have h1 := sumN_nn (n := n) fun i hi => h i (by omega)
    have h2 := h n (by omega)
    by_cases e : i = n
    · subst e; omega
    · exact sumN_zero (n := n) (fun i hi => h i (by omega)) (by omega) i (by omega)
theorem sumN_const {c : Int} : ∀ n : Nat, sumN n (fun _ => c) = n * c
  | 0 => by simp [sumN]
  | n + 1 => by unfold sumN; rw [sumN_const n, Int.natCast_add, Int.add_mul]; simp
/-- How far one is. -/
def prog (algo : Int) (n i : Nat) (p : MutexProcess) : Int :=
  if algo = 2 then
    if p.step ≤ 2 then p.step
    else if p.step ≤ 4 then p.step + 2 * (if (i : Int) < p.k then p.k - 1 else p.k)
    else p.step - 2 + 2 * ((n : Int) - 1)
  else p.step
def rem (algo : Int) (n i : Nat) (p : MutexProcess) : Int := 12 * p.left - prog algo n i p
/-- Gates since one's begin. -/
def gc (algo step : Int) : Int :=
  if algo = 1 then (if 3 ≤ step then step - 2 else 0) else if algo = 2 then (if 6 ≤ step then step - 5 else 0) else (if 2 ≤ step then step - 1 else 0)
def gt (algo turns : Int) (p : MutexProcess) : Int := 2 * (turns - p.left) + gc algo p.step
def Phi (algo : Int) (n : Nat) (s : Sm) : Int := sumN n fun i => rem algo n i (pr s i)
structure Lv (algo : Int) (n : Nat) (turns : Int) (s : Sm) : Prop where
  len : s.1.length = n
  zero : ∀ i, i < n → 0 ≤ (pr s i).left ∧ ((pr s i).left = 0 → (pr s i).step = 0)
  cnt : (s.2.2.2.2.length : Int) = sumN n fun i => gt algo turns (pr s i)
theorem fun_upd {s : Sm} {w : Nat} {p : MutexProcess} {r : Int × Int × Int × List Gate} (hw : w < s.1.length) (F : Nat → MutexProcess → Int) : (fun i => F i (pr (s.1.set w p, r) i)) = upd (fun i => F i (pr s i)) w (F w p) := by
  funext i
  rw [pr_set hw]
  unfold upd
  split
  · rename_i h; rw [h]
  · rfl
theorem ph_upd {algo : Int} {n : Nat} {s : Sm} {w : Nat} {p : MutexProcess} {r : Int × Int × Int × List Gate} (hw : w < s.1.length) (hn : w < n) : Phi algo n (s.1.set w p, r) = Phi algo n s - rem algo n w (pr s w) + rem algo n w p := by
  unfold Phi
  rw [fun_upd hw (fun i p => rem algo n i p), sumN_upd hn]
theorem lv_upd {algo : Int} {n : Nat} {turns : Int} {s : Sm} (L : Lv algo n turns s) {w : Nat} (hn : w < n) {p : MutexProcess} {r : Int × Int × Int × List Gate} (h0 : 0 ≤ p.left) (h1 : p.left = 0 → p.step = 0)
    (h2 : (r.2.2.2.length : Int) = s.2.2.2.2.length - gt algo turns (pr s w) + gt algo turns p) : Lv algo n turns (s.1.set w p, r) := by
  have hl := L.len
  refine ⟨by simpa using hl, fun i hi => ?_, ?_⟩
  · rw [pr_set (by omega)]
    split
    · exact ⟨h0, h1⟩
    · exact L.zero i hi
  · simp only
    rw [fun_upd (by omega) (fun _ p => gt algo turns p), sumN_upd hn, ← L.cnt, h2]
/-- One goes on, or waits. -/
def Goes (algo : Int) (n : Nat) (turns : Int) (s s' : Sm) (B : Prop) : Prop := (s' = s ∧ B) ∨ (Phi algo n s' < Phi algo n s ∧ Lv algo n turns s')
theorem goes_upd {algo : Int} {n : Nat} {turns : Int} {s : Sm} {B : Prop} (L : Lv algo n turns s) {w : Nat} (hn : w < n) {p : MutexProcess} {r : Int × Int × Int × List Gate} (h0 : 0 ≤ p.left) (h1 : p.left = 0 → p.step = 0)
    (h2 : (r.2.2.2.length : Int) = s.2.2.2.2.length - gt algo turns (pr s w) + gt algo turns p) (h3 : rem algo n w p < rem algo n w (pr s w)) : Goes algo n turns s (s.1.set w p, r) B := by
  refine .inr ⟨?_, lv_upd L hn h0 h1 h2⟩
  rw [ph_upd (by rw [L.len]; exact hn) hn]
  omega
theorem pet_goes {turns : Int} {s : Sm} {ins : Option Nat} (L : Lv 1 2 turns s) (J : JP (stF s) (flF s) s.2.1 ins) {w : Nat} (hw : w < 2) (hl : (pr s w).left ≠ 0) :
    Goes 1 2 turns s (petF s w) ((pr s w).step = 2 ∧ (pr s (1 - w)).flag = true ∧ s.2.1 ≠ w) := by
  have z := L.zero w hw; have st := J.bst w hw
  simp only [stF] at st
  unfold petF
  repeat' split
  · refine goes_upd L hw z.1 (fun h => (hl h).elim) ?_ ?_ <;> simp only [gt, gc, rem, prog, if_true, if_false] <;> (try simp) <;> omega
  · refine goes_upd L hw z.1 (fun h => (hl h).elim) ?_ ?_ <;> simp only [gt, gc, rem, prog, if_true, if_false] <;> (try simp) <;> omega
  · exact .inl ⟨rfl, by assumption, by assumption⟩
  · refine goes_upd L hw z.1 (fun h => (hl h).elim) ?_ ?_ <;> simp only [gt, gc, rem, prog, if_true, if_false] <;> (try simp) <;> omega
  · refine goes_upd L hw z.1 (fun h => (hl h).elim) ?_ ?_ <;> simp only [gt, gc, rem, prog, if_true, if_false] <;> (try simp) <;> omega
  · refine goes_upd L hw (by simp only; omega) (fun _ => rfl) ?_ ?_ <;> simp only [gt, gc, rem, prog, if_true, if_false] <;> (try simp) <;> omega
theorem sw_goes {n : Nat} {turns : Int} {s : Sm} {ins : Option Nat} (L : Lv 4 n turns s) (J : JS n (stF s) s.2.1 ins) {w : Nat} (hw : w < n) (hl : (pr s w).left ≠ 0) :
    Goes 4 n turns s (swF s w) ((pr s w).step = 0 ∧ s.2.1 ≠ 0) := by
  have z := L.zero w hw; have st := J.bst w hw
  simp only [stF] at st
  unfold swF
  repeat' split
  · exact .inl ⟨rfl, by assumption, by assumption⟩
  · refine goes_upd L hw z.1 (fun h => (hl h).elim) ?_ ?_ <;> simp only [gt, gc, rem, prog, if_true, if_false] <;> (try simp) <;> omega
  · refine goes_upd L hw z.1 (fun h => (hl h).elim) ?_ ?_ <;> simp only [gt, gc, rem, prog, if_true, if_false] <;> (try simp) <;> omega
  · refine goes_upd L hw z.1 (fun h => (hl h).elim) ?_ ?_ <;> simp only [gt, gc, rem, prog, if_true, if_false] <;> (try simp) <;> omega
  · refine goes_upd L hw (by simp only; omega) (fun _ => rfl) ?_ ?_ <;> simp only [gt, gc, rem, prog, if_true, if_false] <;> (try simp) <;> omega
theorem bak_goes {n : Nat} (hn4 : n ≤ 4) {turns : Int} {s : Sm} {ins : Option Nat} (L : Lv 2 n turns s) (J : JB n (stF s) (nuF s) (kF s) (flF s) ins) {w : Nat} (hw : w < n) (hl : (pr s w).left ≠ 0) :
    Goes 2 n turns s (bakF s w) (((pr s w).step = 3 ∧ (pr s (pr s w).k.toNat).flag = true) ∨ ((pr s w).step = 4 ∧ (pr s (pr s w).k.toNat).number ≠ 0 ∧ ((pr s (pr s w).k.toNat).number < (pr s w).number ∨ (pr s (pr s w).k.toNat).number = (pr s w).number ∧ (pr s w).k < w))) := by
  have z := L.zero w hw; have st := J.bst w hw; have kk := J.kk w hw; have hlen := L.len
  simp only [stF, kF] at st kk
  have x1 := nxt_le 0 w; have x2 := nxt_le ((pr s w).k + 1) w
  unfold bakF
  repeat' split
  · refine goes_upd L hw z.1 (fun h => (hl h).elim) ?_ ?_ <;> simp only [gt, gc, rem, prog] <;> (try simp) <;> (repeat' split) <;> omega
  · refine goes_upd L hw z.1 (fun h => (hl h).elim) ?_ ?_ <;> simp only [gt, gc, rem, prog] <;> (try simp) <;> (repeat' split) <;> omega
  · refine goes_upd L hw z.1 (fun h => (hl h).elim) ?_ ?_ <;> simp only [gt, gc, rem, prog] <;> (try simp) <;> (repeat' split) <;> omega
  · refine goes_upd L hw z.1 (fun h => (hl h).elim) ?_ ?_ <;> simp only [gt, gc, rem, prog] <;> (try simp) <;> (repeat' split) <;> omega
  · exact .inl ⟨rfl, .inl ⟨by assumption, by assumption⟩⟩
  · refine goes_upd L hw z.1 (fun h => (hl h).elim) ?_ ?_ <;> simp only [gt, gc, rem, prog] <;> (try simp) <;> (repeat' split) <;> omega
  · exact .inl ⟨rfl, .inr ⟨by assumption, by assumption⟩⟩
  · have kk := kk (by omega)
    refine goes_upd L hw z.1 (fun h => (hl h).elim) ?_ ?_ <;> simp only [gt, gc, rem, prog] <;> (try simp) <;> (repeat' split) <;> omega
  · have kk := kk (by omega)
    refine goes_upd L hw z.1 (fun h => (hl h).elim) ?_ ?_ <;> simp only [gt, gc, rem, prog] <;> (try simp) <;> (repeat' split) <;> omega
  · refine goes_upd L hw z.1 (fun h => (hl h).elim) ?_ ?_ <;> simp only [gt, gc, rem, prog] <;> (try simp) <;> (repeat' split) <;> omega
  · refine goes_upd L hw z.1 (fun h => (hl h).elim) ?_ ?_ <;> simp only [gt, gc, rem, prog] <;> (try simp) <;> (repeat' split) <;> omega
  · refine goes_upd L hw (by simp only; omega) (fun _ => rfl) ?_ ?_ <;> simp only [gt, gc, rem, prog] <;> (try simp) <;> (repeat' split) <;> omega
/-- Who waits. -/
def Waits (algo : Int) (s : Sm) (w : Nat) : Prop :=
  (pr s w).left = 0 ∨ (algo = 1 ∧ (pr s w).step = 2 ∧ (pr s (1 - w)).flag = true ∧ s.2.1 ≠ w) ∨
  (algo = 2 ∧ (((pr s w).step = 3 ∧ (pr s (pr s w).k.toNat).flag = true) ∨ ((pr s w).step = 4 ∧ (pr s (pr s w).k.toNat).number ≠ 0 ∧ ((pr s (pr s w).k.toNat).number < (pr s w).number ∨ (pr s (pr s w).k.toNat).number = (pr s w).number ∧ (pr s w).k < w)))) ∨
  (algo = 4 ∧ (pr s w).step = 0 ∧ s.2.1 ≠ 0)
theorem goes {algo : Int} {n : Nat} (hn4 : n ≤ 4) {turns : Int} {s : Sm} (L : Lv algo n turns s) (S : Safe algo n s) {w : Nat} (hw : w < n) : Goes algo n turns s (stepF algo s w) (Waits algo s w) := by
  obtain ⟨ins, -, h⟩ := S
  unfold stepF Waits
  by_cases h0 : (pr s w).left = 0
  · rw [if_pos h0]; exact .inl ⟨rfl, .inl h0⟩
  rw [if_neg h0]
  rcases h with ⟨rfl, rfl, J⟩ | ⟨rfl, J⟩ | ⟨rfl, J⟩
  · rw [if_pos rfl]
    exact (pet_goes L J hw h0).imp (fun h => ⟨h.1, .inr (.inl ⟨rfl, h.2⟩)⟩) id
  · rw [if_neg (by decide), if_pos rfl]
    exact (bak_goes hn4 L J hw h0).imp (fun h => ⟨h.1, .inr (.inr (.inl ⟨rfl, h.2⟩))⟩) id
  · rw [if_neg (by decide), if_neg (by decide), if_neg (by decide)]
    exact (sw_goes L J hw h0).imp (fun h => ⟨h.1, .inr (.inr (.inr ⟨rfl, h.2⟩))⟩) id
/-- The least of them that satisfy something. -/
theorem least (P : Nat → Prop) (f : Nat → Nat) : ∀ m, (∃ i, P i ∧ f i ≤ m) → ∃ i, P i ∧ ∀ j, P j → f i ≤ f j
  | 0, ⟨i, h1, h2⟩ => ⟨i, h1, fun j _ => by omega⟩
  | m + 1, ⟨i, h1, h2⟩ => by
    by_cases h : ∃ j, P j ∧ f j ≤ m
    · exact least P f m h
    · exact ⟨i, h1, fun j hj => by
        have : ¬ f j ≤ m := fun h' => h ⟨j, hj, h'⟩
        omega⟩
/-- All wait: all is done. -/
theorem stuck {algo : Int} {n : Nat} {turns : Int} {s : Sm} (hn4 : n ≤ 4) (L : Lv algo n turns s) (S : Safe algo n s) (h : ∀ w, w < n → Waits algo s w) : ∀ w, w < n → (pr s w).left = 0 := by
  obtain ⟨ins, -, hS⟩ := S
  rcases hS with ⟨rfl, rfl, J⟩ | ⟨rfl, J⟩ | ⟨rfl, J⟩
  · -- Peterson
    have key : ∀ w, w < 2 → (pr s w).left ≠ 0 → (pr s w).step = 2 ∧ (pr s (1 - w)).flag = true ∧ s.2.1 ≠ w := by
      intro w hw hl
      rcases h w hw with h | h | h | h
      · exact (hl h).elim
      · exact h.2
      · exact absurd h.1 (by decide)
      · exact absurd h.1 (by decide)
    intro w hw
    rcases Int.lt_trichotomy (pr s w).left 0 with h1 | h1 | h1
    · have := (L.zero w hw).1; omega
    · exact h1
    · obtain ⟨k1, k2, k3⟩ := key w hw (by omega)
      have hf := (J.bfl (1 - w) (by omega)).1 k2
      have hz := (L.zero (1 - w) (by omega)).2
      have hl2 : (pr s (1 - w)).left ≠ 0 := fun h => hf (hz h)
      obtain ⟨m1, m2, m3⟩ := key (1 - w) (by omega) hl2
      have := J.tt
      omega
  · -- the bakery
    have key : ∀ w, w < n → (pr s w).left ≠ 0 → (((pr s w).step = 3 ∧ (pr s (pr s w).k.toNat).flag = true) ∨ ((pr s w).step = 4 ∧ (pr s (pr s w).k.toNat).number ≠ 0 ∧ ((pr s (pr s w).k.toNat).number < (pr s w).number ∨ (pr s (pr s w).k.toNat).number = (pr s w).number ∧ (pr s w).k < w))) := by
      intro w hw hl
      rcases h w hw with h | h | h | h
      · exact (hl h).elim
      · exact absurd h.1 (by decide)
      · exact h.2
      · exact absurd h.1 (by decide)
    have live : ∀ w, w < n → (pr s w).step ≠ 0 → (pr s w).left ≠ 0 := fun w hw hs hl => hs ((L.zero w hw).2 hl)
    have no3 : ∀ w, w < n → (pr s w).left ≠ 0 → (pr s w).step = 4 ∧ (pr s (pr s w).k.toNat).number ≠ 0 ∧ ((pr s (pr s w).k.toNat).number < (pr s w).number ∨ (pr s (pr s w).k.toNat).number = (pr s w).number ∧ (pr s w).k < w) := by
      intro w hw hl
      rcases key w hw hl with ⟨h1, h2⟩ | h1
      · have kk := J.kk w hw (.inl h1)
        simp only [kF] at kk
        have hf := (J.bfl (pr s w).k.toNat (by omega)).1 h2
        simp only [stF] at hf
        have := key (pr s w).k.toNat (by omega) (live _ (by omega) (by omega))
        omega
      · exact h1
    intro w hw
    rcases Int.lt_trichotomy (pr s w).left 0 with h1 | h1 | h1
    · have := (L.zero w hw).1; omega
    · exact h1
    · obtain ⟨i, ⟨hi, hil⟩, hmin⟩ := least (fun i => i < n ∧ (pr s i).left ≠ 0) (fun i => 4 * (pr s i).number.toNat + i) _ ⟨w, ⟨hw, by omega⟩, Nat.le_refl _⟩
      obtain ⟨a1, a2, a3⟩ := no3 i hi hil
      have kk := J.kk i hi (.inr a1)
      simp only [kF] at kk
      have nk := J.bnu (pr s i).k.toNat (by omega)
      have ni := J.bnu i hi
      simp only [nuF, stF] at nk ni
      have := hmin (pr s i).k.toNat ⟨by omega, live _ (by omega) (by omega)⟩
      omega
  · -- swap
    have key : ∀ w, w < n → (pr s w).left ≠ 0 → (pr s w).step = 0 ∧ s.2.1 ≠ 0 := by
      intro w hw hl
      rcases h w hw with h | h | h | h
      · exact (hl h).elim
      · exact absurd h.1 (by decide)
      · exact absurd h.1 (by decide)
      · exact h.2
    intro w hw
    rcases Int.lt_trichotomy (pr s w).left 0 with h1 | h1 | h1
    · have := (L.zero w hw).1; omega
    · exact h1
    · obtain ⟨k1, k2⟩ := key w hw (by omega)
      obtain ⟨i, hi, hs⟩ := J.some_ k2
      simp only [stF] at hs
      exact (hs (key i hi fun hl => hs ((L.zero i hi).2 hl)).1).elim
theorem lv_init {algo : Int} (ha : 1 ≤ algo ∧ algo ≤ 4) {n : Nat} {turns : Int} (ht : 0 ≤ turns) : Lv algo n turns (init n turns) := by
  refine ⟨by simp [init], fun i hi => ?_, ?_⟩
  · rw [pr_init hi]; exact ⟨ht, fun _ => rfl⟩
  · rw [sumN_cong (g := fun _ => 0) fun i hi => ?_, sumN_const]
    · simp [init]
    · rw [pr_init hi]; simp only [gt, gc]; (repeat' split) <;> omega
theorem ph_init {algo : Int} {n : Nat} {turns : Int} : Phi algo n (init n turns) = n * (12 * turns) := by
  unfold Phi
  rw [sumN_cong (g := fun _ => 12 * turns) fun i hi => ?_, sumN_const]
  rw [pr_init hi]; simp only [rem, prog]; (repeat' split) <;> omega
def rng (n : Nat) : List Int := (List.range n).map fun (i : Nat) => (i : Int)
/-- What is kept all along. -/
structure Al (algo : Int) (n : Nat) (turns : Int) (s : Sm) : Prop where
  lv : Lv algo n turns s
  safe : Safe algo n s
theorem Al.step {algo : Int} {n : Nat} (hn4 : n ≤ 4) {turns : Int} {s : Sm} (A : Al algo n turns s) {w : Nat} (hw : w < n) : Al algo n turns (stepF algo s w) ∧ Phi algo n (stepF algo s w) ≤ Phi algo n s ∧ ((stepF algo s w = s ∧ Waits algo s w) ∨ Phi algo n (stepF algo s w) < Phi algo n s) := by
  have hs := safe_step A.lv.len A.safe hw
  rcases goes hn4 A.lv A.safe hw with ⟨h1, h2⟩ | ⟨h1, h2⟩
  · exact ⟨by rw [h1]; exact A, by rw [h1]; exact Int.le_refl _, .inl ⟨h1, h2⟩⟩
  · exact ⟨⟨h2, hs⟩, by omega, .inr h1⟩
theorem Al.fold {algo : Int} {n : Nat} (hn4 : n ≤ 4) {turns : Int} : ∀ (l : List Int) {s : Sm}, Al algo n turns s → (∀ t ∈ l, 0 ≤ t ∧ t < n) → Al algo n turns (l.foldl (fun s w => stepF algo s w.toNat) s) ∧ Phi algo n (l.foldl (fun s w => stepF algo s w.toNat) s) ≤ Phi algo n s
  | [], s, A, _ => ⟨A, Int.le_refl _⟩
  | a :: l, s, A, h => by
    have ha := h a (List.mem_cons_self ..)
    obtain ⟨h1, h2, _⟩ := A.step hn4 (w := a.toNat) (by omega)
    obtain ⟨h3, h4⟩ := Al.fold hn4 l h1 fun t ht => h t (List.mem_cons_of_mem _ ht)
    exact ⟨h3, by simp only [List.foldl_cons]; omega⟩
theorem mem_rng {n : Nat} {t : Int} (h : t ∈ rng n) : 0 ≤ t ∧ t < n := by
  unfold rng at h
  obtain ⟨i, hi, rfl⟩ := List.mem_map.1 h
  have := List.mem_range.1 hi
  omega
/-- A turn for each. -/
theorem Al.round {algo : Int} {n : Nat} (hn4 : n ≤ 4) {turns : Int} {s : Sm} (A : Al algo n turns s) : Al algo n turns ((rng n).foldl (fun s w => stepF algo s w.toNat) s) ∧ ((∀ w, w < n → (pr s w).left = 0) ∨ Phi algo n ((rng n).foldl (fun s w => stepF algo s w.toNat) s) < Phi algo n s) := by
  have key : ∀ m, m ≤ n → (((rng m).foldl (fun s w => stepF algo s w.toNat) s = s ∧ ∀ w, w < m → Waits algo s w) ∨ Phi algo n ((rng m).foldl (fun s w => stepF algo s w.toNat) s) < Phi algo n s) := by
    intro m
    induction m with
    | zero => intro _; exact .inl ⟨rfl, fun w hw => absurd hw (Nat.not_lt_zero _)⟩
    | succ m ih =>
      intro hm
      have A2 := (A.fold hn4 (rng m) fun t ht => by have := mem_rng ht; omega).1
      have e : (rng (m + 1)).foldl (fun s w => stepF algo s w.toNat) s = stepF algo ((rng m).foldl (fun s w => stepF algo s w.toNat) s) m := by
        unfold rng
        rw [List.range_succ, List.map_append, List.foldl_append]
        rfl
      rw [e]
      obtain ⟨h1, h2, h3⟩ := A2.step hn4 (w := m) (by omega)
      rcases ih (by omega) with ⟨i1, i2⟩ | i1
      · rw [i1] at h3 ⊢
        rcases h3 with ⟨h4, h5⟩ | h4
        · refine .inl ⟨h4, fun w hw => ?_⟩
          by_cases e : w = m
          · subst e; exact h5
          · exact i2 w (by omega)
        · exact .inr h4
      · exact .inr (by omega)
  refine ⟨(A.fold hn4 _ fun t ht => mem_rng ht).1, ?_⟩
  rcases key n (Nat.le_refl _) with ⟨h1, h2⟩ | h1
  · exact .inl (stuck hn4 A.lv A.safe h2)
  · exact .inr h1
def rounds (n : Nat) : Nat → List Int
  | 0 => []
  | r + 1 => rounds n r ++ rng n
theorem rounds_len (n : Nat) : ∀ r, (rounds n r).length = r * n
  | 0 => by simp [rounds]
  | r + 1 => by simp [rounds, rng, rounds_len n r, Nat.add_mul]
theorem mem_rounds {n : Nat} {t : Int} : ∀ {r}, t ∈ rounds n r → 0 ≤ t ∧ t < n
  | 0, h => (List.not_mem_nil h).elim
  | r + 1, h => by
    rcases List.mem_append.1 h with h | h
    · exact mem_rounds h
    · exact mem_rng h
theorem rem_nn {algo : Int} {n : Nat} (hn4 : n ≤ 4) {turns : Int} {s : Sm} (A : Al algo n turns s) : ∀ i, i < n → 0 ≤ rem algo n i (pr s i) ∧ (rem algo n i (pr s i) = 0 ↔ (pr s i).left = 0) := by
  obtain ⟨ins, -, hS⟩ := A.safe
  intro i hi
  have z := A.lv.zero i hi
  rcases hS with ⟨rfl, rfl, J⟩ | ⟨rfl, J⟩ | ⟨rfl, J⟩
  · have st := J.bst i hi
    simp only [stF] at st
    simp only [rem, prog]; simp; omega
  · have st := J.bst i hi; have kk := J.kk i hi
    simp only [stF, kF] at st kk
    simp only [rem, prog]; simp; (repeat' split) <;> omega
  · have st := J.bst i hi
    simp only [stF] at st
    simp only [rem, prog]; simp; omega
theorem Al.rounds {algo : Int} {n : Nat} (hn4 : n ≤ 4) {turns : Int} {s : Sm} (A : Al algo n turns s) : ∀ r, Al algo n turns ((rounds n r).foldl (fun s w => stepF algo s w.toNat) s) ∧ ((∀ w, w < n → (pr ((Mx.rounds n r).foldl (fun s w => stepF algo s w.toNat) s) w).left = 0) ∨ Phi algo n ((Mx.rounds n r).foldl (fun s w => stepF algo s w.toNat) s) + r ≤ Phi algo n s)
  | 0 => ⟨A, .inr (by simp [Mx.rounds])⟩
  | r + 1 => by
    obtain ⟨h1, h2⟩ := A.rounds hn4 r
    unfold Mx.rounds
    rw [List.foldl_append]
    obtain ⟨h3, h4⟩ := h1.round hn4
    refine ⟨h3, ?_⟩
    have h5 := (h1.fold hn4 (rng n) fun t ht => mem_rng ht).2
    -- what is done stays done
    have done : (∀ w, w < n → (pr ((Mx.rounds n r).foldl (fun s w => stepF algo s w.toNat) s) w).left = 0) → ∀ w, w < n → (pr ((rng n).foldl (fun s w => stepF algo s w.toNat) ((Mx.rounds n r).foldl (fun s w => stepF algo s w.toNat) s)) w).left = 0 := by
      intro h
      have q1 := rem_nn hn4 h1
      have q2 := rem_nn hn4 h3
      have e1 : Phi algo n ((Mx.rounds n r).foldl (fun s w => stepF algo s w.toNat) s) = 0 := by
        unfold Phi
        rw [sumN_cong (g := fun _ => 0) fun i hi => ((q1 i hi).2.2 (h i hi)), sumN_const]; simp
      have e2 := sumN_zero (fun i hi => (q2 i hi).1) (by unfold Phi at h5 e1; omega)
      exact fun w hw => (q2 w hw).2.1 (e2 w hw)
    rcases h2 with h2 | h2
    · exact .inl (done h2)
    · rcases h4 with h4 | h4
      · exact .inl (done h4)
      · exact .inr (by omega)
/-- With turns enough all are done. -/
theorem allDone {algo people turns : Int} {list : List Int} (G : Good algo people turns list) (h3 : algo ≠ 3) {r : Nat} (hr : 12 * (people * turns) ≤ r) :
    ((run algo people.toNat turns (list ++ rounds people.toNat r)).2.2.2.2.length : Int) = 2 * people * turns := by
  have g1 := G.al; have g2 := G.pe; have g4 := G.tu
  obtain ⟨n, rfl⟩ : ∃ n : Nat, people = n := ⟨people.toNat, by omega⟩
  simp only [Int.toNat_natCast]
  have s0 := safe_init G h3
  rw [Int.toNat_natCast] at s0
  have A0 : Al algo n turns (init n turns) := ⟨lv_init g1 g4.1, s0⟩
  obtain ⟨A1, p1⟩ := A0.fold (by omega) list G.el
  obtain ⟨A2, p2⟩ := A1.rounds (by omega) r
  unfold run
  rw [List.foldl_append]
  rw [ph_init] at p1
  have q2 := rem_nn (by omega) A2
  have hz : ∀ w, w < n → (pr ((rounds n r).foldl (fun s w => stepF algo s w.toNat) (list.foldl (fun s w => stepF algo s w.toNat) (init n turns))) w).left = 0 := by
    rcases p2 with h | h
    · exact h
    · have e : 12 * ((n : Int) * turns) = n * (12 * turns) := by rw [← Int.mul_assoc, ← Int.mul_assoc, Int.mul_comm 12]
      have e2 := sumN_zero (fun i hi => (q2 i hi).1) (by unfold Phi at h p1; omega)
      exact fun w hw => (q2 w hw).2.1 (e2 w hw)
  rw [A2.lv.cnt, sumN_cong (g := fun _ => 2 * turns) fun i hi => ?_, sumN_const]
  · rw [Int.mul_comm 2 (n : Int), Int.mul_assoc]
  · have h1 := hz i hi
    have h2 := (A2.lv.zero i hi).2 h1
    simp only [gt, gc, h1, h2]
    (repeat' split) <;> omega
/-! The code -/
theorem roundIter {N : Nat} (hN : 1000 < N) {n : Nat} (hn : n ≤ 4) (l : List Int) (hl : l.length + n ≤ 600) : iter (alibkeep_MutexGoes_L15 N n) N (l, 0) = some (l ++ rng n) := by
  refine iter_up (fun k => (l ++ rng k, (k : Int))) _ n _ (by simp [rng]) (fun k hk => Wp.eq ?_) (Wp.eq ?_) N (by omega)
  · unfold alibkeep_MutexGoes_L15
    have hk2 : (rng k).length = k := by simp [rng]
    refine .condT (by simp; omega) (.ck (limB_of ?_) (.ck64 (by omega) (.one ?_)))
    · simp only [List.length_append, List.length_cons, List.length_nil, hk2]; unfold maxLen; omega
    · simp [rng, List.range_succ]
  · unfold alibkeep_MutexGoes_L15
    exact .condF (by simp) (.one rfl)
theorem allIter {N : Nat} (hN : 1000 < N) {n : Nat} (hn : 1 ≤ n ∧ n ≤ 4) (l : List Int) (hl : l.length ≤ 600) : Wp (iter (alibkeep_MutexGoes_L14 N n) N l) fun a => ∃ r, a = l ++ rounds n r ∧ a.length ≤ 600 := by
  refine .loop (fun a => ∃ r, a = l ++ rounds n r ∧ a.length ≤ 600) (fun a => 601 - a.length) (by omega) ⟨0, by simp [rounds], hl⟩ fun a ha => ?_
  obtain ⟨r, rfl, h2⟩ := ha
  unfold alibkeep_MutexGoes_L14
  refine .ck64 (by omega) (.cond (fun h => ?_) fun h => .one ⟨r, rfl, h2⟩)
  have h : (l ++ rounds n r).length + n ≤ 600 := by simp only [decide_eq_true_eq] at h; omega
  refine .bdO (roundIter hN hn.2 _ h) (.one ⟨⟨r + 1, by simp [rounds], ?_⟩, ?_⟩)
  · rw [List.length_append]; simp only [rng, List.length_map, List.length_range]; omega
  · rw [List.length_append (bs := rng n)]; simp only [rng, List.length_map, List.length_range]; omega
/-- MutexGoes, plainly. -/
theorem goesLaw {N : Nat} (hN : 1000 < N) (hl : alibkeep_mutexLives N = some true) (algo people turns : Int) (list : List Int) : alibkeep_MutexGoes N algo people turns list = some true := by
  refine Wp.eq ?_
  unfold alibkeep_MutexGoes
  by_cases G : Good algo people turns list
  · refine .bdO (playOK hN G) (.bdO hl ?_)
    have g1 := G.al; have g2 := G.pe; have g4 := G.tu; have g5 := G.ln
    by_cases h3 : algo = 3
    · exact .condT (by simp [h3]) (.bdO hl (.one rfl))
    · refine .condF (by simp [h3]) (.ck (limB_of (by unfold maxLen; omega)) ?_)
      have hit := allIter hN (n := people.toNat) (by omega) list g5
      rw [show ((people.toNat : Nat) : Int) = people by omega] at hit
      refine .seq hit fun a _ ha => ?_
      obtain ⟨r, rfl, ha⟩ := ha
      have b1 : people * people ≤ 16 := by
        have := Int.mul_le_mul g2.2 g2.2 (by omega) (by omega); omega
      have b0 : 0 ≤ people * people := Int.mul_nonneg (by omega) (by omega)
      have c1 : people * people * turns ≤ 80 := by
        have := Int.mul_le_mul b1 g4.2 g4.1 (by omega); omega
      have c0 : 0 ≤ people * people * turns := Int.mul_nonneg b0 g4.1
      have d1 : 2 * people * turns ≤ 40 := by
        have := Int.mul_le_mul (show 2 * people ≤ 8 by omega) g4.2 g4.1 (by omega); omega
      have d0 : 0 ≤ 2 * people * turns := Int.mul_nonneg (by omega) g4.1
      refine .ck64 (by omega) (.ck64 (by omega) (.ck64 (by omega) (.ck64 (by omega) (.cond (fun _ => .one rfl) fun hc => ?_))))
      have G2 : Good algo people turns (list ++ rounds people.toNat r) := by
        refine ⟨G.al, G.pe, G.p2, G.tu, ha, fun t ht => ?_⟩
        rcases List.mem_append.1 ht with ht | ht
        · exact G.el t ht
        · have := mem_rounds ht; omega
      have hr : 12 * (people * turns) ≤ r := by
        have hc : ¬ ((list ++ rounds people.toNat r).length : Int) - list.length < people * people * turns * 12 := by simpa using hc
        rw [List.length_append, rounds_len] at hc
        have e : ((r * people.toNat : Nat) : Int) = people * r := by rw [Int.natCast_mul, show ((people.toNat : Nat) : Int) = people by omega, Int.mul_comm]
        have hc2 : people * (12 * (people * turns)) ≤ people * r := by
          rw [← e]
          have : people * (12 * (people * turns)) = people * people * turns * 12 := by
            rw [Int.mul_assoc people people turns, Int.mul_assoc people (people * turns) 12, Int.mul_comm 12]
          omega
        exact Int.le_of_mul_le_mul_left hc2 (by omega)
      refine .bdO (playOK hN G2) (.ck (by rw [ok64_of (by omega)]; simp) (.ck (by rw [ok64_of (by omega)]; simp) (.one ?_)))
      rw [allDone G h3 hr]
      simp
  · refine .seq (playBad hN G) fun r _ hr => .bdO hl (.condT (by simp [hr.2.2]) (.bdO hl (.one rfl)))
theorem lives : alibkeep_mutexLives 18446744073709551616 = some true := by kernel_rfl
end Mx

end Go.Proofs.Ytkccgokdahlmeaa
