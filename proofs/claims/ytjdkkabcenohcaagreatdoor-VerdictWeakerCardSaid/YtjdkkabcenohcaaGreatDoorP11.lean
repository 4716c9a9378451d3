/- Bags, plainly. -/
import Derived.Test.YtjdkkabcenohcaaGreatDoorP10
set_option linter.unusedVariables false
set_option linter.unusedSimpArgs false
set_option linter.unusedSectionVars false
set_option maxRecDepth 100000
namespace Go.Proofs.YtjdkkabcenohcaaGreatDoor
open Go.RowKit
namespace Ob
/-- What a step does to a set: who is in it behind. -/
def inn (kind arg : Int) (P : Int → Prop) (x : Int) : Prop := if kind = 7 then x = arg ∨ P x else if kind = 8 then x ≠ arg ∧ P x else P x
open Classical in
noncomputable def ans (kind arg : Int) (P : Int → Prop) : Int := if kind = 7 then (if P arg then 0 else 1) else (if P arg then 1 else 0)
theorem set_step {s : List Int} {kind arg : Int} (hO : OkS 4 s) (hA : Asked 4 kind arg) {n : List Int} {res : Int} (h : stp 4 s kind arg = some (n, res)) :
    (∀ x, x ∈ n ↔ inn kind arg (· ∈ s) x) ∧ res = ans kind arg (· ∈ s) := by
  obtain ⟨hl, hs⟩ : s.length ≤ 50 ∧ Inc s := by
    rcases hO with ⟨h, _⟩ | ⟨h, _⟩ | ⟨_, h1, _, h2⟩
    · omega
    · omega
    · exact ⟨h1, h2⟩
  have hinv := tyK_inv hA.2.1 hA.1
  unfold stp at h
  rw [if_neg (by decide), if_neg (by decide), if_neg (by decide), if_neg (by decide)] at h
  unfold inn ans
  by_cases h7 : kind = 7
  · subst h7
    rw [if_pos rfl] at h
    by_cases hm : arg ∈ s
    · rw [if_pos hm] at h
      cases h
      refine ⟨fun x => ?_, ?_⟩
      · rw [if_pos rfl]
        exact ⟨.inr, fun h => h.elim (fun e => e ▸ hm) id⟩
      · rw [if_pos rfl, if_pos hm]
    · rw [if_neg hm] at h
      split at h
      · cases h
      · obtain ⟨rfl, rfl⟩ : ins s arg = n ∧ 1 = res := by simpa [ins] using h
        exact ⟨fun x => by rw [if_pos rfl]; exact ins_mem, by rw [if_pos rfl, if_neg hm]⟩
  · rw [if_neg h7] at h
    by_cases h8 : kind = 8
    · subst h8
      rw [if_pos rfl] at h
      by_cases hm : arg ∈ s
      · rw [if_pos hm] at h
        obtain ⟨rfl, rfl⟩ : del s arg = n ∧ 1 = res := by simpa [del] using h
        exact ⟨fun x => by rw [if_neg (by decide), if_pos rfl]; exact del_mem (by omega) hs hm, by rw [if_neg (by decide), if_pos hm]⟩
      · rw [if_neg hm] at h
        cases h
        refine ⟨fun x => ?_, ?_⟩
        · rw [if_neg (by decide), if_pos rfl]
          exact ⟨fun h => ⟨fun e => hm (e ▸ h), h⟩, fun h => h.2⟩
        · rw [if_neg (by decide), if_neg hm]
    · rw [if_neg h8] at h
      cases h
      refine ⟨fun x => ?_, ?_⟩
      · rw [if_neg h7, if_neg h8]
      · rw [if_neg h7]
        by_cases hm : arg ∈ s
        · rw [if_pos hm, if_pos hm]
        · rw [if_neg hm, if_neg hm]
end Ob

namespace Sr
open Rl Hs
/-- A set, number by number. -/
def nb (b : Bool) (kind : Int) : Bool × Int := if kind = 7 then (true, if b then 0 else 1) else if kind = 8 then (false, if b then 1 else 0) else (b, if b then 1 else 0)
def runb : Bool → List Do → Bool
  | _, [] => true
  | b, d :: l => decide ((nb b d.kind).2 = d.res) && runb (nb b d.kind).1 l
def fo (n : Int) (l : List Do) : List Do := l.filter fun d => decide (d.arg = n)
theorem stp4 {S : List Int} (hl : S.length + 1 ≤ 50) (kind arg : Int) : ∃ n r, Ob.stp 4 S kind arg = some (n, r) ∧ n.length ≤ S.length + 1 := by
  have key := congrArg List.length (List.takeWhile_append_dropWhile (p := (· < arg)) (l := S))
  rw [List.length_append] at key
  unfold Ob.stp
  rw [if_neg (by decide), if_neg (by decide), if_neg (by decide), if_neg (by decide)]
  by_cases h7 : kind = 7
  · rw [if_pos h7]
    by_cases hm : arg ∈ S
    · rw [if_pos hm]; exact ⟨_, _, rfl, by omega⟩
    · rw [if_neg hm, if_neg (by omega)]
      refine ⟨_, _, rfl, ?_⟩
      simp only [List.length_append, List.length_singleton]
      omega
  · rw [if_neg h7]
    by_cases h8 : kind = 8
    · rw [if_pos h8]
      by_cases hm : arg ∈ S
      · rw [if_pos hm]
        refine ⟨_, _, rfl, ?_⟩
        simp only [List.length_append, List.length_drop]
        omega
      · rw [if_neg hm]; exact ⟨_, _, rfl, by omega⟩
    · rw [if_neg h8]; exact ⟨_, _, rfl, by omega⟩
theorem nb_of {S n : List Int} {kind arg r : Int} (h1 : ∀ x, x ∈ n ↔ Ob.inn kind arg (· ∈ S) x) (h2 : r = Ob.ans kind arg (· ∈ S)) : nb (decide (arg ∈ S)) kind = (decide (arg ∈ n), r) := by
  have h1 := h1 arg
  unfold Ob.inn at h1
  unfold Ob.ans at h2
  subst h2
  unfold nb
  by_cases h7 : kind = 7
  · rw [if_pos h7] at h1 ⊢
    rw [if_pos h7, decide_eq_true (h1.2 (.inl rfl))]
    by_cases hm : arg ∈ S
    · rw [decide_eq_true hm, if_pos hm]; rfl
    · rw [decide_eq_false hm, if_neg hm]; rfl
  · rw [if_neg h7] at h1 ⊢
    rw [if_neg h7]
    by_cases h8 : kind = 8
    · rw [if_pos h8] at h1 ⊢
      rw [decide_eq_false (fun h => (h1.1 h).1 rfl)]
      by_cases hm : arg ∈ S
      · rw [decide_eq_true hm, if_pos hm]; rfl
      · rw [decide_eq_false hm, if_neg hm]; rfl
    · rw [if_neg h8] at h1 ⊢
      by_cases hm : arg ∈ S
      · rw [decide_eq_true hm, decide_eq_true (h1.2 hm), if_pos hm]; rfl
      · rw [decide_eq_false hm, decide_eq_false (fun h => hm (h1.1 h)), if_neg hm]; rfl
theorem inn_other {S n : List Int} {kind arg : Int} (h1 : ∀ x, x ∈ n ↔ Ob.inn kind arg (· ∈ S) x) {x : Int} (hx : x ≠ arg) : decide (x ∈ n) = decide (x ∈ S) := by
  refine decide_eq_decide.2 ((h1 x).trans ?_)
  unfold Ob.inn
  split
  · exact ⟨fun h => h.resolve_left hx, .inr⟩
  · split
    · exact ⟨fun h => h.2, fun h => ⟨hx, h⟩⟩
    · exact Iff.rfl
theorem run4 : ∀ {l : List Do} {S : List Int}, Ob.OkS 4 S → S.length + l.length ≤ 50 → (∀ d ∈ l, Ob.Asked 4 d.kind d.arg) → ((∃ s', Ob.run 4 S l = some s') ↔ ∀ n, runb (decide (n ∈ S)) (fo n l) = true)
  | [], S, _, _, _ => ⟨fun _ n => rfl, fun _ => ⟨S, rfl⟩⟩
  | d :: l, S, hO, hl, hA => by
    have hAd := hA d (.head _)
    rw [List.length_cons] at hl
    obtain ⟨n', r, hst, hlen⟩ := stp4 (S := S) (by omega) d.kind d.arg
    have hO' := (Ob.stp_ok hO hAd hst).1
    obtain ⟨m1, m2⟩ := Ob.set_step hO hAd hst
    have hnx : Ob.nx 4 S d.kind d.arg = some (n', r) := by unfold Ob.nx; rw [if_pos ⟨hO, hAd⟩]; exact hst
    have ih := run4 (l := l) (S := n') hO' (by omega) (fun x hx => hA x (.tail _ hx))
    have e1 := nb_of m1 m2
    have hc1 : fo d.arg (d :: l) = d :: fo d.arg l := by unfold fo; rw [List.filter_cons, if_pos (by simp)]
    have hc2 : ∀ n, n ≠ d.arg → fo n (d :: l) = fo n l := fun n hn => by unfold fo; rw [List.filter_cons, if_neg (by simpa using Ne.symm hn)]
    have hr1 : runb (decide (d.arg ∈ S)) (fo d.arg (d :: l)) = (decide (r = d.res) && runb (decide (d.arg ∈ n')) (fo d.arg l)) := by
      rw [hc1]
      show (decide ((nb _ d.kind).2 = d.res) && runb (nb _ d.kind).1 _) = _
      rw [e1]
    simp only [Ob.run, hnx]
    constructor
    · rintro ⟨s', h⟩ n
      split at h
      · rename_i hr
        by_cases e : n = d.arg
        · subst e
          rw [hr1, decide_eq_true hr, ih.1 ⟨s', h⟩]; rfl
        · rw [hc2 n e, ← inn_other m1 e]; exact ih.1 ⟨s', h⟩ n
      · cases h
    · intro h
      have h0 := h d.arg
      rw [hr1, Bool.and_eq_true, decide_eq_true_eq] at h0
      rw [if_pos h0.1]
      refine ih.2 fun n => ?_
      by_cases e : n = d.arg
      · subst e; exact h0.2
      · have := h n
        rw [hc2 n e, ← inn_other m1 e] at this; exact this
theorem objl0 {c : List Call} (hth : ∀ i, i < c.length → (c.getD i Call.z).thing = 0) : ∀ {t : List Step}, (∀ s ∈ t, InC c s) → objl c 0 t = t.map (D c)
  | [], _ => rfl
  | s :: t, h => by
    have hr := (h s (.head _)).rng
    have := hth s.call.toNat (by omega)
    unfold objl
    rw [if_pos (by rw [this]; rfl), objl0 hth (fun x hx => h x (.tail _ hx))]
    rfl
/-- A right order of a set. -/
structure Lin4 (c : List Call) (t : List Step) : Prop where
  inc : ∀ s ∈ t, InC c s
  pw : t.Pairwise (Bef (bfA c))
  cm : Cm c (nums t)
  run : ∀ n, runb false (fo n (t.map (D c))) = true
theorem lin4 {c : List Call} {rel : Rel} (X : Cx [4] c rel (bfA c)) (hA : ∀ i, i < c.length → Ob.Asked 4 (c.getD i Call.z).kind (c.getD i Call.z).arg) {t : List Step} : Gd [4] c (bfA c) (S0 [4]) [] t ↔ Lin4 c t := by
  have hth : ∀ i, i < c.length → (c.getD i Call.z).thing = 0 := fun i hi => by
    have := X.th i hi
    simp only [List.length_singleton] at this
    omega
  have hcl := X.cl
  have base : (∀ s ∈ t, InC c s) → t.length ≤ c.length → ((∀ x, x < [(4 : Int)].length → ∃ s', Ob.run ([(4 : Int)].getD x 0) ((S0 [4]).getD x []) (objl c x t) = some s') ↔ ∀ n, runb false (fo n (t.map (D c))) = true) := by
    intro h hlen
    have hS : (S0 [4]).getD 0 [] = [] := by simp [S0, Ob.st0]
    have hrun := run4 (l := t.map (D c)) (S := []) (by have := S0_ok X; have := this.2 0 (by simp); rw [hS] at this; exact this) (by rw [List.length_map, List.length_nil]; omega) (fun d hd => by
      obtain ⟨s, hs, rfl⟩ := List.mem_map.1 hd
      have := (h s hs).rng
      exact hA _ (by omega))
    have e0 : ∀ n : Int, decide (n ∈ ([] : List Int)) = false := fun n => decide_eq_false (by simp)
    constructor
    · intro hx n
      have := hx 0 (by simp)
      rw [hS, objl0 hth h] at this
      rw [← e0 n]
      exact hrun.1 this n
    · intro hn x hx
      have : x = 0 := by simp only [List.length_singleton] at hx; omega
      subst this
      rw [hS, objl0 hth h]
      exact hrun.2 fun n => by rw [e0 n]; exact hn n
  unfold Gd
  rw [pl_iff X (by simp [S0]), List.nil_append]
  constructor
  · rintro ⟨⟨ha, hx⟩, hc⟩
    obtain ⟨h1, h2⟩ := ac0.1 ha
    exact ⟨h1, h2, hc, (base h1 ha.len).1 hx⟩
  · rintro ⟨h1, h2, h3, h4⟩
    have ha := ac0.2 ⟨h1, h2⟩
    exact ⟨⟨ha, (base h1 ha.len).2 h4⟩, h3⟩
def gA (n : Int) : Int → Int → Int → Bool := fun _ _ a => decide (a = n)
variable {N : Nat} {types : List Int} {p : List Event} {k : Nat} {out out' : List Call} {op op' : List Int} {idx pos : List Nat}
end Sr

namespace Bg
open Hs Rl Sr
def innX (inn : List Bool) (v : Event) (n : Int) : List Bool := if v.kind = 0 then inn else setA 8 false inn v.who (decide (v.value = n))
/-- What is remembered of who is at work. -/
def InnOk (n : Int) (out : List Call) (op : List Int) (inn : List Bool) : Prop := ∀ w, w < 8 → ∀ m : Nat, op.getD w 0 = m + 1 → inn.getD w false = gC (gA n) (out.getD m Call.z)
theorem inn_step {N : Nat} {types : List Int} {n : Int} {l : List Event} {k : Nat} {out out2 : List Call} {op op2 : List Int} {inn : List Bool} {v : Event} (W : WF types l k out op) (S : StpX N types out op (k : Int) v out2 op2) (h : InnOk n out op inn) :
    InnOk n out2 op2 (innX inn v n) ∧ Sel (gA n) out op v ((innX inn v n).getD v.who.toNat false) := by
  have hw := S.who
  have hw8 : v.who.toNat < 8 := by omega
  have hlt : ∀ w, w < 8 → ∀ m : Nat, op.getD w 0 = m + 1 → m < out.length := fun w h m e => by have := (W.pen w h).2.1; omega
  rcases S.how with ⟨hk, hf, ha, hn, rfl, rfl⟩ | ⟨hk, m, hm, hml, ht, hr, rfl, rfl⟩
  · have hin : innX inn v n = setA 8 false inn v.who (decide (v.value = n)) := by unfold innX; rw [if_neg hk]
    have hinn : ∀ w, w < 8 → (innX inn v n).getD w false = if w = v.who.toNat then decide (v.value = n) else inn.getD w false := fun w h => by rw [hin, setA_get h]
    refine ⟨fun w hw2 m hm => ?_, fun _ => by rw [hinn _ hw8, if_pos rfl]; rfl, fun h => (hk h).elim⟩
    rw [hinn w hw2]
    rw [setA_get hw2] at hm
    by_cases e : w = v.who.toNat
    · rw [if_pos e] at hm ⊢
      obtain rfl : m = out.length := by omega
      rw [getD_app, if_neg (Nat.lt_irrefl _), if_pos rfl]; rfl
    · rw [if_neg e] at hm ⊢
      rw [getDn_app (hlt w hw2 m hm)]; exact h w hw2 m hm
  · have hin : innX inn v n = inn := by unfold innX; rw [if_pos hk]
    rw [hin]
    refine ⟨fun w hw2 q hq => ?_, fun h => (h hk).elim, fun _ q hq => h _ hw8 q hq⟩
    rw [setA_get hw2] at hq
    split at hq
    · omega
    · rw [gC_set hml]; exact h w hw2 q hq
theorem part_wp {N : Nat} (hN : 300 < N) {l : List Event} {c : List Call} {op : List Int} (hl : l.length ≤ 200) (R : RnH N [4] l l.length c op) (n : Int) : Wp (bags_part N l n) fun p => p.length ≤ l.length ∧ ∃ c' op' idx pos, SubH N [4] (gA n) p l.length c c' op op' idx pos := by
  obtain ⟨f, f0, fl, fs⟩ := R.fn
  unfold bags_part
  refine .seq (P := fun p => p.length ≤ l.length ∧ ∃ c' op' idx pos, SubH N [4] (gA n) p l.length c c' op op' idx pos) (.iter l.length (fun k st => (st.1.length ≤ k ∧ ∃ a b idx pos, SubH N [4] (gA n) st.1 k (f k).1 a (f k).2 b idx pos) ∧ InnOk n (f k).1 (f k).2 st.2.1 ∧ st.2.2 = (k : Int)) (by omega) ⟨⟨Nat.le_refl _, [], [], [], [], ?_⟩, ?_, rfl⟩ ?_ ?_) fun p _ h => .one h
  · rw [f0]; exact .zero ..
  · rw [f0]; exact fun w _ m h => absurd h (by show ¬ (0 : Int) = m + 1; omega)
  · rintro k ⟨p, inn, v⟩ hk ⟨⟨hlen, a, b, idx, pos, P⟩, hi, hv⟩
    dsimp only at P hv hi hlen
    subst hv
    obtain ⟨Rk, S⟩ := fs k hk
    have hw := S.who
    simp only [bags_part_L3]
    refine .condT (decide_eq_true (by omega)) (.ixD Event.z (by omega) (by omega) ?_)
    simp only [Int.toNat_natCast]
    obtain ⟨x, hx⟩ : ∃ x, l.getD k Event.z = x := ⟨_, rfl⟩
    rw [hx] at S hw
    simp only [hx]
    obtain ⟨hi2, hsel⟩ := inn_step Rk.wf S hi
    have hst := P.step Rk.wf S hsel
    refine .seq (P := fun i => i = innX inn x n) (.cond (fun h => .ax (by omega) (by omega) (.one ?_)) fun h => .one ?_) fun i _ hi => ?_
    · unfold innX; rw [if_neg (by simpa using h)]
    · unfold innX; rw [if_pos (by simpa using h)]
    subst hi
    refine .ax (by omega) (by omega) (.cond (fun h => .ck (limB_of ⟨?_, ?_⟩) (.ck64 (by omega) (.one ⟨⟨by simp only [List.length_append, List.length_singleton]; omega, hst.1 h⟩, hi2, by simp⟩))) fun h => .ck64 (by omega) (.one ⟨⟨by simp only; omega, a, b, idx, pos, hst.2 h⟩, hi2, by simp⟩))
    · simp only [List.length_singleton]; exact Nat.le_trans (m := 2000) (by omega) (by decide)
    · simp only [List.length_singleton]; omega
  · rintro ⟨p, inn, v⟩ ⟨⟨hlen, a, b, idx, pos, P⟩, hi, hv⟩
    dsimp only at P hv hlen
    subst hv
    simp only [bags_part_L3]
    refine .condF (decide_eq_false (by omega)) (.one ⟨hlen, a, b, idx, pos, ?_⟩)
    rw [fl] at P
    exact P
theorem mget_put {α : Type} (v : α) (k j : Int) : ∀ m : List (Int × α), mget (mput m k v) j = if k = j then some v else mget m j
  | [] => by
    unfold mput mget
    by_cases h : k = j
    · rw [if_pos h, if_pos h]
    · rw [if_neg h, if_neg h]; rfl
  | (a, u) :: r => by
    unfold mput
    by_cases h : a = k
    · subst h
      rw [if_pos rfl]
      unfold mget
      by_cases h2 : a = j
      · rw [if_pos h2, if_pos h2]
      · rw [if_neg h2, if_neg h2]
        rw [if_neg h2]
    · rw [if_neg h]
      unfold mget
      by_cases h2 : a = j
      · rw [if_pos h2, if_pos h2, if_neg (fun e => h (h2.trans e.symm))]
      · rw [if_neg h2, if_neg h2]
        exact mget_put v k j r
theorem mput_mem {α : Type} {v : α} {k : Int} {p : Int × α} : ∀ {m : List (Int × α)}, p ∈ mput m k v → p ∈ m ∨ p = (k, v)
  | [], h => .inr (List.mem_singleton.1 h)
  | (a, u) :: r, h => by
    unfold mput at h
    by_cases e : a = k
    · rw [if_pos e] at h
      rcases List.mem_cons.1 h with h | h
      · exact .inr (by rw [h, e])
      · exact .inl (List.mem_cons_of_mem _ h)
    · rw [if_neg e] at h
      rcases List.mem_cons.1 h with h | h
      · exact .inl (h ▸ List.mem_cons_self ..)
      · rcases mput_mem h with h | h
        · exact .inl (List.mem_cons_of_mem _ h)
        · exact .inr h
theorem mput_keys {α : Type} {v : α} {k : Int} : ∀ {m : List (Int × α)}, (mput m k v).map (·.1) = if k ∈ m.map (·.1) then m.map (·.1) else m.map (·.1) ++ [k]
  | [] => rfl
  | (a, u) :: r => by
    unfold mput
    by_cases e : a = k
    · rw [if_pos e, if_pos (by rw [List.map_cons]; exact List.mem_cons.2 (.inl e.symm))]; simp [e]
    · rw [if_neg e, List.map_cons, List.map_cons, mput_keys]
      by_cases h : k ∈ r.map (·.1)
      · rw [if_pos h, if_pos (List.mem_cons_of_mem _ h)]
      · rw [if_neg h, if_neg (fun z => by
          rcases List.mem_cons.1 z with z | z
          · exact e z.symm
          · exact h z)]; rfl
theorem count_take {c : List Call} {k : Nat} (hk : k < c.length) (x : Int) : ((c.take (k + 1)).map (·.arg)).count x = ((c.take k).map (·.arg)).count x + (if (c.getD k Call.z).arg = x then 1 else 0) := by
  have e : c.take (k + 1) = c.take k ++ [c.getD k Call.z] := by rw [getD_of hk, List.take_add_one, List.getElem?_eq_getElem hk]; rfl
  rw [e, List.map_append, List.count_append]
  simp [List.count_cons]
theorem count_le_take {c : List Call} {k : Nat} (x : Int) : ((c.take k).map (·.arg)).count x ≤ (c.map (·.arg)).count x := by
  have := (List.take_sublist k c).map (·.arg)
  exact this.count_le x
/-- Is what is done with a number right? -/
def okF (N : Nat) (l : List Event) (n : Int) : Bool := ((bd (bags_part N l n) fun p => search_Find N [4] p).map (·.2.1)).getD false
def Few (c : List Call) : Prop := ∀ n, (c.map (·.arg)).count n ≤ 9
theorem argN {N : Nat} {l : List Event} {k : Nat} {c : List Call} {op : List Int} (R : RnH N [4] l k c op) : ∀ i, i < c.length → Ob.Asked 4 (c.getD i Call.z).kind (c.getD i Call.z).arg ∧ (1 ≤ (c.getD i Call.z).arg ∧ (c.getD i Call.z).arg ≤ 1000) := by
  intro i hi
  have hA := asked_of R hi
  have hth := (R.wf.one i hi).thing
  have e : (c.getD i Call.z).thing.toNat = 0 := by simp only [List.length_singleton] at hth; omega
  rw [e] at hA
  have hA : Ob.Asked 4 (c.getD i Call.z).kind (c.getD i Call.z).arg := hA
  refine ⟨hA, ?_⟩
  have := Ob.tyK_inv hA.2.1 hA.1
  exact hA.2.2.2 (by omega)
/-- What is found of what is read. -/
theorem find_rn {N : Nat} (hN : 300 < N) (ht : history_Types N [4] = some 0) {p : List Event} {c : List Call} {op : List Int} (hl : p.length ≤ 200) (R : RnH N [4] p p.length c op) (h9 : c.length ≤ 9) : Wp (search_Find N [4] p) fun r => r.2.2 = 0 ∧ (r.2.1 = true ↔ ∃ t, Lin4 c t) := by
  have hc := calls9_of (calls_of hN ht hl R) h9
  have H := hc_of hN hc
  obtain ⟨rel, X⟩ := cx9 H hN
  refine (find_wp hN hc).mono fun r ⟨h1, _, h3⟩ => ⟨h1, ?_⟩
  rw [(h3 rfl H).iff]
  exact ⟨fun ⟨u, hu⟩ => ⟨u, (lin4 X fun i hi => (argN R i hi).1).1 hu⟩, fun ⟨u, hu⟩ => ⟨u, (lin4 X fun i hi => (argN R i hi).1).2 hu⟩⟩
theorem sub_cnt {N : Nat} {types : List Int} {n : Int} {p : List Event} {k : Nat} {out out' : List Call} {op op' : List Int} {idx pos : List Nat} (P : SubH N types (gA n) p k out out' op op' idx pos) : out'.length = (out.map (·.arg)).count n := by
  rw [P.cnt, List.count_eq_countP, List.countP_map]
  congr 1
theorem okF_wp {N : Nat} (hN : 300 < N) (ht : history_Types N [4] = some 0) {l : List Event} {c : List Call} {op : List Int} (hl : l.length ≤ 200) (R : RnH N [4] l l.length c op) {n : Int} (h9 : (c.map (·.arg)).count n ≤ 9) :
    ∃ p r c' op' idx pos, bags_part N l n = some p ∧ p.length ≤ l.length ∧ search_Find N [4] p = some r ∧ r.2.1 = okF N l n ∧ SubH N [4] (gA n) p l.length c c' op op' idx pos ∧ (okF N l n = true ↔ ∃ t, Lin4 c' t) := by
  obtain ⟨p, h1, hpl, c', op', idx, pos, P⟩ := part_wp hN hl R n
  obtain ⟨r, h2, _, h3⟩ := find_rn hN ht (by omega) P.run (by rw [sub_cnt P]; exact h9)
  have e : r.2.1 = okF N l n := by unfold okF; rw [h1]; show _ = ((search_Find N [4] p).map _).getD _; rw [h2]; rfl
  exact ⟨p, r, c', op', idx, pos, h1, hpl, h2, e, P, by rw [← e]; exact h3⟩
/-- What Check tells of a history. -/
theorem check_rn {N : Nat} (hN : 300 < N) (ht : history_Types N [4] = some 0) {l : List Event} {c : List Call} {op : List Int} (hl : l.length ≤ 200) (R : RnH N [4] l l.length c op) : Wp (bags_Check N l) fun r => (¬ Few c ∧ r = ([], 2)) ∨ (Few c ∧ r.2 = 0 ∧ ∃ K : List Int, K.Pairwise (· < ·) ∧ (∀ n, n ∈ K ↔ ∃ i, i < c.length ∧ (c.getD i Call.z).arg = n) ∧ r.1 = K.filter fun n => !okF N l n) := by
  have hcl := R.wf.len
  unfold bags_Check
  refine .bdO (a := ()) rfl (.bdO (calls_of hN ht hl R) (.condF rfl ?_))
  refine .elim (P := fun t => match t with | .inl m => Few c ∧ (m.map (·.1)).Nodup ∧ m.length ≤ 200 ∧ (∀ p ∈ m, 1 ≤ p.1 ∧ p.1 ≤ 1000 ∧ 1 ≤ p.2 ∧ p.2 ≤ 9) ∧ (∀ n, n ∈ m.map (·.1) ↔ ∃ i, i < c.length ∧ (c.getD i Call.z).arg = n) | .inr r => ¬ Few c ∧ r = ([], 2))
    (.iter c.length (fun k st => (∀ x, (mget st.1 x).getD 0 = (((c.take k).map (·.arg)).count x : Int)) ∧ (∀ x, ((c.take k).map (·.arg)).count x ≤ 9) ∧ (st.1.map (·.1)).Nodup ∧ st.1.length ≤ k ∧ (∀ p ∈ st.1, 1 ≤ p.1 ∧ p.1 ≤ 1000 ∧ 1 ≤ p.2 ∧ p.2 ≤ 9) ∧ (∀ n, n ∈ st.1.map (·.1) ↔ ∃ i, i < k ∧ (c.getD i Call.z).arg = n) ∧ st.2 = (k : Int)) (by omega) ⟨fun x => rfl, fun x => Nat.zero_le _, List.nodup_nil, Nat.le_refl _, fun p h => (nomatch h), fun n => ⟨fun h => (nomatch h), fun ⟨i, h, _⟩ => absurd h (Nat.not_lt_zero _)⟩, rfl⟩ ?_ ?_) (fun m _ h => ?_) (fun r _ h => .one (.inl h))
  · rintro k ⟨m, v⟩ hk ⟨h1, h9, h2, h3, h4, h5, hv⟩
    dsimp only at h1 h2 h3 h4 h5 hv
    subst hv
    simp only [bags_Check_L5]
    refine .condT (decide_eq_true (by show (k : Int) < c.length; omega)) (.ixD Call.z (by omega) (by show (k : Int) < c.length; omega) ?_)
    simp only [Int.toNat_natCast]
    have harg := (argN R k hk).2
    obtain ⟨a, ha⟩ : ∃ a, (c.getD k Call.z).arg = a := ⟨_, rfl⟩
    have hct := count_take hk
    rw [ha] at hct harg
    simp only [ha]
    rw [h1 a]
    have h9a := h9 a
    have hca := hct a
    rw [if_pos rfl] at hca
    refine .ck64 (by omega) ?_
    rw [mget_put, if_pos rfl]
    refine .cond (fun h => .one ⟨fun F => ?_, rfl⟩) fun h => ?_
    · have h : (9 : Int) < (((c.take k).map (·.arg)).count a : Int) + 1 := of_decide_eq_true h
      have := F a
      have := count_le_take (c := c) (k := k + 1) a
      omega
    · have h : ¬ (9 : Int) < (((c.take k).map (·.arg)).count a : Int) + 1 := of_decide_eq_false h
      have hkeys := mput_keys (v := (((c.take k).map (·.arg)).count a : Int) + 1) (k := a) (m := m)
      refine .ck64 (by omega) (.one ⟨fun x => ?_, fun x => ?_, ?_, ?_, fun p hp => ?_, fun n => ?_, by simp⟩)
      · show (mget (mput m a _) x).getD 0 = _
        rw [mget_put, hct x]
        by_cases e : a = x
        · subst e; rw [if_pos rfl, if_pos rfl]; simp
        · rw [if_neg e, if_neg e, h1 x]; simp
      · rw [hct x]
        by_cases e : a = x
        · subst e; rw [if_pos rfl]; omega
        · rw [if_neg e]; exact h9 x
      · show ((mput m a _).map (·.1)).Nodup
        rw [hkeys]
        split
        · exact h2
        · rename_i e
          exact List.nodup_append.2 ⟨h2, by simp, fun x hx y hy z => e (by rw [List.mem_singleton] at hy; rw [← hy, ← z]; exact hx)⟩
      · show (mput m a _).length ≤ k + 1
        have := congrArg List.length hkeys
        rw [List.length_map] at this
        rw [this]
        split
        · rw [List.length_map]; omega
        · rw [List.length_append, List.length_map, List.length_singleton]; omega
      · rcases mput_mem hp with hp | rfl
        · exact h4 p hp
        · exact ⟨harg.1, harg.2, by simp only; omega, by simp only; omega⟩
      · show n ∈ (mput m a _).map (·.1) ↔ _
        rw [hkeys]
        have key : (∃ i, i < k + 1 ∧ (c.getD i Call.z).arg = n) ↔ (∃ i, i < k ∧ (c.getD i Call.z).arg = n) ∨ n = a := by
          constructor
          · rintro ⟨i, h6, h7⟩
            rcases Nat.lt_or_ge i k with h8 | h8
            · exact .inl ⟨i, h8, h7⟩
            · obtain rfl : i = k := by omega
              exact .inr (h7.symm.trans ha)
          · rintro (⟨i, h6, h7⟩ | rfl)
            · exact ⟨i, by omega, h7⟩
            · exact ⟨k, by omega, ha⟩
        rw [key, ← h5 n]
        split
        · rename_i e
          exact ⟨.inl, fun h => h.elim id fun h => h ▸ e⟩
        · rw [List.mem_append, List.mem_singleton]
  · rintro ⟨m, v⟩ ⟨h1, h9, h2, h3, h4, h5, hv⟩
    dsimp only at h1 h2 h3 h4 h5 hv
    subst hv
    simp only [bags_Check_L5]
    rw [List.take_length] at h9
    exact .condF (decide_eq_false (by show ¬ (c.length : Int) < c.length; omega)) (.one ⟨h9, h2, by omega, h4, h5⟩)
  · obtain ⟨F, h2, h3, h4, h5⟩ := h
    obtain ⟨K, hK⟩ : ∃ K, K = (m.map (·.1)).mergeSort fun x y => decide (x ≤ y) := ⟨_, rfl⟩
    have hs : sortedKeys140 N m = some K := by
      have wf : ∀ z : Int, 1 ≤ z → z ≤ 1000 → wfI z = true := fun z h1 h2 => by
        simp [wfI, Lit.wf, IntKind.min, IntKind.max, IntKind.bits, IntKind.signed]; omega
      have hall : (m.all fun p => wfI p.1 && wfI p.2) = true := by
        rw [List.all_eq_true]
        intro p hp
        have := h4 p hp
        rw [Bool.and_eq_true]
        exact ⟨wf _ (by omega) (by omega), wf _ (by omega) (by omega)⟩
      unfold sortedKeys140 skeys
      rw [if_pos ⟨hall, by omega⟩, hK]
    have hperm : K.Perm (m.map (·.1)) := by rw [hK]; exact List.mergeSort_perm ..
    have hKp : K.Pairwise (· < ·) := by
      have hle : K.Pairwise fun x y => decide (x ≤ y) = true := by
        rw [hK]
        exact List.pairwise_mergeSort (fun a b c h1 h2 => by simp only [decide_eq_true_eq] at *; omega) (fun a b => by simp only [Bool.or_eq_true, decide_eq_true_eq]; omega) _
      have hnd : K.Nodup := hperm.nodup_iff.2 h2
      refine (hle.and hnd).imp fun h => ?_
      have := of_decide_eq_true h.1
      have := h.2
      omega
    have hKm : ∀ n, n ∈ K ↔ ∃ i, i < c.length ∧ (c.getD i Call.z).arg = n := fun n => (hperm.mem_iff).trans (h5 n)
    have hKl : K.length ≤ 200 := by rw [hperm.length_eq, List.length_map]; exact h3
    refine .seq (P := fun out => out = K.filter fun n => !okF N l n) (.bdO (a := ()) rfl (.bdO hs ?_)) fun out _ ho => .one (.inr ⟨F, rfl, K, hKp, hKm, ho⟩)
    refine .iter K.length (fun k st => st.1 = (K.take k).filter (fun n => !okF N l n) ∧ st.2 = (k : Int)) (by omega) ⟨rfl, rfl⟩ ?_ ?_
    · rintro k ⟨out, v⟩ hk ⟨ho, hv⟩
      dsimp only at ho hv
      subst ho; subst hv
      simp only [bags_Check_L7]
      refine .condT (decide_eq_true (by omega)) (.ix hk (.bdO (a := ()) rfl ?_))
      obtain ⟨p, r, c', op', idx, pos, q1, _, q2, q3, _, _⟩ := okF_wp hN ht hl R (n := K[k]) (F _)
      refine .bdO q1 (.bdO q2 ?_)
      have htk : (K.take (k + 1)).filter (fun n => !okF N l n) = (K.take k).filter (fun n => !okF N l n) ++ if okF N l K[k] then [] else [K[k]] := by
        rw [List.take_add_one, List.getElem?_eq_getElem hk, List.filter_append]
        congr 1
        show List.filter _ [K[k]] = _
        rw [List.filter_cons]
        cases okF N l K[k] <;> rfl
      have hfl : ((K.take k).filter (fun n => !okF N l n)).length ≤ 200 := Nat.le_trans (List.length_filter_le _ _) (by rw [List.length_take]; omega)
      refine .cond (fun h => .ck (limB_of ⟨?_, ?_⟩) (.ck64 (by omega) (.one ⟨?_, by simp⟩))) fun h => .ck64 (by omega) (.one ⟨?_, by simp⟩)
      · simp only [List.length_singleton]; exact Nat.le_trans (m := 2000) (by omega) (by decide)
      · simp only [List.length_singleton]; omega
      · rw [q3, Bool.not_eq_true'] at h
        rw [htk, h]; rfl
      · rw [q3, Bool.not_eq_false'] at h
        rw [htk, h]; exact (List.append_nil _).symm
    · rintro ⟨out, v⟩ ⟨ho, hv⟩
      dsimp only at ho hv
      subst ho; subst hv
      simp only [bags_Check_L7]
      exact .condF (decide_eq_false (by omega)) (.one (by rw [List.take_length]))
/-- What Check tells. -/
theorem check_all {N : Nat} (hN : 300 < N) (l : List Event) : Wp (bags_Check N l) fun r => (r.2 ≠ 0 ∧ r.1 = []) ∨ (r.2 = 0 ∧ history_Types N [4] = some 0 ∧ l.length ≤ 200 ∧ ∃ c op, RnH N [4] l l.length c op ∧ Few c ∧ ∃ K : List Int, K.Pairwise (· < ·) ∧ (∀ n, n ∈ K ↔ ∃ i, i < c.length ∧ (c.getD i Call.z).arg = n) ∧ r.1 = K.filter fun n => !okF N l n) := by
  obtain ⟨⟨c, e, er⟩, hc, h⟩ := calls_rn (types := [4]) (l := l) hN
  by_cases h0 : er = 0
  · subst h0
    obtain ⟨ht, _, hl, _, op, R⟩ := h rfl
    refine (check_rn hN ht hl R).mono fun r hr => ?_
    rcases hr with ⟨_, rfl⟩ | ⟨F, h1, h2⟩
    · exact .inl ⟨by simp, rfl⟩
    · exact .inr ⟨h1, ht, hl, c, op, R, F, h2⟩
  · unfold bags_Check
    exact .bdO (a := ()) rfl (.bdO hc (.condT (by simpa using h0) (.one (.inl ⟨h0, rfl⟩))))
end Bg

end Go.Proofs.YtjdkkabcenohcaaGreatDoor
