/- Chains: how they are looked for. -/
import Derived.Test.YtemckhkicfpgeaaO9
set_option linter.unusedVariables false
set_option linter.unusedSimpArgs false
set_option linter.unusedSectionVars false
set_option maxRecDepth 100000
namespace Go.Proofs.Ytemckhkicfpgeaa
open Go.RowKit
namespace Rl
/-! How a partition is looked for. -/
def Com (q : Nat → Nat → Bool) (g : Nat → Nat) (i : Nat) : Prop := ∀ x y, x < i → y < i → g x = g y → x = y ∨ q x y = true ∨ q y x = true
/-- Those below i are placed by a, into m chains; S is these chains. -/
structure Pl (n : Nat) (q : Nat → Nat → Bool) (i m : Nat) (a : Nat → Nat) (S : List Int) : Prop where
  lt : ∀ x, x < i → a x < m
  on : ∀ c, c < m → ∃ x, x < i ∧ a x = c
  com : Com q a i
  len : S.length = m
  row : ∀ c, c < m → Row (S.getD c 0) fun x => decide (x < i) && decide (a x = c)
/-- It can be brought to an end. -/
def Ext (n : Nat) (q : Nat → Nat → Bool) (W i : Nat) (a g : Nat → Nat) : Prop := (∀ x, x < i → g x = a x) ∧ (∀ x, x < n → g x < W) ∧ Com q g n
theorem Pl.le {n : Nat} {q : Nat → Nat → Bool} {i m : Nat} {a : Nat → Nat} {S : List Int} (P : Pl n q i m a S) : m ≤ i := by
  let f : Nat → Nat := fun c => if h : c < m then Classical.choose (P.on c h) else 0
  have hf : ∀ c, c < m → f c < i ∧ a (f c) = c := fun c h => by
    simp only [f, h, dif_pos]; exact Classical.choose_spec (P.on c h)
  have hnd : ((List.range m).map f).Nodup := by
    unfold List.Nodup
    rw [List.pairwise_map]
    refine List.Pairwise.imp_of_mem (fun {c d} hc hd hcd e => ?_) List.nodup_range
    have h1 := (hf c (List.mem_range.1 hc)).2
    have h2 := (hf d (List.mem_range.1 hd)).2
    rw [e] at h1
    exact hcd (h1.symm.trans h2)
  have := pig_lt (n := i) hnd fun x hx => by
    obtain ⟨c, hc, rfl⟩ := List.mem_map.1 hx
    exact (hf c (List.mem_range.1 hc)).1
  simpa using this
/-- An unused one for another. -/
theorem ext_swap {n : Nat} {q : Nat → Nat → Bool} {W i m c : Nat} {a g : Nat → Nat} (ha : ∀ x, x < i → a x < m) (hi : i < n) (hmc : m ≤ c) (E : Ext n q W i a g) (hc : g i = c) : ∃ g', Ext n q W i a g' ∧ g' i = m := by
  obtain ⟨h1, h2, h3⟩ := E
  have hcW := h2 i hi
  refine ⟨fun x => if g x = c then m else if g x = m then c else g x, ⟨fun x hx => ?_, fun x hx => ?_, fun x y hx hy e => ?_⟩, ?_⟩
  · simp only
    have g1 := ha x hx
    rw [h1 x hx, if_neg (by omega), if_neg (by omega)]
  · simp only
    have := h2 x hx
    split
    · omega
    · split <;> omega
  · simp only at e
    refine h3 x y hx hy ?_
    by_cases e1 : g x = c <;> by_cases e2 : g y = c <;> simp only [e1, e2, if_true, if_false] at e ⊢
    · split at e
      · omega
      · rename_i h; exact absurd e.symm h
    · split at e
      · omega
      · rename_i h; exact absurd e h
    · split at e <;> split at e <;> omega
  · simp only [hc, if_true]
/-- One more is placed. -/
theorem Pl.next {n : Nat} {q : Nat → Nat → Bool} {i m k : Nat} {a : Nat → Nat} {S : List Int} (P : Pl n q i m a S) (hi : i < 12) (hk : k < m) (hf : ∀ x, x < i → a x = k → q i x = true ∨ q x i = true) :
    Pl n q (i + 1) m (fun x => if x = i then k else a x) (S.set k (borI .u16 (S.getD k 0) (shlI .u16 1 (IntKind.u64.wrap (i : Int))))) := by
  have hl := P.len
  refine ⟨fun x hx => ?_, fun c hc => ?_, fun x y hx hy e => ?_, by simpa using hl, fun c hc => ?_⟩
  · split
    · exact hk
    · exact P.lt x (by omega)
  · obtain ⟨x, h1, h2⟩ := P.on c hc
    exact ⟨x, by omega, by show (if x = i then k else a x) = c; rw [if_neg (by omega)]; exact h2⟩
  · by_cases e1 : x = i <;> by_cases e2 : y = i <;> simp only [e1, e2, if_true, if_false] at e ⊢
    · exact .inl trivial
    · rcases hf y (by omega) e.symm with h | h
      · exact .inr (.inl h)
      · exact .inr (.inr h)
    · rcases hf x (by omega) e with h | h
      · exact .inr (.inr h)
      · exact .inr (.inl h)
    · exact P.com x y (by omega) (by omega) e
  · have hs : (S.set k (borI .u16 (S.getD k 0) (shlI .u16 1 (IntKind.u64.wrap (i : Int))))).getD c 0 = if c = k then borI .u16 (S.getD k 0) (shlI .u16 1 (IntKind.u64.wrap (i : Int))) else S.getD c 0 := at_set (by omega)
    rw [hs]
    by_cases e : c = k
    · subst e
      rw [if_pos rfl]
      refine ((P.row c hc).set (j := i) (by omega)).cong fun x => ?_
      by_cases e : x = i
      · subst e; simp
      · have e' : ¬ i = x := fun h => e h.symm
        simp only [e, e', decide_false, Bool.or_false, if_false]
        congr 1
        exact decide_eq_decide.2 (by omega)
    · rw [if_neg e]
      refine (P.row c hc).cong fun x => ?_
      by_cases e2 : x = i
      · subst e2
        have e' : ¬ k = c := fun h => e h.symm
        simp [e']
      · simp only [e2, if_false]
        congr 1
        exact decide_eq_decide.2 (by omega)
/-- A new chain, still empty. -/
theorem getD_app0 {S : List Int} {c : Nat} : (S ++ [(0 : Int)]).getD c 0 = if c < S.length then S.getD c 0 else 0 := by
  simp only [List.getD_eq_getElem?_getD]
  split
  · rw [List.getElem?_append_left (by assumption)]
  · rw [List.getElem?_append_right (by omega)]
    cases c - S.length with
    | zero => rfl
    | succ d => rfl
theorem Pl.newc {n : Nat} {q : Nat → Nat → Bool} {i m : Nat} {a : Nat → Nat} {S : List Int} (P : Pl n q i m a S) (hi : i < 12) :
    Pl n q (i + 1) (m + 1) (fun x => if x = i then m else a x) ((S ++ [(0 : Int)]).set m (borI .u16 ((S ++ [(0 : Int)]).getD m 0) (shlI .u16 1 (IntKind.u64.wrap (i : Int))))) := by
  have hl := P.len
  refine ⟨fun x hx => ?_, fun c hc => ?_, fun x y hx hy e => ?_, by simp [hl], fun c hc => ?_⟩
  · split
    · omega
    · have := P.lt x (by omega); omega
  · by_cases e : c = m
    · exact ⟨i, by omega, by simp [e]⟩
    · obtain ⟨x, h1, h2⟩ := P.on c (by omega)
      exact ⟨x, by omega, by show (if x = i then m else a x) = c; rw [if_neg (by omega)]; exact h2⟩
  · by_cases e1 : x = i <;> by_cases e2 : y = i <;> simp only [e1, e2, if_true, if_false] at e ⊢
    · exact .inl trivial
    · have := P.lt y (by omega); omega
    · have := P.lt x (by omega); omega
    · exact P.com x y (by omega) (by omega) e
  · have hs : ((S ++ [(0 : Int)]).set m (borI .u16 ((S ++ [(0 : Int)]).getD m 0) (shlI .u16 1 (IntKind.u64.wrap (i : Int))))).getD c 0 = if c = m then borI .u16 ((S ++ [(0 : Int)]).getD m 0) (shlI .u16 1 (IntKind.u64.wrap (i : Int))) else (S ++ [(0 : Int)]).getD c 0 := at_set (by simp [hl])
    rw [hs, getD_app0, getD_app0, if_neg (show ¬ m < S.length by omega)]
    by_cases e : c = m
    · subst e
      rw [if_pos rfl]
      refine (Row.zero.set (j := i) (by omega)).cong fun x => ?_
      by_cases e : x = i
      · subst e; simp
      · have e' : ¬ i = x := fun h => e h.symm
        simp only [e, e', decide_false, Bool.or_false, if_false]
        by_cases hx : x < i + 1
        · have := P.lt x (by omega)
          have : ¬ a x = c := by omega
          simp [this]
        · simp [hx]
    · rw [if_neg e, if_pos (by omega)]
      refine (P.row c (by omega)).cong fun x => ?_
      by_cases e2 : x = i
      · subst e2
        have e' : ¬ m = c := fun h => e h.symm
        simp [e']
      · simp only [e2, if_false]
        congr 1
        exact decide_eq_decide.2 (by omega)
theorem fits_wp {N : Nat} (hN : 5000 < N) {n : Nat} {A : List Int} {q : Nat → Nat → Bool} (C : CR ⟨n, A⟩ n q) {i : Nat} (hi : i < 12) {x W : Int} {p : Nat → Bool} (hx : Row x p) (o S : List Int) : Wp (order_partition_fits N ⟨n, A⟩ W o S (i : Int) x) fun b => b = true ↔ ∀ y, p y = true → q i y = true ∨ q y i = true := by
  unfold order_partition_fits
  obtain ⟨y, hy, hrow⟩ := before_ok (N := N) (by omega) C (j := i) (by omega)
  refine .axN hi (.bdO hy (.one ?_))
  rw [decide_eq_true_eq, (hx.clr ((C.row i hi).or hrow)).empty]
  constructor
  · intro h y hy
    have := h y
    simp only [hy, Bool.true_and, Bool.not_eq_false', Bool.or_eq_true] at this
    exact this
  · intro h y
    cases hp : p y with
    | false => rfl
    | true =>
      rcases h y hp with h | h <;> simp [h]
theorem ext_eq {S T : List Int} (hl : S.length = T.length) (h : ∀ c, c < S.length → S.getD c 0 = T.getD c 0) : S = T := by
  apply List.ext_getElem hl
  intro c h1 h2
  have := h c h1
  rw [getD_of h1, getD_of h2] at this
  exact this
/-- What place tells. -/
def PlaceR (n : Nat) (q : Nat → Nat → Bool) (W i : Nat) (a : Nat → Nat) (S : List Int) (r : List Int × List Int × Bool) : Prop :=
  r.1.length = n ∧ ((r.2.2 = true ∧ ∃ g, (∀ x, x < n → g x < W) ∧ Com q g n ∧ ∀ x, x < n → at_ r.1 x = (g x : Nat)) ∨ (r.2.2 = false ∧ r.2.1 = S ∧ (∀ x, x < i → at_ r.1 x = (a x : Nat)) ∧ ¬ ∃ g, Ext n q W i a g))
theorem place_wp {N : Nat} (hN : 5000 < N) {n : Nat} {A : List Int} {q : Nat → Nat → Bool} (C : CR ⟨n, A⟩ n q) {W : Nat} (hW : W ≤ 12) : ∀ (M i m : Nat) (a : Nat → Nat) (o S : List Int), i ≤ n → n - i < M → m ≤ W → Pl n q i m a S → o.length = n → (∀ x, x < i → at_ o x = (a x : Nat)) → Wp (order_partition_place N M ⟨n, A⟩ (W : Int) o S (i : Int)) (PlaceR n q W i a S) := by
  have hle := C.le
  intro M
  induction M with
  | zero => intro i m a o S hi hM; omega
  | succ M ih =>
    intro i m a o S hi hM hmW P ho hoa
    have hm := P.le
    have hSl := P.len
    show Wp (order_partition_place_B N (order_partition_place N M) ⟨n, A⟩ (W : Int) o S (i : Int)) _
    unfold order_partition_place_B
    refine .cond (fun h => .one ?_) fun h => ?_
    · have : i = n := by
        have h' : (i : Int) = (n : Int) := of_decide_eq_true h
        omega
      subst this
      exact ⟨ho, .inl ⟨rfl, a, fun x hx => by have := P.lt x hx; omega, P.com, hoa⟩⟩
    have hin : i < n := by
      have : ¬ (i : Int) = n := of_decide_eq_false h
      omega
    refine .elim (P := fun t => match t with | .inl t => PlaceR n q W i a S (t.1, t.2, false) | .inr t => PlaceR n q W i a S t) (.ck64 (by omega) ?_) (fun t _ ht => .one ht) fun t _ ht => .one ht
    refine .iter (min (m + 1) W) (fun k st => st.2.2 = (k : Int) ∧ st.1.length = n ∧ (∀ x, x < i → at_ st.1 x = (a x : Nat)) ∧ st.2.1 = S ∧ ∀ k', k' < k → ¬ ∃ g, Ext n q W i a g ∧ g i = k') (by omega) ⟨rfl, ho, hoa, rfl, fun k' h => absurd h (Nat.not_lt_zero _)⟩ ?_ ?_
    · rintro k ⟨o1, S1, v⟩ hk ⟨hv, h1, h2, h3, h4⟩
      simp only at hv h1 h2 h3 h4
      subst hv; subst h3
      simp only [order_partition_place_L7]
      refine .condT (decide_eq_true (by omega)) ?_
      -- the chains, with a new one if there is none so far
      let T : List Int := if k = m then S1 ++ [(0 : Int)] else S1
      have hTl : T.length = if k = m then m + 1 else m := by
        simp only [T]
        split
        · simp [hSl]
        · exact hSl
      have hkT : k < T.length := by rw [hTl]; split <;> omega
      refine .seq (P := fun t => t = T) ?_ fun t _ ht => ?_
      · by_cases e : k = m
        · refine .condT (decide_eq_true (by omega)) (.ck (limB_of (by simp only [List.length_cons, List.length_nil]; unfold maxLen; omega)) (.one ?_))
          simp only [T, e, if_true]
        · refine .condF (decide_eq_false (by omega)) (.one ?_)
          simp only [T, e, if_false]
      subst ht
      have hTrow : Row (T.getD k 0) fun x => decide (x < i) && decide (a x = k) := by
        simp only [T]
        split
        · rename_i e; subst e
          rw [getD_app0, if_neg (by omega)]
          refine Row.zero.cong fun x => ?_
          by_cases hx : x < i
          · have := P.lt x hx
            have : ¬ a x = k := by omega
            simp [this]
          · simp [hx]
        · exact P.row k (by omega)
      have hTback : ∀ U : List Int, U = T → ((if U.getD (U.length - 1) 0 = 0 then U.take (U.length - 1) else U) = S1) := by
        rintro U rfl
        by_cases e : k = m
        · have eT : T = S1 ++ [(0 : Int)] := by simp only [T, e, if_true]
          rw [eT]
          have e2 : (S1 ++ [(0 : Int)]).getD ((S1 ++ [(0 : Int)]).length - 1) 0 = 0 := by rw [getD_app0, if_neg (by simp)]
          rw [if_pos e2]
          simp
        · have eT : T = S1 := by simp only [T, e, if_false]
          rw [eT, if_neg]
          intro h0
          obtain ⟨x, hx, hxc⟩ := P.on (m - 1) (by omega)
          have := ((P.row (m - 1) (by omega)).empty.1 (by rw [← hSl]; exact h0)) x
          simp [hx, hxc] at this
      -- what comes behind
      have hfin : ∀ (o2 : List Int), o2.length = n → (∀ x, x < i → at_ o2 x = (a x : Nat)) → (¬ ∃ g, Ext n q W i a g ∧ g i = k) →
          Wp (ck (ok64 (((T).length : Int) - 1)) <| bd (ix T (((T).length : Int) - 1)) fun (x44 : Int) =>
            cond (decide (x44 = 0))
              (ck (ok64 (((T).length : Int) - 1)) <| ck (slB (T).length 0 (((T).length : Int) - 1)) <| ck (ok64 ((k : Int) + 1)) <|
              some ((.inl (o2, (T.take (((T).length : Int) - 1).toNat), ((k : Int) + 1))) : (((List Int) × (List Int) × Int) ⊕ (((List Int) × (List Int)) ⊕ ((List Int) × (List Int) × Bool)))))
              (ck (ok64 ((k : Int) + 1)) <| some (.inl (o2, T, ((k : Int) + 1)))))
          fun t => match t with
            | .inl st => st.2.2 = ((k + 1 : Nat) : Int) ∧ st.1.length = n ∧ (∀ x, x < i → at_ st.1 x = (a x : Nat)) ∧ st.2.1 = S1 ∧ ∀ k', k' < k + 1 → ¬ ∃ g, Ext n q W i a g ∧ g i = k'
            | .inr t => match t with | .inl t => PlaceR n q W i a S1 (t.1, t.2, false) | .inr t => PlaceR n q W i a S1 t := by
        intro o2 g1 g2 g3
        have hb := hTback T rfl
        have hTn : (((T.length : Nat) : Int) - 1).toNat = T.length - 1 := by omega
        have hTle : T.length ≤ 13 := by rw [hTl]; split <;> omega
        have more : ∀ k', k' < k + 1 → ¬ ∃ g, Ext n q W i a g ∧ g i = k' := fun k' hk' => by
          by_cases e : k' = k
          · subst e; exact g3
          · exact h4 k' (by omega)
        refine .ck64 (by omega) (.ixD 0 (by omega) (by omega) ?_)
        rw [hTn]
        refine .cond (fun h => .ck64 (by omega) (.ck (by simp [slB]; omega) (.ck64 (by omega) (.one ⟨by simp, g1, g2, ?_, more⟩)))) fun h => .ck64 (by omega) (.one ⟨by simp, g1, g2, ?_, more⟩)
        · rw [if_pos (of_decide_eq_true h)] at hb; exact hb
        · rw [if_neg (of_decide_eq_false h)] at hb; exact hb
      obtain ⟨b, hb1, hb2⟩ := fits_wp hN C (i := i) (by omega) (W := (W : Int)) hTrow o1 T
      refine .seq (P := fun t => match t with | .inl t => t.1.length = n ∧ (∀ x, x < i → at_ t.1 x = (a x : Nat)) ∧ t.2 = T ∧ ¬ ∃ g, Ext n q W i a g ∧ g i = k | .inr t => PlaceR n q W i a S1 t) ?_ fun t _ ht => ?_
      · refine .ixD 0 (by omega) (by omega) ?_
        rw [Int.toNat_natCast]
        refine .bdO hb1 (.cond (fun hb => ?_) fun hb => .one ⟨h1, h2, rfl, ?_⟩)
        · have hfit := hb2.1 hb
          refine .ixD 0 (by omega) (by omega) (.ixD 0 (by omega) (by omega) (.ixD 0 (by omega) (by omega) (.ck64 (by omega) ?_)))
          simp only [Int.toNat_natCast]
          have P2 : Pl n q (i + 1) (if k = m then m + 1 else m) (fun x => if x = i then k else a x) (T.set k (borI .u16 (T.getD k 0) (shlI .u16 1 (IntKind.u64.wrap (i : Int))))) := by
            simp only [T]
            split
            · rename_i e; subst e; exact P.newc (by omega)
            · rename_i e
              exact P.next (by omega) (by omega) fun x hx hax => hfit x (by simp [hx, hax])
          have hset : ∀ x, at_ (o1.set i (k : Int)) x = if x = i then (k : Int) else at_ o1 x := fun x => at_set (by omega)
          have hself := ih (i + 1) (if k = m then m + 1 else m) (fun x => if x = i then k else a x) (o1.set i (k : Int)) _ (by omega) (by omega) (by split <;> omega) P2 (by simpa using h1) (fun x hx => by
            rw [hset]
            by_cases e : x = i
            · simp [e]
            · simp only [e, if_false]; exact h2 x (by omega))
          rw [show ((i + 1 : Nat) : Int) = (i : Int) + 1 by simp] at hself
          refine .seq hself fun r _ hr => ?_
          obtain ⟨r1, r2⟩ := hr
          rcases r2 with ⟨r2, r3⟩ | ⟨r2, r3, r4, r5⟩
          · rw [r2]
            exact .one ⟨r1, .inl ⟨rfl, r3⟩⟩
          · rw [r2, r3]
            have hsl : (T.set k (borI .u16 (T.getD k 0) (shlI .u16 1 (IntKind.u64.wrap (i : Int))))).length = T.length := by simp
            refine .ixD 0 (by omega) (by omega) (.ixD 0 (by omega) (by omega) (.one ⟨r1, fun x hx => ?_, ?_, ?_⟩))
            · have h7 : at_ r.1 x = (((if x = i then k else a x : Nat)) : Int) := r4 x (by omega)
              rw [if_neg (by omega)] at h7
              exact h7
            · simp only [Int.toNat_natCast]
              refine ext_eq (by simp) fun c hc => ?_
              have hc' : c < T.length := by simpa using hc
              have v1 : ∀ (U : List Int) (z : Int) (d : Nat), k < U.length → (U.set k z).getD d 0 = if d = k then z else U.getD d 0 := fun U z d h => at_set h
              rw [v1 _ _ _ (by simpa using hkT), v1 _ _ _ hkT, v1 _ _ _ hkT, if_pos rfl]
              by_cases e : c = k
              · subst e
                rw [if_pos rfl]
                rw [wrapU64 (by omega) (by omega)]
                have h5 := ((hTrow.or (Row.one (j := i) (by omega))).clr (Row.one (j := i) (by omega)))
                refine h5.eq (hTrow.cong fun x => ?_)
                by_cases e : i = x
                · subst e; simp
                · simp [e]
              · rw [if_neg e, if_neg e]
            · rintro ⟨g, ⟨e1, e2, e3⟩, e4⟩
              refine r5 ⟨g, ⟨fun x hx => ?_, e2, e3⟩⟩
              simp only
              split
              · rename_i e; subst e; exact e4
              · exact e1 x (by omega)
        · rintro ⟨g, ⟨e1, e2, e3⟩, e4⟩
          have : b = true := hb2.2 fun x hx => by
            simp only [Bool.and_eq_true, decide_eq_true_eq] at hx
            obtain ⟨hx1, hx2⟩ := hx
            rcases e3 i x (by omega) (by omega) (by rw [e4, e1 x hx1, hx2]) with h | h | h
            · omega
            · exact .inl h
            · exact .inr h
          rw [this] at hb; cases hb
      · rcases t with ⟨o2, S2⟩ | t
        · obtain ⟨g1, g2, g3, g4⟩ := ht
          simp only at g1 g2 g3
          subst g3
          refine .inlE (Wp.mono (hfin o2 g1 g2 g4) fun t ht => ?_)
          rcases t with t | t | t <;> exact ht
        · exact .inrE (.one ht)
    · rintro ⟨o1, S1, v⟩ ⟨hv, h1, h2, h3, h4⟩
      simp only at hv h1 h2 h3 h4
      subst hv; subst h3
      simp only [order_partition_place_L7]
      refine .condF (decide_eq_false (by omega)) (.one ⟨h1, .inr ⟨rfl, rfl, h2, ?_⟩⟩)
      rintro ⟨g, E⟩
      have hgi := E.2.1 i hin
      by_cases hgm : g i < m
      · exact h4 (g i) (by omega) ⟨g, E, rfl⟩
      · obtain ⟨g', E', e'⟩ := ext_swap P.lt hin (by omega) E rfl
        exact h4 m (by omega) ⟨g', E', e'⟩
end Rl

end Go.Proofs.Ytemckhkicfpgeaa
