/- Join, plainly. -/
import Derived.Test.YtpakplmpihhmbaaLJ1
set_option linter.unusedVariables false
set_option linter.unusedSimpArgs false
set_option linter.unusedSectionVars false
set_option maxRecDepth 100000
namespace Go.Proofs.Ytpakplmpihhmbaa
open Go.RowKit
namespace Lc
open Hs Rl Sr
theorem mget_step {m : List (Int × Step)} {k : Int} {s : Step} (j : Int) : mget (mput m k s) j = if k = j then some s else mget m j := mget_put s k j m
theorem flat_take {w : List (List Step)} {z : Nat} (hz : z < w.length) : (w.take (z + 1)).flatten = (w.take z).flatten ++ w.getD z [] := by
  rw [getD_of hz, ← List.take_append_getElem hz, List.flatten_append]; simp
/-- What stands in the middle of Join. -/
structure Mid (c : List Call) (ws : List (List Step)) (u : List Step) (A : List Int) (m : List (Int × Step)) : Prop where
  form : Form c (ws ++ [u])
  got : ∀ s ∈ (ws ++ [u]).flatten, mget m s.call = some s
  only : ∀ i s, mget m i = some s → s ∈ (ws ++ [u]).flatten ∧ s.call = i
  row : ∀ i, i < 12 → Row (A.getD i 0) (qJ c (ws ++ [u]) i)
theorem qJ_snoc {c : List Call} {ws : List (List Step)} {u : List Step} {s : Step} (i j : Nat) : qJ c (ws ++ [u ++ [s]]) i j = (qJ c (ws ++ [u]) i j || (decide (i ∈ nums u) && decide (s.call.toNat = j))) := by
  unfold qJ
  rw [List.any_append, List.any_append, List.any_cons, List.any_cons, List.any_nil, nums_app]
  have : nums [s] = [s.call.toNat] := rfl
  rw [this, prn_snoc]
  cases bfA c i j <;> cases ws.any (fun u => prn (nums u) i j) <;> cases prn (nums u) i j <;> simp
theorem qJ_nil {c : List Call} {ws : List (List Step)} (i j : Nat) : qJ c (ws ++ [[]]) i j = qJ c ws i j := by
  unfold qJ
  rw [List.any_append]
  simp [nums, prn]
theorem Form.nil1 {c : List Call} {ws : List (List Step)} (F : Form c ws) : Form c (ws ++ [[]]) := by
  refine ⟨fun z hz s hs => ?_, by rw [List.flatten_append]; simpa using F.nd⟩
  rw [List.length_append, List.length_singleton] at hz
  rcases Nat.lt_or_ge z ws.length with h | h
  · rw [getDn_app h] at hs; exact F.at_ z h s hs
  · obtain rfl : z = ws.length := by omega
    have e : (ws ++ [[]]).getD ws.length [] = ([] : List Step) := by rw [List.getD_eq_getElem?_getD, List.getElem?_concat_length]; rfl
    rw [e] at hs; cases hs
theorem inner_wp {N : Nat} (hN : 300 < N) {x : List Step} {k : Nat} (hk : k < x.length) (hkl : k ≤ 200) {s : Step} (hs : s.call.toNat < 12 ∧ 0 ≤ s.call) (hx : ∀ y ∈ x.take k, 0 ≤ y.call ∧ y.call < 12) {A : List Int} {q : Nat → Nat → Bool} (hA : ∀ i, i < 12 → Row (A.getD i 0) (q i)) (m : List (Int × Step)) :
    Wp (iter (local_Join_L173 N x (k : Int) s m) N (A, 0)) fun r => r.2 = mput m s.call s ∧ ∀ i, i < 12 → Row (r.1.getD i 0) fun j => q i j || (decide (i ∈ nums (x.take k)) && decide (s.call.toNat = j)) := by
  have hlen : (x.take k).length = k := by rw [List.length_take]; omega
  refine .iter k (fun a st => st.2 = (a : Int) ∧ ∀ i, i < 12 → Row (st.1.getD i 0) fun j => q i j || (decide (i ∈ nums ((x.take k).take a)) && decide (s.call.toNat = j))) (by omega) ⟨rfl, fun i hi => (hA i hi).cong fun j => by simp [nums]⟩ ?_ ?_
  · rintro a ⟨B, v⟩ ha ⟨hv, hB⟩
    dsimp only at hv hB
    subst hv
    simp only [local_Join_L173, Int.toNat_natCast]
    have hak : a < (x.take k).length := by omega
    obtain ⟨y, hy⟩ : ∃ y, (x.take k)[a] = y := ⟨_, rfl⟩
    have hyx := hx y (by rw [← hy]; exact List.getElem_mem hak)
    obtain ⟨b, hb⟩ : ∃ b : Nat, y.call = b := ⟨y.call.toNat, by omega⟩
    obtain ⟨d, hd⟩ : ∃ d : Nat, s.call = d := ⟨s.call.toNat, by omega⟩
    refine .condT (decide_eq_true (by omega)) (.ix hak ?_)
    rw [hy, hb]
    refine .axN (by omega) (.axN (by omega) (.ck64 (by omega) (.one ⟨by simp, fun i hi => ?_⟩)))
    have e0 : (x.take k).take (a + 1) = (x.take k).take a ++ [y] := by rw [← hy]; exact (List.take_append_getElem hak).symm
    have e1 : nums ((x.take k).take (a + 1)) = nums ((x.take k).take a) ++ [b] := by rw [e0, nums_app]; simp [nums, hb]
    simp only
    rw [setA_get hi, e1]
    simp only [Int.toNat_natCast]
    by_cases h : i = b
    · subst h
      rw [if_pos rfl, hd]
      refine ((hB i hi).set (j := d) (by omega)).cong fun j => ?_
      have : s.call.toNat = d := by omega
      rw [this]
      by_cases h2 : d = j
      · subst h2; simp
      · simp [h2]
    · rw [if_neg h]
      refine (hB i hi).cong fun j => ?_
      have : i ∈ nums ((x.take k).take a) ++ [b] ↔ i ∈ nums ((x.take k).take a) := by
        rw [List.mem_append, List.mem_singleton]
        exact ⟨fun h2 => h2.elim id fun h3 => (h h3).elim, .inl⟩
      rw [decide_eq_decide.2 this]
  · rintro ⟨B, v⟩ ⟨hv, hB⟩
    dsimp only at hv hB
    subst hv
    simp only [local_Join_L173, Int.toNat_natCast]
    refine .condF (decide_eq_false (by omega)) (.one ⟨rfl, fun i hi => ?_⟩)
    have := hB i hi
    rwa [List.take_of_length_le (by omega)] at this
/-- A step more. -/
theorem Mid.step {c : List Call} (h12 : c.length ≤ 12) {ws : List (List Step)} {u : List Step} {A B : List Int} {m : List (Int × Step)} (M : Mid c ws u A m) {s : Step} (h0 : 0 ≤ s.call) (h1 : s.call < c.length) (h2 : (c.getD s.call.toNat Call.z).thing = (ws.length : Int)) (h3 : mget m s.call = none)
    (hB : ∀ i, i < 12 → Row (B.getD i 0) fun j => qJ c (ws ++ [u]) i j || (decide (i ∈ nums u) && decide (s.call.toNat = j))) : Mid c ws (u ++ [s]) B (mput m s.call s) := by
  have ef : (ws ++ [u ++ [s]]).flatten = (ws ++ [u]).flatten ++ [s] := by simp
  have hnew : s.call.toNat ∉ nums (ws ++ [u]).flatten := fun h => by
    obtain ⟨t, ht, e⟩ := nums_mem.1 h
    obtain ⟨_, _, _, t0, _, _⟩ := M.form.mem ht
    have := M.got t ht
    rw [show t.call = s.call by omega, h3] at this; cases this
  refine ⟨⟨fun z hz t ht => ?_, ?_⟩, fun t ht => ?_, fun i t ht => ?_, fun i hi => (hB i hi).cong fun j => (qJ_snoc i j).symm⟩
  · rw [List.length_append, List.length_singleton] at hz
    have hF := M.form.at_ z (by rw [List.length_append, List.length_singleton]; exact hz)
    rcases Nat.lt_or_ge z ws.length with h | h
    · rw [getDn_app h] at ht hF; exact hF t ht
    · obtain rfl : z = ws.length := by omega
      have e : ∀ v : List Step, (ws ++ [v]).getD ws.length [] = v := fun v => by rw [List.getD_eq_getElem?_getD, List.getElem?_concat_length]; rfl
      rw [e] at ht hF
      rcases List.mem_append.1 ht with ht | ht
      · exact hF t ht
      · rw [List.mem_singleton.1 ht]; exact ⟨h0, h1, h2⟩
  · rw [ef, nums_app]
    have e : nums [s] = [s.call.toNat] := rfl
    rw [e]
    exact List.nodup_append.2 ⟨M.form.nd, by simp, fun a ha b hb e => hnew (by rw [List.mem_singleton] at hb; rw [← hb, ← e]; exact ha)⟩
  · rw [ef] at ht
    rw [mget_step]
    rcases List.mem_append.1 ht with ht | ht
    · rw [if_neg]
      · exact M.got t ht
      · intro e
        have := M.got t ht
        rw [← e, h3] at this; cases this
    · rw [List.mem_singleton.1 ht, if_pos rfl]
  · rw [mget_step] at ht
    rw [ef]
    by_cases e : s.call = i
    · rw [if_pos e] at ht
      obtain rfl := Option.some.inj ht
      exact ⟨List.mem_append.2 (.inr (List.mem_singleton.2 rfl)), e⟩
    · rw [if_neg e] at ht
      obtain ⟨a, b⟩ := M.only i t ht
      exact ⟨List.mem_append.2 (.inl a), b⟩
theorem Mid.len {c : List Call} {ws : List (List Step)} {u : List Step} {A : List Int} {m : List (Int × Step)} (M : Mid c ws u A m) : u.length ≤ c.length := by
  have F := M.form
  have hz : ws.length < (ws ++ [u]).length := by simp
  have e : (ws ++ [u]).getD ws.length [] = u := by rw [List.getD_eq_getElem?_getD, List.getElem?_concat_length]; rfl
  have h1 := F.sub hz
  rw [e] at h1
  have h2 : ∀ x ∈ nums u, x < c.length := fun x hx => by
    obtain ⟨s, hs, rfl⟩ := nums_mem.1 hx
    have := F.at_ _ hz s (by rw [e]; exact hs)
    omega
  have := pig_lt h1 h2
  unfold nums at this
  simpa using this
/-- Not right of form. -/
def Bad (c : List Call) (w : List (List Step)) : Prop := ¬ Form c w
theorem bad_of {c : List Call} {w : List (List Step)} {z k : Nat} (hz : z < w.length) (hk : k < (w.getD z []).length) (h : ¬ (0 ≤ ((w.getD z [])[k]).call ∧ ((w.getD z [])[k]).call < c.length ∧ (c.getD ((w.getD z [])[k]).call.toNat Call.z).thing = (z : Int))) : Bad c w := fun F => h (F.at_ z hz _ (List.getElem_mem hk))
theorem list_wp {N : Nat} (hN : 300 < N) {c : List Call} (h12 : c.length ≤ 12) (e0 : Int) {w : List (List Step)} {z : Nat} (hz : z < w.length) (hlN : (w.getD z []).length < N) {A : List Int} {m : List (Int × Step)} (M : Mid c (w.take z) [] A m) :
    Wp (iter (local_Join_L171 N (w.getD z []) (c, e0) (z : Int)) N (A, m, 0)) fun t => match t with | .inl r => Mid c (w.take z) (w.getD z []) r.1 r.2 | .inr r => r = ([], false, 3) ∧ Bad c w := by
  obtain ⟨x, hx⟩ : ∃ x, w.getD z [] = x := ⟨_, rfl⟩
  have hwl : (w.take z).length = z := by rw [List.length_take]; omega
  have hb := fun k hk => bad_of (c := c) (w := w) (z := z) (k := k) hz hk
  have hfl : ∀ k, k ≤ x.length → List.Sublist (w.take z ++ [x.take k]).flatten w.flatten := by
    intro k _
    have e : w.flatten = (w.take z).flatten ++ (x ++ (w.drop (z + 1)).flatten) := by
      have h1 : w = w.take z ++ (w[z] :: w.drop (z + 1)) := by rw [← List.drop_eq_getElem_cons hz, List.take_append_drop]
      have h2 : w[z] = x := by rw [← hx, getD_of hz]
      conv => lhs; rw [h1, h2]
      rw [List.flatten_append, List.flatten_cons]
    rw [e, List.flatten_append, List.flatten_singleton]
    exact List.Sublist.append_left ((List.take_sublist k x).trans (List.sublist_append_left _ _)) _
  rw [hx] at hb hlN ⊢
  refine .iter x.length (fun k st => Mid c (w.take z) (x.take k) st.1 st.2.1 ∧ st.2.2 = (k : Int)) hlN ⟨by rw [List.take_zero]; exact M, rfl⟩ ?_ ?_
  · rintro k ⟨B, n, v⟩ hk ⟨Mk, hv⟩
    dsimp only at Mk hv
    subst hv
    have hkl : k ≤ c.length := by
      have := Mk.len
      rw [List.length_take] at this; omega
    simp only [local_Join_L171]
    refine .condT (decide_eq_true (by omega)) ?_
    obtain ⟨s, hs⟩ : ∃ s, x[k] = s := ⟨_, rfl⟩
    have hb2 := hb k hk
    rw [hs] at hb2
    have e0' : x.take (k + 1) = x.take k ++ [s] := by rw [← hs]; exact (List.take_append_getElem hk).symm
    refine .elim (P := fun t => match t with | .inl r => Mid c (w.take z) (x.take (k + 1)) r.1 r.2 | .inr r => r = ([], false, 3) ∧ Bad c w) (.ix hk ?_) (fun r _ h => .ck64 (by omega) (.one ⟨h, by simp⟩)) (fun r _ h => .one h)
    rw [hs]
    by_cases hr : 0 ≤ s.call ∧ s.call < c.length
    · have hcond : ((decide (s.call < 0)) || (decide (((c).length : Int) ≤ s.call))) = false := by
        simp only [Bool.or_eq_false_iff, decide_eq_false_iff_not]; omega
      refine .gix Call.z (fun _ => ⟨hr.1, hr.2⟩) fun y hy => ?_
      have hy := hy (by rw [hcond]; rfl)
      subst hy
      rw [hcond, Bool.false_or]
      refine .cond (fun h => .one ⟨rfl, ?_⟩) fun h => ?_
      · rcases Bool.or_eq_true_iff.1 h with h | h
        · refine hb2 fun h2 => ?_
          have h : ¬ (c.getD s.call.toNat Call.z).thing = (z : Int) := by simpa using h
          exact h h2.2.2
        · intro F
          cases hg : mget n s.call with
          | none => rw [hg] at h; cases h
          | some t =>
            obtain ⟨g1, g2⟩ := Mk.only _ _ hg
            have hsub := hfl (k + 1) (by omega)
            rw [e0'] at hsub
            have ef : (w.take z ++ [x.take k ++ [s]]).flatten = (w.take z ++ [x.take k]).flatten ++ [s] := by simp
            rw [ef] at hsub
            have hnd : (nums ((w.take z ++ [x.take k]).flatten ++ [s])).Nodup := F.nd.sublist (by unfold nums; exact hsub.map _)
            rw [nums_app] at hnd
            have := (List.nodup_append.1 hnd).2.2 s.call.toNat (nums_mem.2 ⟨t, g1, by rw [g2]⟩) s.call.toNat (by simp [nums])
            exact this rfl
      · obtain ⟨g1, g2⟩ := Bool.or_eq_false_iff.1 h
        have g1 : (c.getD s.call.toNat Call.z).thing = (z : Int) := by simpa using g1
        have g2 : mget n s.call = none := by
          cases hg : mget n s.call with
          | none => rfl
          | some t => rw [hg] at g2; cases g2
        refine .ck (by simp [slB]; omega) (.seq (inner_wp hN hk (by omega) ⟨by omega, hr.1⟩ (fun y hy => ?_) Mk.row n) fun r _ hrr => .one ?_)
        · have hzl : (w.take z).length < (w.take z ++ [x.take k]).length := by simp
          have e : (w.take z ++ [x.take k]).getD (w.take z).length [] = x.take k := by rw [List.getD_eq_getElem?_getD, List.getElem?_concat_length]; rfl
          have := Mk.form.at_ _ hzl y (by rw [e]; exact hy)
          omega
        · show Mid c (w.take z) (x.take (k + 1)) r.1 r.2
          rw [e0', hrr.1]
          exact Mk.step h12 hr.1 hr.2 (by rw [hwl]; exact g1) g2 hrr.2
    · have hcond : ((decide (s.call < 0)) || (decide (((c).length : Int) ≤ s.call))) = true := by
        simp only [Bool.or_eq_true, decide_eq_true_eq]; omega
      rw [hcond]
      refine .gd Call.z (fun h => by simp at h) fun y _ => .condT (by simp) (.one ⟨rfl, hb2 fun h => hr ⟨h.1, h.2.1⟩⟩)
  · rintro ⟨B, n, v⟩ ⟨Mk, hv⟩
    dsimp only at Mk hv
    subst hv
    simp only [local_Join_L171]
    rw [List.take_length] at Mk
    exact .condF (decide_eq_false (by omega)) (.one Mk)
theorem lists_wp {N : Nat} (hN : 300 < N) {c : List Call} (h12 : c.length ≤ 12) (e0 : Int) {w : List (List Step)} (hwN : w.length ≤ 100) (hl : ∀ u ∈ w, u.length < N) {A : List Int} (hA : ∀ i, i < 12 → Row (A.getD i 0) (bfA c i)) :
    Wp (iter (local_Join_L159 N w (c, e0)) N (A, ([] : List (Int × Step)), 0)) fun t => match t with | .inl r => Mid c w [] r.1 r.2 | .inr r => r = ([], false, 3) ∧ Bad c w := by
  refine .iter w.length (fun k st => Mid c (w.take k) [] st.1 st.2.1 ∧ st.2.2 = (k : Int)) (by omega) ⟨⟨⟨fun z hz s hs => ?_, List.nodup_nil⟩, fun s hs => by simp at hs, fun i s h => by simp [mget] at h, fun i hi => (hA i hi).cong fun j => ?_⟩, rfl⟩ ?_ ?_
  · simp only [List.take_zero, List.nil_append, List.length_singleton] at hz
    obtain rfl : z = 0 := by omega
    simp at hs
  · simp [qJ, nums, prn]
  · rintro k ⟨B, n, v⟩ hk ⟨Mk, hv⟩
    dsimp only at Mk hv
    subst hv
    simp only [local_Join_L159]
    have eD : w.getD k [] = w[k] := getD_of hk
    refine .condT (decide_eq_true (by omega)) (.elim (P := fun t => match t with | .inl r => Mid c (w.take k) (w.getD k []) r.1 r.2 | .inr r => r = ([], false, 3) ∧ Bad c w) (.ix hk ?_) (fun r _ h => .ck64 (by omega) (.one ⟨?_, by simp⟩)) (fun r _ h => .one h))
    · rw [← eD]
      exact list_wp hN h12 e0 hk (by rw [eD]; exact hl _ (List.getElem_mem hk)) Mk
    · have h : Mid c (w.take k) (w.getD k []) r.1 r.2 := h
      have e1 : w.take (k + 1) = w.take k ++ [w.getD k []] := by rw [eD]; exact (List.take_append_getElem hk).symm
      show Mid c (w.take (k + 1)) [] r.1 r.2
      rw [e1]
      have ef : ((w.take k ++ [w.getD k []]) ++ [[]]).flatten = (w.take k ++ [w.getD k []]).flatten := by simp
      exact ⟨h.form.nil1, fun s hs => h.got s (by rwa [ef] at hs), fun i s hs => by rw [ef]; exact h.only i s hs, fun i hi => (h.row i hi).cong fun j => (qJ_nil i j).symm⟩
  · rintro ⟨B, n, v⟩ ⟨Mk, hv⟩
    dsimp only at Mk hv
    subst hv
    simp only [local_Join_L159]
    rw [List.take_length] at Mk
    exact .condF (decide_eq_false (by omega)) (.one Mk)
theorem out_wp {N : Nat} (hN : 300 < N) {e0 : Int} {L : List Nat} (hL : L.length ≤ 12) (m : List (Int × Step)) : Wp (iter (local_Join_L175 N (L.map fun (x : Nat) => (x : Int), e0) m) N (([] : List Step), 0)) fun o => o = L.filterMap fun (i : Nat) => mget m (i : Int) := by
  refine .iter L.length (fun k st => st.1 = (L.take k).filterMap (fun (i : Nat) => mget m (i : Int)) ∧ st.2 = (k : Int)) (by omega) ⟨rfl, rfl⟩ ?_ ?_
  · rintro k ⟨o, v⟩ hk ⟨ho, hv⟩
    dsimp only at ho hv
    subst hv
    simp only [local_Join_L175]
    have hol : o.length ≤ 12 := by
      rw [ho]
      have := List.length_filterMap_le (fun i : Nat => mget m (i : Int)) (L.take k)
      rw [List.length_take] at this
      omega
    refine .condT (decide_eq_true (by simp; omega)) (.ix (by simpa using hk) ?_)
    rw [List.getElem_map]
    have e1 : (L.take (k + 1)).filterMap (fun (i : Nat) => mget m (i : Int)) = o ++ [L[k]].filterMap (fun (i : Nat) => mget m (i : Int)) := by
      rw [← List.take_append_getElem hk, List.filterMap_append, ho]
    cases hg : mget m (L[k] : Int) with
    | none =>
      refine .condF rfl (.ck64 (by omega) (.one ⟨?_, by simp⟩))
      rw [e1]; simp [hg]
    | some s =>
      refine .condT rfl (.ck (limB_of ⟨?_, ?_⟩) (.ck64 (by omega) (.one ⟨?_, by simp⟩)))
      · simp only [List.length_singleton]; exact Nat.le_trans (m := 2000) (by omega) (by decide)
      · simp only [List.length_singleton]; omega
      · rw [e1]; simp [hg]
  · rintro ⟨o, v⟩ ⟨ho, hv⟩
    dsimp only at ho hv
    subst hv
    simp only [local_Join_L175]
    rw [List.take_length] at ho
    exact .condF (decide_eq_false (by simp)) (.one ho)
theorem lin_pw {n : Nat} {q : Nat → Nat → Bool} {l : List Nat} (h : Lin n q l) : l.reverse.Pairwise fun i j => q j i = false := by
  rw [List.pairwise_reverse]
  have hb : ∀ l : List Nat, l.Pairwise fun i x => bef l x i = true := by
    intro l
    induction l with
    | nil => exact .nil
    | cons a r ih =>
      refine List.pairwise_cons.2 ⟨fun x hx => ?_, ih.imp fun h => ?_⟩
      · simp [bef, hx]
      · simp [bef, h]
  refine (hb l).imp fun {i x} hx => ?_
  cases hq : q i x with
  | false => rfl
  | true =>
    have := bef_tr h.1 (h.2.2 _ _ hq) hx
    rw [bef_irr h.1] at this; cases this
theorem fm_pw {α β : Type} {f : α → Option β} {R : β → β → Prop} {S : α → α → Prop} : ∀ {l : List α}, l.Pairwise S → (∀ a b x y, S a b → f a = some x → f b = some y → R x y) → (l.filterMap f).Pairwise R
  | [], _, _ => .nil
  | a :: r, hp, h => by
    obtain ⟨h1, h2⟩ := List.pairwise_cons.1 hp
    have ih := fm_pw h2 h
    cases hf : f a with
    | none => rw [List.filterMap_cons_none hf]; exact ih
    | some x =>
      rw [List.filterMap_cons_some hf]
      refine List.pairwise_cons.2 ⟨fun y hy => ?_, ih⟩
      obtain ⟨b, hb, e⟩ := List.mem_filterMap.1 hy
      exact h a b x y (h1 b hb) hf e
theorem lin_len' {n : Nat} {q : Nat → Nat → Bool} {l : List Nat} (h : Lin n q l) : l.length = n := by
  have h1 := pig_lt h.1 fun x hx => (h.2.1 x).1 hx
  have h2 := pig (l := List.range n) (m := l) List.nodup_range fun x hx => (h.2.1 x).2 (List.mem_range.1 hx)
  simp at h2; omega
theorem join_wp {N : Nat} (hN : 5000 < N) (types : List Int) (l : List Event) {w : List (List Step)} (hl : ∀ u ∈ w, u.length < N) : Wp (local_Join N types l w) fun r =>
    (r.2.2 ≠ 0 ∧ r.1 = [] ∧ r.2.1 = false ∧ ((∀ c, ¬ Chk N types l c) ∨ w.length ≠ types.length ∨ ∃ c op, Chk N types l c ∧ Rn N types l l.length c op ∧ ¬ Form c w)) ∨
    (r.2.2 = 0 ∧ ∃ c op, Chk N types l c ∧ Rn N types l l.length c op ∧ w.length = types.length ∧ Form c w ∧ ((r.2.1 = true ∧ Join c w r.1) ∨ (r.2.1 = false ∧ r.1 = [] ∧ ¬ ∃ f : Nat → Nat, ∀ i j, qJ c w i j = true → f i < f j))) := by
  unfold local_Join
  obtain ⟨⟨c, e⟩, hc, hcr⟩ := check_wp (N := N) (by omega) types l
  refine .bdO hc ?_
  dsimp only
  rcases hcr with ⟨h1, h2⟩ | ⟨h1, K⟩
  · refine .condT (by simpa using h1) (.one (.inl ⟨h1, rfl, rfl, .inl fun c' K' => ?_⟩))
    -- Calls tells the same; so does check
    obtain ⟨op, R⟩ := K'.run
    have hco := calls_of (by omega : 300 < N) K'.ty K'.len R
    have := K'.c12
    have hk : local_check N types l = some (c', 0) := by
      refine Wp.eq ?_
      unfold local_check
      refine .bdO hco (.condF rfl (.condF (decide_eq_false (by show ¬ (12 : Int) < (c'.length : Int); omega)) ?_))
      refine .elim (P := fun t => match t with | .inl _ => True | .inr q => False) (.seq (numbers_wp (by omega) (by show c'.length ≤ 200; omega)) fun m _ ⟨m1, m2, m3, m4⟩ => ?_) (fun _ _ _ => .one rfl) (fun _ _ h => h.elim)
      rw [range_big, if_neg]
      · exact .one trivial
      · intro h
        obtain ⟨q, hq, h⟩ := List.any_eq_true.1 h
        rw [m3 q hq] at h
        have := K'.few q.1
        have h : 9 < (numT c' c'.length q.1).length := of_decide_eq_true h
        omega
    rw [hk] at hc
    cases hc
    exact h1 rfl
  · dsimp only at h1 K
    subst h1
    obtain ⟨op, R⟩ := K.run
    have h12 := K.c12
    have htl := K.tl
    refine .condF rfl ?_
    by_cases hw : w.length = types.length
    case neg => exact .condT (by simp; omega) (.one (.inl ⟨by simp, rfl, rfl, .inr (.inl hw)⟩))
    refine .condF (by simp [hw]) (.seq (ahead_wp (by omega) (c := c) h12) fun a _ ha => ?_)
    refine .elim (lists_wp (by omega) h12 0 (by omega) hl ha.2.2) (fun st _ M => ?_) (fun r _ h => ?_)
    · obtain ⟨A, m⟩ := st
      have M : Mid c w [] A m := M
      have F : Form c w := by
        have F := M.form
        refine ⟨fun z hz s hs => ?_, by have := F.nd; rw [List.flatten_append] at this; simpa using this⟩
        have := F.at_ z (by rw [List.length_append]; omega) s (by rw [getDn_app hz]; exact hs)
        exact this
      have ef : (w ++ [[]]).flatten = w.flatten := by simp
      have hrow : ∀ i, i < 12 → Row (A.getD i 0) (qJ c w i) := fun i hi => (M.row i hi).cong fun j => qJ_nil i j
      have hin : ∀ i j, qJ c w i j = true → i < c.length ∧ j < c.length := by
        intro i j h
        unfold qJ at h
        rcases Bool.or_eq_true_iff.1 h with h | h
        · unfold bfA at h
          have := of_decide_eq_true h
          exact ⟨this.1, this.2.1⟩
        · obtain ⟨u, hu, hp⟩ := List.any_eq_true.1 h
          obtain ⟨z, hz, rfl⟩ := List.mem_iff_getElem.1 hu
          obtain ⟨p1, p2⟩ := prn_mem hp
          obtain ⟨s, hs, rfl⟩ := nums_mem.1 p1
          obtain ⟨t, ht, rfl⟩ := nums_mem.1 p2
          have g1 := F.at_ z hz s (by rw [getD_of hz]; exact hs)
          have g2 := F.at_ z hz t (by rw [getD_of hz]; exact ht)
          omega
      have hu : RelU ⟨a.1, A⟩ := fun i hi => (hrow i hi).rng
      have hp : ∀ i j, i < 12 → pOf ⟨a.1, A⟩ i j = qJ c w i j := fun i j hi => (hu.row hi).uniq (hrow i hi) j
      have hp1 : ∀ i j, pOf ⟨a.1, A⟩ i j = true → qJ c w i j = true := fun i j h => by rw [← hp i j (pOf_lt h)]; exact h
      have V : RelV ⟨a.1, A⟩ c.length := ⟨hu, ha.1, h12, fun i j h => hin i j (hp1 i j h)⟩
      have hend : ∀ r, local_Join N types l w = some r → True := fun _ _ => trivial
      rcases acyclic (N := N) (by omega) V.u with ⟨n, A', V', hA', hno, _, hac⟩ | ⟨n, A', V', hA', ⟨z, _, hz⟩, _, hac⟩ | ⟨e, _, hv, _, _⟩
      · obtain rfl := V.uniq V'
        obtain ⟨o, hL2, hlin⟩ := least_wp hN (CR.of V hA') (acy_of V hno) hac
        have hol := lin_len' hlin
        refine .bdO hL2 (.condF rfl ?_)
        have efwd : fwd o = o.reverse.map fun (x : Nat) => (x : Int) := rfl
        rw [efwd]
        refine .seq (out_wp (by omega) (L := o.reverse) (by rw [List.length_reverse]; omega) m) fun x _ hx => .one (.inr ⟨rfl, c, op, K, R, hw, F, .inl ⟨rfl, ?_⟩⟩)
        subst hx
        have hpw := lin_pw hlin
        have hnd : o.reverse.Nodup := (List.pairwise_reverse (R := (· ≠ ·))).2 (hlin.1.imp fun h e => h e.symm)
        have hcall : ∀ (i : Nat) s, mget m (i : Int) = some s → s.call.toNat = i := fun i s h => by have := (M.only _ _ h).2; omega
        refine ⟨fun s => ?_, ?_, ?_⟩
        · rw [List.mem_filterMap]
          constructor
          · rintro ⟨i, _, h⟩
            have := (M.only _ _ h).1
            rwa [ef] at this
          · intro hs
            obtain ⟨_, _, _, s0, s1, _⟩ := F.mem hs
            refine ⟨s.call.toNat, ?_, ?_⟩
            · rw [List.mem_reverse, hlin.2.1]; omega
            · rw [show ((s.call.toNat : Nat) : Int) = s.call by omega]
              exact M.got s (by rw [ef]; exact hs)
        · unfold nums List.Nodup
          rw [List.pairwise_map]
          exact fm_pw (S := (· ≠ ·)) hnd fun i j x y hij hx hy e => hij (by rw [← hcall i x hx, ← hcall j y hy, e])
        · unfold nums
          rw [List.pairwise_map]
          refine fm_pw (S := fun i j => cl ⟨a.1, A⟩ c.length j i = false) hpw fun i j x y hij hx hy => ?_
          rw [hcall i x hx, hcall j y hy]
          cases hq : qJ c w j i with
          | false => rfl
          | true =>
            have hj := (hin j i hq).1
            have h1 : pOf ⟨a.1, A⟩ j i = true := by rw [hp j i (by omega)]; exact hq
            have h2 : cl ⟨a.1, A⟩ c.length j i = true := war_up (Nat.zero_le _) h1
            rw [h2] at hij; cases hij
      · obtain rfl := V.uniq V'
        refine .bdO (least_err (by decide) hac) (.condT rfl (.one (.inr ⟨rfl, c, op, K, R, hw, F, .inr ⟨rfl, rfl, ?_⟩⟩)))
        rintro ⟨f, hf⟩
        have := war_least (q := fun i j => decide (f i < f j)) (n := c.length) (p := pOf ⟨a.1, A⟩) (fun i j h => decide_eq_true (hf i j (hp1 i j h))) (fun i m' j _ g1 g2 => decide_eq_true (Nat.lt_trans (of_decide_eq_true g1) (of_decide_eq_true g2))) c.length (Nat.le_refl _) z z hz
        exact absurd (of_decide_eq_true this) (Nat.lt_irrefl _)
      · exact (hv _ V).elim
    · have h : r = ([], false, 3) ∧ Bad c w := h
      obtain ⟨rfl, hB⟩ := h
      exact .one (.inl ⟨by simp, rfl, rfl, .inr (.inr ⟨c, op, K, R, hB⟩)⟩)
end Lc

end Go.Proofs.Ytpakplmpihhmbaa
