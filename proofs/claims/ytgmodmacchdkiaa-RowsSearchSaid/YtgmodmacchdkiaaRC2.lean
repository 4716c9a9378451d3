/- Without the five there is a right order. -/
import Derived.Test.YtgmodmacchdkiaaRC1
set_option linter.unusedVariables false
set_option linter.unusedSimpArgs false
set_option linter.unusedSectionVars false
set_option maxRecDepth 100000
namespace Go.Proofs.Ytgmodmacchdkiaa
open Go.RowKit
namespace Rw
open Hs Sr
theorem argmin (f : Nat → Int) (l : List Nat) (h : l ≠ []) : ∃ m ∈ l, ∀ u ∈ l, f m ≤ f u := by
  obtain ⟨m, h1, h2⟩ := argmax (fun i => - f i) l h
  exact ⟨m, h1, fun u hu => by have := h2 u hu; omega⟩
/-- Two orders of spans, no two of them against each other: all in a row. -/
theorem topo (et ef dt df : Nat → Int) : ∀ (n : Nat) (V : List Nat), V.length = n → (∀ v ∈ V, ef v ≤ et v ∧ df v ≤ dt v) → (∀ u ∈ V, ∀ v ∈ V, et u < ef v → dt v < df u → False) →
    ∃ V' : List Nat, V'.Perm V ∧ V'.Pairwise fun i j => ef i ≤ et j ∧ df i ≤ dt j
  | 0, V, h, _, _ => ⟨[], by rw [List.length_eq_zero_iff.1 h], .nil⟩
  | n + 1, V, h, h1, h2 => by
    have hne : V ≠ [] := fun e => by rw [e] at h; cases h
    obtain ⟨m, m1, m2⟩ := argmin et V hne
    have mS : m ∈ V.filter (fun v => decide (∀ u ∈ V, ef v ≤ et u)) := List.mem_filter.2 ⟨m1, decide_eq_true fun u hu => Int.le_trans (h1 m m1).1 (m2 u hu)⟩
    have hS : V.filter (fun v => decide (∀ u ∈ V, ef v ≤ et u)) ≠ [] := fun e => by
      rw [e] at mS; cases mS
    obtain ⟨v, v1, v2⟩ := argmin df _ hS
    have v1 := List.mem_filter.1 v1
    have v3 := of_decide_eq_true v1.2
    have v4 : ∀ u ∈ V, df v ≤ dt u := fun u hu => by
      apply Classical.byContradiction
      intro g
      by_cases hu2 : ∀ w ∈ V, ef u ≤ et w
      · have := v2 u (List.mem_filter.2 ⟨hu, decide_eq_true hu2⟩)
        have := (h1 u hu).2
        omega
      · have : ∃ w ∈ V, et w < ef u := by
          apply Classical.byContradiction
          intro q
          exact hu2 fun w hw => by
            apply Classical.byContradiction
            intro q2
            exact q ⟨w, hw, by omega⟩
        obtain ⟨w, w1, w2⟩ := this
        have a1 := m2 w w1
        have a2 := v2 m mS
        exact h2 m m1 u hu (by omega) (by omega)
    obtain ⟨V', p1, p2⟩ := topo et ef dt df n (V.erase v) (by rw [List.length_erase_of_mem v1.1]; omega) (fun u hu => h1 u (List.mem_of_mem_erase hu)) (fun a ha b hb => h2 a (List.mem_of_mem_erase ha) b (List.mem_of_mem_erase hb))
    refine ⟨v :: V', (p1.cons v).trans (List.perm_cons_erase v1.1).symm, List.pairwise_cons.2 ⟨fun u hu => ?_, p2⟩⟩
    have hu : u ∈ V := List.mem_of_mem_erase (p1.mem_iff.1 hu)
    exact ⟨v3 u hu, v4 u hu⟩
/-- Points in time, one behind the other. -/
theorem points (ef et df dt : Nat → Int) (T : Int → Prop) : ∀ (V : List Nat) (a b : Int) (r : Nat), V.Nodup → V.Pairwise (fun i j => ef i ≤ et j ∧ df i ≤ dt j) →
    (∀ v ∈ V, ef v ≤ et v ∧ df v ≤ dt v ∧ ef v ≤ df v ∧ a ≤ et v ∧ b ≤ dt v ∧ ∀ τ, T τ → (τ < ef v ↔ τ < df v)) → a ≤ b → (∀ τ, T τ → (τ < a ↔ τ < b)) →
    ∃ (X Y : Nat → Int) (R : Nat → Nat), V.Pairwise (fun i j => X i ≤ X j ∧ Y i ≤ Y j ∧ R i < R j) ∧ ∀ v ∈ V, a ≤ X v ∧ b ≤ Y v ∧ ef v ≤ X v ∧ X v ≤ et v ∧ df v ≤ Y v ∧ Y v ≤ dt v ∧ X v ≤ Y v ∧ r ≤ R v ∧ R v < r + V.length ∧ ∀ τ, T τ → (τ < X v ↔ τ < Y v)
  | [], _, _, _, _, _, _, _, _ => ⟨fun _ => 0, fun _ => 0, fun _ => 0, .nil, fun _ h => (nomatch h)⟩
  | e :: V, a, b, r, nd, pw, h, hab, hT => by
    have he := h e (.head _)
    obtain ⟨n1, n2⟩ := List.nodup_cons.1 nd
    obtain ⟨p1, p2⟩ := List.pairwise_cons.1 pw
    have hTe : ∀ τ, T τ → (τ < max a (ef e) ↔ τ < max b (df e)) := fun τ hτ => by
      have := he.2.2.2.2.2 τ hτ
      have := hT τ hτ
      omega
    obtain ⟨X, Y, R, q1, q2⟩ := points ef et df dt T V (max a (ef e)) (max b (df e)) (r + 1) n2 p2 (fun v hv => by
      have h1 := h v (.tail _ hv)
      have h2 := p1 v hv
      exact ⟨h1.1, h1.2.1, h1.2.2.1, by omega, by omega, h1.2.2.2.2.2⟩) (by omega) hTe
    refine ⟨fun i => if i = e then max a (ef e) else X i, fun i => if i = e then max b (df e) else Y i, fun i => if i = e then r else R i, List.pairwise_cons.2 ⟨fun j hj => ?_, q1.imp_of_mem fun {i j} hi hj hij => ?_⟩, fun v hv => ?_⟩
    · have hne : j ≠ e := fun g => n1 (g ▸ hj)
      have := q2 j hj
      simp only [if_pos, if_neg hne]
      omega
    · have hi : i ≠ e := fun g => n1 (g ▸ hi)
      have hj : j ≠ e := fun g => n1 (g ▸ hj)
      simp only [if_neg hi, if_neg hj]
      exact hij
    · rw [List.length_cons]
      rcases List.mem_cons.1 hv with rfl | hv
      · simp only [if_pos]
        exact ⟨by omega, by omega, by omega, by omega, by omega, by omega, by omega, by omega, by omega, hTe⟩
      · have hne : v ≠ e := fun g => n1 (g ▸ hv)
        have := q2 v hv
        simp only [if_neg hne]
        exact ⟨by omega, by omega, by omega, by omega, by omega, by omega, by omega, by omega, by omega, this.2.2.2.2.2.2.2.2.2⟩
/-- The times of a value. -/
structure Fq (c : List Call) (e : Nat) (ef et df dt : Int) : Prop where
  lo : 2 * (c.getD e Call.z).from_ ≤ ef
  hi : (c.getD e Call.z).to_ ≠ -1 → et ≤ 2 * (c.getD e Call.z).to_
  ee : ef ≤ et
  dd : df ≤ dt
  ed : ef ≤ df
  ub : dt ≤ 2000
  dq : ∀ d, Fd c c.length (c.getD e Call.z).arg d → 2 * (c.getD d Call.z).from_ ≤ df ∧ dt = 2 * (c.getD d Call.z).to_
  E1 : ((c.getD e Call.z).to_ ≠ -1 ∧ et = 2 * (c.getD e Call.z).to_) ∨ (∃ d, Fd c c.length (c.getD e Call.z).arg d ∧ et = 2 * (c.getD d Call.z).to_) ∨ et = 2000
  E2 : ef = 2 * (c.getD e Call.z).from_ ∨ ∃ τ, ¬ Cov c τ ∧ ef = 2 * τ + 1 ∧ 2 * τ < df
  E3 : (∃ d, Fd c c.length (c.getD e Call.z).arg d ∧ dt = 2 * (c.getD d Call.z).to_ ∧ (df = 2 * (c.getD d Call.z).from_ ∨ df = 2 * (c.getD e Call.z).from_)) ∨ (Nd c c.length (c.getD e Call.z).arg ∧ dt = 2000 ∧ df = 2000)
  T : ∀ τ, 0 ≤ τ → τ < 200 → ¬ Cov c τ → (2 * τ < ef ↔ 2 * τ < df)
theorem lift (U : Int → Prop) (a : Int) : ∀ n : Nat, ∃ m, a ≤ m ∧ (∀ τ : Int, 0 ≤ τ → τ < n → U τ → 2 * τ + 1 ≤ m) ∧ (m = a ∨ ∃ τ : Int, 0 ≤ τ ∧ τ < n ∧ U τ ∧ m = 2 * τ + 1)
  | 0 => ⟨a, Int.le_refl _, fun τ h1 h2 => absurd h2 (by omega), .inl rfl⟩
  | n + 1 => by
    obtain ⟨m, h1, h2, h3⟩ := lift U a n
    have old : ∀ τ : Int, 0 ≤ τ → τ < (n + 1 : Nat) → U τ → τ < n ∨ τ = n := fun τ _ h _ => by omega
    by_cases h : U (n : Int) ∧ m ≤ 2 * (n : Int) + 1
    · refine ⟨2 * n + 1, by omega, fun τ t0 t1 t2 => by omega, .inr ⟨n, by omega, by omega, h.1, rfl⟩⟩
    · refine ⟨m, h1, fun τ t0 t1 t2 => ?_, ?_⟩
      · rcases old τ t0 t1 t2 with g | g
        · exact h2 τ t0 g t2
        · subst g
          have : ¬ m ≤ 2 * (n : Int) + 1 := fun q => h ⟨t2, q⟩
          omega
      · rcases h3 with h3 | ⟨τ, t0, t1, t2, t3⟩
        · exact .inl h3
        · exact .inr ⟨τ, t0, by omega, t2, t3⟩
section
variable {c : List Call} (Qc : Q c) (C : Cls c) (n1 : ¬ ∃ i, StrayAt c i) (n2 : ¬ ∃ i, TwiceAt c i) (n3 : ¬ ∃ i, EarlyAt c i) (n4 : ¬ ∃ a b, OrdrAt c a b) (n5 : ¬ ∃ i, EmptAt c i)
include Qc C n3
theorem dq_after {e d : Nat} (he : e < c.length) (ke : (c.getD e Call.z).kind = 3) (hd : Fd c c.length (c.getD e Call.z).arg d) : (c.getD e Call.z).from_ < (c.getD d Call.z).to_ ∧ (c.getD d Call.z).from_ < (c.getD d Call.z).to_ ∧ (c.getD d Call.z).to_ < 200 ∧ 0 ≤ (c.getD d Call.z).from_ := by
  have ha := Qc.ea e he ke
  have h1 := C.dn d hd.1 hd.2.1
  have h2 := Qc.tm d hd.1
  have h3 := Qc.ne d e hd.1 he h1
  have h4 : ¬ (c.getD d Call.z).to_ < (c.getD e Call.z).from_ := fun h => n3 ⟨d, hd.1, ⟨hd.2.1, by rw [hd.2.2.1]; omega⟩, e, he, ke, hd.2.2.1.symm, h⟩
  omega
theorem fq_ex {e : Nat} (he : e < c.length) (ke : (c.getD e Call.z).kind = 3) : ∃ ef et df dt, Fq c e ef et df dt := by
  have tm := Qc.tm e he
  -- the rest, from the times of the two calls
  have fin : ∀ et df dt : Int, 2 * (c.getD e Call.z).from_ ≤ et → 2 * (c.getD e Call.z).from_ ≤ df → df ≤ dt → dt ≤ 2000 → ((c.getD e Call.z).to_ ≠ -1 → et ≤ 2 * (c.getD e Call.z).to_) →
      (∀ τ : Int, 0 ≤ τ → τ < 200 → ¬ Cov c τ → 2 * τ < df → 2 * τ + 1 ≤ et) → (∀ d, Fd c c.length (c.getD e Call.z).arg d → 2 * (c.getD d Call.z).from_ ≤ df ∧ dt = 2 * (c.getD d Call.z).to_) →
      (((c.getD e Call.z).to_ ≠ -1 ∧ et = 2 * (c.getD e Call.z).to_) ∨ (∃ d, Fd c c.length (c.getD e Call.z).arg d ∧ et = 2 * (c.getD d Call.z).to_) ∨ et = 2000) →
      ((∃ d, Fd c c.length (c.getD e Call.z).arg d ∧ dt = 2 * (c.getD d Call.z).to_ ∧ (df = 2 * (c.getD d Call.z).from_ ∨ df = 2 * (c.getD e Call.z).from_)) ∨ (Nd c c.length (c.getD e Call.z).arg ∧ dt = 2000 ∧ df = 2000)) → ∃ ef et df dt, Fq c e ef et df dt := fun et df dt a1 a2 a3 a4 a5 a6 a7 a8 a9 => by
    obtain ⟨m, m1, m2, m3⟩ := lift (fun τ => ¬ Cov c τ ∧ 2 * τ < df) (2 * (c.getD e Call.z).from_) 200
    refine ⟨m, et, df, dt, m1, a5, ?_, a3, ?_, a4, a7, a8, ?_, a9, fun τ t0 t1 t2 => ⟨fun h => ?_, fun h => ?_⟩⟩
    · rcases m3 with m3 | ⟨τ, t0, t1, t2, t3⟩
      · omega
      · have := a6 τ t0 (by omega) t2.1 t2.2
        omega
    · rcases m3 with m3 | ⟨τ, t0, t1, t2, t3⟩
      · omega
      · have := t2.2; omega
    · rcases m3 with m3 | ⟨τ, t0, t1, t2, t3⟩
      · exact .inl m3
      · exact .inr ⟨τ, t2.1, t3, t2.2⟩
    · rcases m3 with m3 | ⟨τ', t0, t1, t2, t3⟩
      · omega
      · have := t2.2; omega
    · have := m2 τ t0 (by omega) ⟨t2, h⟩
      omega
  rcases fd_or c (c.getD e Call.z).arg c.length with hN | ⟨d, hd⟩
  · by_cases ht : (c.getD e Call.z).to_ = -1
    · exact fin 2000 2000 2000 (by omega) (by omega) (by omega) (by omega) (fun h => (h ht).elim) (fun τ _ _ _ _ => by omega) (fun d hd => (hN d hd.1 hd.2.1 hd.2.2.1).elim) (.inr (.inr rfl)) (.inr ⟨hN, rfl, rfl⟩)
    · refine fin (2 * (c.getD e Call.z).to_) 2000 2000 (by omega) (by omega) (by omega) (by omega) (fun _ => by omega) (fun τ t0 t1 t2 _ => ?_) (fun d hd => (hN d hd.1 hd.2.1 hd.2.2.1).elim) (.inl ⟨ht, rfl⟩) (.inr ⟨hN, rfl, rfl⟩)
      apply Classical.byContradiction
      intro g
      exact t2 ⟨e, he, ke, ht, by omega, .inl hN⟩
  · have hda := dq_after Qc C n3 he ke hd
    have uq : ∀ d', Fd c c.length (c.getD e Call.z).arg d' → 2 * (c.getD d' Call.z).from_ ≤ 2 * max (c.getD d Call.z).from_ (c.getD e Call.z).from_ ∧ 2 * (c.getD d Call.z).to_ = 2 * (c.getD d' Call.z).to_ := fun d' hd' => by
      obtain rfl := fd_uq hd hd'
      omega
    have E3 : (∃ d', Fd c c.length (c.getD e Call.z).arg d' ∧ 2 * (c.getD d Call.z).to_ = 2 * (c.getD d' Call.z).to_ ∧ (2 * max (c.getD d Call.z).from_ (c.getD e Call.z).from_ = 2 * (c.getD d' Call.z).from_ ∨ 2 * max (c.getD d Call.z).from_ (c.getD e Call.z).from_ = 2 * (c.getD e Call.z).from_)) := ⟨d, hd, rfl, by omega⟩
    by_cases ht : (c.getD e Call.z).to_ = -1
    · exact fin (2 * (c.getD d Call.z).to_) (2 * max (c.getD d Call.z).from_ (c.getD e Call.z).from_) (2 * (c.getD d Call.z).to_) (by omega) (by omega) (by omega) (by omega) (fun h => (h ht).elim) (fun τ t0 t1 t2 t3 => by omega) uq (.inr (.inl ⟨d, hd, rfl⟩)) (.inl E3)
    · refine fin (min (2 * (c.getD e Call.z).to_) (2 * (c.getD d Call.z).to_)) (2 * max (c.getD d Call.z).from_ (c.getD e Call.z).from_) (2 * (c.getD d Call.z).to_) (by omega) (by omega) (by omega) (by omega) (fun _ => by omega) (fun τ t0 t1 t2 t3 => ?_) uq ?_ (.inl E3)
      · by_cases g : (c.getD e Call.z).to_ ≤ τ
        · have : ¬ τ < (c.getD d Call.z).from_ := fun q => t2 ⟨e, he, ke, ht, g, .inr ⟨d, hd, q⟩⟩
          omega
        · omega
      · by_cases g : (c.getD e Call.z).to_ ≤ (c.getD d Call.z).to_
        · exact .inl ⟨ht, by omega⟩
        · exact .inr (.inl ⟨d, hd, by omega⟩)
include n4
theorem no_cyc {u v : Nat} (hu : u < c.length) (ku : (c.getD u Call.z).kind = 3) (hv : v < c.length) (kv : (c.getD v Call.z).kind = 3) {ef et df dt ef' et' df' dt' : Int} (Fu : Fq c u ef et df dt) (Fv : Fq c v ef' et' df' dt') (h1 : et < ef') (h2 : dt' < df) : False := by
  have bu := Fu.ub
  have du := Fu.dd
  have dv := Fv.dd
  have ev := Fv.ed
  have tu := Qc.tm u hu
  have tv := Qc.tm v hv
  rcases Fv.E3 with ⟨y, y1, y2, y3⟩ | ⟨_, y2, _⟩
  case inr => omega
  have ay := dq_after Qc C n3 hv kv y1
  have dfu : ∀ {τ : Int}, (∀ x, Fd c c.length (c.getD u Call.z).arg x → (c.getD x Call.z).from_ ≤ τ) → ¬ Nd c c.length (c.getD u Call.z).arg → (c.getD u Call.z).from_ ≤ τ → df ≤ 2 * τ := fun {τ} g1 g2 g3 => by
    rcases Fu.E3 with ⟨x, x1, x2, x3⟩ | ⟨x1, _⟩
    · have := g1 x x1
      omega
    · exact (g2 x1).elim
  rcases Fv.E2 with e2 | ⟨τ, t2, e2, t3⟩
  · rcases Fu.E1 with ⟨q1, q2⟩ | ⟨x, x1, x2⟩ | q2
    · have ah : Ah c u v := ⟨q1, by omega⟩
      rcases Fu.E3 with ⟨x, x1, x2, x3 | x3⟩ | ⟨x1, _⟩
      · exact n4 ⟨u, v, hu, hv, ku, kv, ah, y, y1, .inr ⟨x, x1, C.dn y y1.1 y1.2.1, by omega⟩⟩
      · omega
      · exact n4 ⟨u, v, hu, hv, ku, kv, ah, y, y1, .inl x1⟩
    · have ax := dq_after Qc C n3 hu ku x1
      rcases Fu.E3 with ⟨x', z1, z2, z3 | z3⟩ | ⟨z1, _⟩
      · obtain rfl := fd_uq x1 z1
        omega
      · omega
      · exact z1 x x1.1 x1.2.1 x1.2.2.1
    · omega
  · have hle : df ≤ 2 * τ := by
      rcases Fu.E1 with ⟨q1, q2⟩ | ⟨x, x1, x2⟩ | q2
      · refine dfu (fun x hx => ?_) (fun hN => t2 ⟨u, hu, ku, q1, by omega, .inl hN⟩) (by omega)
        apply Classical.byContradiction
        intro g
        exact t2 ⟨u, hu, ku, q1, by omega, .inr ⟨x, hx, by omega⟩⟩
      · have ax := dq_after Qc C n3 hu ku x1
        refine dfu (fun x' hx' => ?_) (fun hN => hN x x1.1 x1.2.1 x1.2.2.1) (by omega)
        obtain rfl := fd_uq x1 hx'
        omega
      · omega
    rcases y3 with y3 | y3 <;> omega
end
end Rw

end Go.Proofs.Ytgmodmacchdkiaa
