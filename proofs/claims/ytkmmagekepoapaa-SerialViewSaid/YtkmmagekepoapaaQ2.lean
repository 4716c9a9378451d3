/- SerialView: what its code computes, and the walk. -/
import Derived.Test.YtkmmagekepoapaaQ1
set_option linter.unusedVariables false
set_option linter.unusedSimpArgs false
set_option linter.unusedSectionVars false
set_option maxRecDepth 100000
namespace Go.Proofs.Ytkmmagekepoapaa
open Go.RowKit
theorem isGo18 : IsGo Try.prog 18 := ⟨_, Try.func18, by kernel_rfl, rfl⟩
theorem isGo21 : IsGo Try.prog 21 := ⟨_, Try.func21, by kernel_rfl, rfl⟩
theorem isGo22 : IsGo Try.prog 22 := ⟨_, Try.func22, by kernel_rfl, rfl⟩
theorem isGo42 : IsGo Try.prog 42 := ⟨_, Try.func42, by kernel_rfl, rfl⟩
theorem ap46 : ∃ i z, Try.prog.info? 46 = some i ∧ i.zero = some z ∧ i.size = 3 ∧ i.bytes = 24 ∧ z.cells.size = 3 ∧ 0 < 3 := ⟨_, (Value.agg #[(Value.int .i64 0), (Value.int .i64 0), (Value.int .i64 0)]), rfl, by kernel_rfl, by kernel_rfl, by kernel_rfl, by kernel_rfl, by decide⟩
theorem eqg50 : EqIA Try.prog 50 12 .i64 .u16 := ⟨3, 48, 47, .u16, by kernel_rfl, by kernel_rfl, by kernel_rfl, by kernel_rfl, by kernel_rfl, by kernel_rfl, by kernel_rfl, by kernel_rfl, by kernel_rfl, by decide⟩
def alibkeep_SerialView_1 (N : Nat) (x1 : Deed) (a3 : Deed) : Option Unit :=
  some ()

theorem alibkeep_SerialView_1_ok {N : Nat} {x1 : Deed} {a3 : Deed} {b2 : Nat} {res : Unit} (hF : alibkeep_SerialView_1 N x1 a3 = some res) {w0 w : World} {T : List Chunk} (hw : St w0.heap.size w0 ([cBx b2 46 (encDeed a3)] ++ T) w) :
    Calls Try.prog 22 (List.toArray [.agg (encDeed x1).toArray, .pointer (some ⟨b2, 0, none⟩)]) w (fun e w' => ∃ g : Unit, (True) ∧ e = .returned (.bool (((decide (x1.who = a3.who)) && (decide (x1.item = a3.item))) && (decide (x1.kind = 0)))) ∧ St w0.heap.size w0 ([cBx b2 46 (encDeed a3)] ++ T) w') := by
  refine W.enter (n := 21) Try.func22 rfl rfl Sub.refl (by simp) hw fun R hR => ?_
  unfold alibkeep_SerialView_1 at hF
  -- region 0: serial.go:55
  refine W.seqR fun Q1 hQ1 => ?_
  refine WL.step (WO.boxA (.pl rfl) rfl fun b4 => ?_)
  refine WL.q (Y.assign (.pl rfl)) rfl ?_
  refine WL.next hQ1 (.cons (i := 1) rfl (.cons (i := 2) rfl (.nil))) ?_
  -- region 1: serial.go:55
  refine W.seqR fun Q2 hQ2 => ?_
  refine WL.q (Y.fieldAddr0 (off := 0) (ft := 3) Try.underlying46 rfl cells3 (.pl rfl)) rfl ?_
  refine WL.q (Y.loadB (v := .int .i64 x1.who) Try.underlying3 rfl (.pl rfl) (i := 0) rfl (rfl)) rfl ?_
  refine WL.q (Y.fieldAddr0 (off := 0) (ft := 3) Try.underlying46 rfl cells3 (.pl rfl)) rfl ?_
  refine WL.q (Y.loadB (v := .int .i64 a3.who) Try.underlying3 rfl (.pl rfl) (i := 1) rfl (rfl)) rfl ?_
  refine WL.q (Y.eql (.pl rfl) (.pl rfl)) rfl ?_
  refine WL.q (Y.move (.pl rfl)) rfl ?_
  refine WL.g (.pl rfl rfl rfl) (fun hg => Y.fieldAddr0 (off := 2) (ft := 3) Try.underlying46 rfl cells3 (.pl rfl)) rfl ?_
  refine WL.g (.pl rfl rfl rfl) (fun hg => Y.loadB (v := .int .i64 x1.item) Try.underlying3 rfl (.gd (hg) rfl) (i := 0) rfl (rfl)) rfl ?_
  refine WL.g (.pl rfl rfl rfl) (fun hg => Y.fieldAddr0 (off := 2) (ft := 3) Try.underlying46 rfl cells3 (.pl rfl)) rfl ?_
  refine WL.g (.pl rfl rfl rfl) (fun hg => Y.loadB (v := .int .i64 a3.item) Try.underlying3 rfl (.gd (hg) rfl) (i := 1) rfl (rfl)) rfl ?_
  refine WL.g (.pl rfl rfl rfl) (fun hg => Y.eql (.gd (hg) rfl) (.gd (hg) rfl)) rfl ?_
  refine WL.q (Y.and (.pl rfl) (fun h2 => .gd (eqt h2) rfl)) rfl ?_
  refine WL.q (Y.move (.pl rfl)) rfl ?_
  refine WL.g (.pl rfl rfl rfl) (fun hg => Y.fieldAddr0 (off := 1) (ft := 3) Try.underlying46 rfl cells3 (.pl rfl)) rfl ?_
  refine WL.g (.pl rfl rfl rfl) (fun hg => Y.loadB (v := .int .i64 x1.kind) Try.underlying3 rfl (.gd (hg) rfl) (i := 0) rfl (rfl)) rfl ?_
  refine WL.g (.pl rfl rfl rfl) (fun hg => Y.eql (.gd (hg) rfl) (.pl rfl)) rfl ?_
  refine WL.q (Y.and (.pl rfl) (fun h2 => .gd (eqt h2) rfl)) rfl ?_
  refine WL.q (Y.assign (.pl rfl)) rfl ?_
  refine WL.next hQ2 (.cons (i := 3) rfl (.nil)) ?_
  obtain rfl := Option.some.inj hF
  refine W.retV (fn := Try.f22) (vs := [.bool (((decide (x1.who = a3.who)) && (decide (x1.item = a3.item))) && (decide (x1.kind = 0)))]) Try.results22 ⟨.tmp rfl, trivial⟩ (fun _ _ h => h) (fun wz hw => ?_)
  exact hR _ _ ⟨(), trivial, rfl, (hw.pickK 2 [1] rfl)⟩

def slices_IndexFunc_api_Deed_api_Deed_L3 (N : Nat) (s1 : (List Deed)) (c6 : Deed) : Int → Option (Int ⊕ (Unit ⊕ Int))
  | v7 =>
    cond (decide (v7 < ((s1).length : Int)))
      (bd (ix s1 v7) fun (x8 : Deed) =>
      bd (alibkeep_SerialView_1 N x8 c6) fun (r9 : Unit) =>
      cond (((decide (x8.who = c6.who)) && (decide (x8.item = c6.item))) && (decide (x8.kind = 0)))
        (some (.inr (.inr v7)))
        (ck (ok64 (v7 + 1)) <|
        some (.inl (v7 + 1))))
      (some (.inr (.inl ())))

def slices_IndexFunc_api_Deed_api_Deed (N : Nat) (s1 : (List Deed)) (c6 : Deed) : Option Int :=
  bd (α := (Unit ⊕ Int)) (iter (slices_IndexFunc_api_Deed_api_Deed_L3 N s1 c6) N 0) <|
  Sum.elim (fun _ => 
    some (-1)) (fun p => some p)

theorem slices_IndexFunc_api_Deed_api_Deed_ok {N : Nat} {s1 : (List Deed)} {c6 : Deed} {A2 : Option Addr} {c3 : Nat} {b5 : Nat} {res : Int} (hF : slices_IndexFunc_api_Deed_api_Deed N s1 c6 = some res) {w0 w : World} {T : List Chunk} (hw : St w0.heap.size w0 ([cBx b5 46 (encDeed c6)] ++ T) w) (hs4 : SlIn encDeed 3 w0 (.slice A2 (s1).length c3) s1) :
    Calls Try.prog 42 (List.toArray [.slice A2 (s1).length c3, .func (.func 22) #[] #[.pointer (some ⟨b5, 0, none⟩)]]) w (fun e w' => ∃ g : Unit, (True) ∧ e = .returned (.int .i64 res) ∧ St w0.heap.size w0 ([cBx b5 46 (encDeed c6)] ++ T) w') := by
  refine W.enter (n := 19) Try.func42 rfl rfl Sub.refl (by simp) hw fun R hR => ?_
  unfold slices_IndexFunc_api_Deed_api_Deed at hF
  -- region 0: slices.go:107
  refine W.seqR fun Q1 hQ1 => ?_
  refine WL.q (Y.assign (.pl rfl)) rfl ?_
  refine WL.next hQ1 (.cons (i := 0) rfl (.cons (i := 1) rfl (.nil))) ?_
  obtain ⟨o2, hF2, hF⟩ := bnd hF
  refine W.join0 (Em := []) (M := ([cBx b5 46 (encDeed c6)] ++ T)) (I := (.inl ()) = o2) (.nil) (fun K3 hK3 => ?_) ?_
  · -- up to
    -- region 1: slices.go:108
    refine W.seqR fun Q4 hQ4 => ?_
    refine WL.q (Y.move (.pl rfl)) rfl ?_
    refine WL.q (Y.len Try.underlying40 (.pl rfl)) rfl ?_
    refine WL.q (Y.move (.pl rfl)) rfl ?_
    refine WL.next hQ4 (.cons (i := 0) rfl (.cons (i := 1) rfl (.cons (i := 7) rfl (.cons (i := 8) rfl (.nil))))) ?_
    refine W.block ?_
    refine W.loop1 (Em := fun (v7 : Int) => [(8, .int .i64 v7)]) (M := fun v7 => ([cBx b5 46 (encDeed c6)] ++ T)) (I := fun v7 k5 => iter (slices_IndexFunc_api_Deed_api_Deed_L3 N s1 c6) k5 v7 = some o2) 0 N (hF2) (.cons rfl (.nil)) (.cons (i := 0) rfl (.cons (i := 1) rfl (.cons (i := 7) rfl (.nil)))) (fun wz hw => hw.pickK 1 [0] rfl) (fun v7 k5 hI K6 hK6 => ?_)
    obtain ⟨k5, t5, rfl, hF5, hN5⟩ := iter_step hI
    -- region 2: slices.go:108
    refine W.seqR fun Q7 hQ7 => ?_
    refine WL.q (Y.lss (.pl rfl) (.pl rfl)) rfl ?_
    refine WL.next hQ7 (.cons (i := 0) rfl (.cons (i := 1) rfl (.cons (i := 7) rfl (.cons (i := 8) rfl (.cons (i := 9) rfl (.nil)))))) ?_
    refine W.seq fun K8 hK8 => ?_
    refine W.cond (.pl rfl) (fun hC9 => ?_) (fun hC9 => ?_)
    · replace hF5 := cpos hC9 hF5
      refine W.skip ?_
      refine W.go hK8 (.cons (i := 0) rfl (.cons (i := 1) rfl (.cons (i := 7) rfl (.cons (i := 8) rfl (.nil))))) ?_
      refine W.seq fun K10 hK10 => ?_
      refine W.block ?_
      -- region 3: slices.go:108
      refine W.seqR fun Q11 hQ11 => ?_
      refine WL.q (Y.move (.pl rfl)) rfl ?_
      refine WL.q (Y.assign (.pl rfl)) rfl ?_
      refine WL.next hQ11 (.cons (i := 0) rfl (.cons (i := 1) rfl (.cons (i := 5) rfl (.cons (i := 7) rfl (.cons (i := 8) rfl (.nil)))))) ?_
      -- region 4: slices.go:109
      refine W.seqR fun Q12 hQ12 => ?_
      refine WL.q (Y.move (.pl rfl)) rfl ?_
      refine WL.q (Y.move (.pl rfl)) rfl ?_
      refine WL.q (Y.move (.pl rfl)) rfl ?_
      obtain ⟨x8, hx8, hF5⟩ := bnd hF5
      refine WL.q (Y.slEl Try.underlying40 cells46 hs4 (.pl rfl) (.pl rfl) (ix_lt (hx8))) rfl ?_
      refine WL.q (Y.loadSA (enc := encDeed) (ds := (encDeed x8)) (j := 0) Try.underlying46 rfl cells46 hs4 (.pl rfl) (hx8) rfl rfl subW) rfl ?_
      obtain ⟨r9, hr9, hF5⟩ := bnd hF5
      refine WL.step (WO.callG (γ := Unit) (first := []) (cap := [.pointer (some ⟨b5, 0, none⟩)]) (fun g => .bool (((decide (x8.who = c6.who)) && (decide (x8.item = c6.item))) && (decide (x8.kind = 0)))) (fun g => ([cBx b5 46 (encDeed c6)] ++ T)) (fun g => True) isGo22 (.pl rfl) (.cons (.pl rfl) (.nil)) rfl (fun wz hw => (by have h := alibkeep_SerialView_1_ok (T := ([] ++ T)) (b2 := b5) (hr9) (hw.pickK 1 [0] rfl) ; unfold Calls at h ⊢; intro cs; obtain ⟨e, w2, fr, h1, h2⟩ := h cs; exact ⟨e, w2, fr, h1, h2⟩)) ?_)
      rintro _ -
      refine WL.next hQ12 (.cons (i := 0) rfl (.cons (i := 1) rfl (.cons (i := 5) rfl (.cons (i := 7) rfl (.cons (i := 8) rfl (.cons (i := 16) rfl (.nil))))))) ?_
      refine W.cond (.pl rfl) (fun hC13 => ?_) (fun hC13 => ?_)
      · replace hF5 := cpos hC13 hF5
        -- region 5: slices.go:110
        refine W.seqR fun Q14 hQ14 => ?_
        refine WL.q (Y.move (.pl rfl)) rfl ?_
        refine WL.q (Y.assign (.pl rfl)) rfl ?_
        refine WL.next hQ14 (.cons (i := 4) rfl (.nil)) ?_
        obtain rfl := Option.some.inj hF5
        obtain rfl := einr hN5
        obtain rfl := Option.some.inj hF
        refine W.retV (fn := Try.f42) (vs := [.int .i64 v7]) Try.results42 ⟨.tmp rfl, trivial⟩ (fun _ _ h => h) (fun wz hw => ?_)
        exact hR _ _ ⟨(), trivial, rfl, (hw.pickK 1 [0] rfl)⟩
      · replace hF5 := cneg hC13 hF5
        refine W.skip ?_
        refine W.go hK10 (.cons (i := 0) rfl (.cons (i := 1) rfl (.cons (i := 7) rfl (.cons (i := 8) rfl (.nil))))) ?_
        -- region 6: slices.go:108
        refine W.reg ?_
        obtain ⟨hk10, hF5⟩ := ckh hF5
        refine WL.q (Y.add (.pl rfl) (.pl rfl) (ok64_lt (hk10))) rfl ?_
        refine WL.q (Y.move (.pl rfl)) rfl ?_
        refine WL.nil ?_
        obtain rfl := Option.some.inj hF5
        exact W.again1 hK6 (v7 + 1) k5 hN5 (Nat.lt_succ_self _) (.cons rfl (.nil)) (.cons (i := 0) rfl (.cons (i := 1) rfl (.cons (i := 7) rfl (.nil)))) (fun wz hw => hw.pickK 1 [0] rfl)
    · replace hF5 := cneg hC9 hF5
      refine W.exit ?_
      obtain rfl := Option.some.inj hF5
      exact W.joinAt0 hK3  (einr hN5) (.nil) (.nil) (fun wz hw => hw.pickK 1 [0] rfl)
  · -- behind
    rintro  rfl
    -- region 7: slices.go:113
    refine W.seqR fun Q16 hQ16 => ?_
    refine WL.q (Y.assign (.pl rfl)) rfl ?_
    refine WL.next hQ16 (.cons (i := 4) rfl (.nil)) ?_
    obtain rfl := Option.some.inj hF
    refine W.retV (fn := Try.f42) (vs := [.int .i64 (-1)]) Try.results42 ⟨.tmp rfl, trivial⟩ (fun _ _ h => h) (fun wz hw => ?_)
    exact hR _ _ ⟨(), trivial, rfl, (hw.pickK 1 [0] rfl)⟩

def slices_ContainsFunc_api_Deed_api_Deed (N : Nat) (s1 : (List Deed)) (c6 : Deed) : Option Bool :=
  bd (slices_IndexFunc_api_Deed_api_Deed N s1 c6) fun (r7 : Int) =>
  some (decide (0 ≤ r7))

theorem slices_ContainsFunc_api_Deed_api_Deed_ok {N : Nat} {s1 : (List Deed)} {c6 : Deed} {A2 : Option Addr} {c3 : Nat} {b5 : Nat} {res : Bool} (hF : slices_ContainsFunc_api_Deed_api_Deed N s1 c6 = some res) {w0 w : World} {T : List Chunk} (hw : St w0.heap.size w0 ([cBx b5 46 (encDeed c6)] ++ T) w) (hs4 : SlIn encDeed 3 w0 (.slice A2 (s1).length c3) s1) :
    Calls Try.prog 21 (List.toArray [.slice A2 (s1).length c3, .func (.func 22) #[] #[.pointer (some ⟨b5, 0, none⟩)]]) w (fun e w' => ∃ g : Unit, (True) ∧ e = .returned (.bool res) ∧ St w0.heap.size w0 ([cBx b5 46 (encDeed c6)] ++ T) w') := by
  refine W.enter (n := 9) Try.func21 rfl rfl Sub.refl (by simp) hw fun R hR => ?_
  unfold slices_ContainsFunc_api_Deed_api_Deed at hF
  -- region 0: slices.go:124
  refine W.seqR fun Q1 hQ1 => ?_
  refine WL.q (Y.assign (.pl rfl)) rfl ?_
  refine WL.next hQ1 (.cons (i := 0) rfl (.cons (i := 1) rfl (.nil))) ?_
  -- region 1: slices.go:125
  refine W.seqR fun Q2 hQ2 => ?_
  refine WL.q (Y.move (.pl rfl)) rfl ?_
  refine WL.q (Y.move (.pl rfl)) rfl ?_
  obtain ⟨r7, hr7, hF⟩ := bnd hF
  refine WL.step (WO.call (γ := Unit) (fun g => .int .i64 r7) (fun g => ([cBx b5 46 (encDeed c6)] ++ T)) (fun g => True) isGo42 (.cons (.pl rfl) (.cons (.pl rfl) (.nil))) rfl (fun wz hw => slices_IndexFunc_api_Deed_api_Deed_ok (T := ([] ++ T)) (hr7) (hw.pickK 1 [0] rfl) hs4) ?_)
  rintro _ -
  refine WL.q (Y.geq (.pl rfl) (.pl rfl)) rfl ?_
  refine WL.q (Y.assign (.pl rfl)) rfl ?_
  refine WL.next hQ2 (.cons (i := 4) rfl (.nil)) ?_
  obtain rfl := Option.some.inj hF
  refine W.retV (fn := Try.f21) (vs := [.bool (decide (0 ≤ r7))]) Try.results21 ⟨.tmp rfl, trivial⟩ (fun _ _ h => h) (fun wz hw => ?_)
  exact hR _ _ ⟨(), trivial, rfl, (hw.pickK 1 [0] rfl)⟩

def alibkeep_SerialView_L57 (N : Nat) (l1 : (List Deed)) (x24 : Int) : ((List Deed) × Int) → Option (((List Deed) × Int) ⊕ (List Deed))
  | (m27, v28) =>
    cond (decide (v28 < ((l1).length : Int)))
      (bd (ix l1 v28) fun (x29 : Deed) =>
      cond (decide (x29.who = x24))
        (ck (limB 24 ((m27).length + (([x29] : List Deed)).length)) <|
        ck (ok64 (v28 + 1)) <|
        some (.inl ((m27 ++ ([x29] : List Deed)), (v28 + 1))))
        (ck (ok64 (v28 + 1)) <|
        some (.inl (m27, (v28 + 1)))))
      (some (.inr m27))

def alibkeep_SerialView_L55 (N : Nat) (r6 : ((List Int) × Int)) (l1 : (List Deed)) : ((List Deed) × Int) → Option (((List Deed) × Int) ⊕ (List Deed))
  | (m19, v20) =>
    cond (decide (v20 < ((r6.1).length : Int)))
      (bd (α := (List Deed)) (bd (ix r6.1 v20) fun (x24 : Int) =>
        iter (alibkeep_SerialView_L57 N l1 x24) N (m19, 0)) <|
      fun (m23 : (List Deed)) => 
        ck (ok64 (v20 + 1)) <|
        some (.inl (m23, (v20 + 1))))
      (some (.inr m19))

def alibkeep_SerialView_L59 (N : Nat) (l1 : (List Deed)) : Int → Option (Int ⊕ (Unit ⊕ Bool))
  | v45 =>
    cond (decide (v45 < ((l1).length : Int)))
      (bd (ix l1 v45) fun (x46 : Deed) =>
      bd (α := Bool) (ck (!((decide (x46.kind = 1)) == true) || (slB (l1).length 0 v45)) <|
        cond ((decide (x46.kind = 1)) == true)
          (bd (slices_ContainsFunc_api_Deed_api_Deed N (l1.take v45.toNat) x46) fun (r50 : Bool) =>
          some ((decide (x46.kind = 1)) && (!r50)))
          (some ((decide (x46.kind = 1)) && false))) <|
      fun (v48 : Bool) => 
        cond v48
          (some (.inr (.inr true)))
          (ck (ok64 (v45 + 1)) <|
          some (.inl (v45 + 1))))
      (some (.inr (.inl ())))

def alibkeep_SerialView (N : Nat) (l1 : (List Deed)) : Option Bool :=
  bd (serial_Order N l1) fun (r6 : ((List Int) × Int)) =>
  bd (serial_View N l1) fun (r9 : ((List Int) × Bool × Int)) =>
  bd (alibkeep_serialLives N) fun (r12 : Bool) =>
  cond ((!r12) || (!(decide (r9.2.2 = 0))))
    (bd (alibkeep_serialLives N) fun (r13 : Bool) =>
    some (r13 && (decide (r6.2 = r9.2.2))))
    (bd (α := (Unit ⊕ Bool)) (cond (decide (r6.2 = 0))
        (bd (α := (List Deed)) (iter (alibkeep_SerialView_L55 N r6 l1) N ([], 0)) <|
        fun (m16 : (List Deed)) => 
          bd (serial_Graph N l1) fun (r38 : (Int × (List Int) × Int)) =>
          bd (serial_Graph N m16) fun (r40 : (Int × (List Int) × Int)) =>
          bd (α := Bool) (cond ((!r9.2.1) == false)
              (bd (alibkeep_ok N ([r38.2.2, r40.2.2] : List Int)) fun (r44 : Bool) =>
              some ((((!r9.2.1) || (!r44)) || (!(decide (r38.1 = r40.1) && eqA 12 r38.2.1 r40.2.1))) || (!(decide (((m16).length : Int) = ((l1).length : Int))))))
              (some ((((!r9.2.1) || false) || (!(decide (r38.1 = r40.1) && eqA 12 r38.2.1 r40.2.1))) || (!(decide (((m16).length : Int) = ((l1).length : Int))))))) <|
          fun (v42 : Bool) => 
            cond v42
              (some (.inr false))
              (some (.inl ())))
        (some (.inl ()))) <|
    Sum.elim (fun _ => 
      bd (α := (Unit ⊕ Bool)) (iter (alibkeep_SerialView_L59 N l1) N 0) <|
      Sum.elim (fun _ => 
        some (r9.2.1 == (decide (r6.2 = 0)))) (fun p => some p)) (fun p => some p))

theorem alibkeep_SerialView_ok {N : Nat} {l1 : (List Deed)} {res : Bool} (hF : alibkeep_SerialView N l1 = some res) (w : World) {v5 : Value} (hs4 : SlIn encDeed 3 w v5 l1) :
    Pure Try.prog 5 [v5] w (.bool res) := by
  obtain ⟨A2, c3, rfl, hcc3, hs4⟩ := hs4.form
  refine W.enter (n := 120) Try.func5 rfl rfl Sub.refl (by simp) (St.start w) fun R hR => ?_
  unfold alibkeep_SerialView at hF
  -- region 0: serial.go:32
  refine W.seqR fun Q1 hQ1 => ?_
  refine WL.q (Y.assign (.pl rfl)) rfl ?_
  refine WL.next hQ1 (.cons (i := 0) rfl (.nil)) ?_
  -- region 1: serial.go:33
  refine W.seqR fun Q2 hQ2 => ?_
  refine WL.q (Y.move (.pl rfl)) rfl ?_
  obtain ⟨r6, hr6, hF⟩ := bnd hF
  refine WL.step (WO.callM isGo16 (.cons (.pl rfl) (.nil)) rfl (fun wz hw => serial_Order_ok (hr6) wz (hs4.mono hw)) ?_)
  rintro ⟨A7, c8⟩ -
  refine WL.q (Y.move (.pl rfl)) rfl ?_
  refine WL.q (Y.extract (.pl rfl) rfl) rfl ?_
  refine WL.q (Y.extract (.pl rfl) rfl) rfl ?_
  refine WL.q (Y.assign (.pl rfl)) rfl ?_
  refine WL.q (Y.assign (.pl rfl)) rfl ?_
  refine WL.next hQ2 (.cons (i := 0) rfl (.cons (i := 3) rfl (.cons (i := 4) rfl (.nil)))) ?_
  -- region 2: serial.go:34
  refine W.seqR fun Q3 hQ3 => ?_
  refine WL.q (Y.move (.pl rfl)) rfl ?_
  obtain ⟨r9, hr9, hF⟩ := bnd hF
  refine WL.step (WO.callM isGo17 (.cons (.pl rfl) (.nil)) rfl (fun wz hw => serial_View_ok (hr9) wz (hs4.mono hw)) ?_)
  rintro ⟨A10, c11⟩ -
  refine WL.q (Y.move (.pl rfl)) rfl ?_
  refine WL.q (Y.extract (.pl rfl) rfl) rfl ?_
  refine WL.q (Y.extract (.pl rfl) rfl) rfl ?_
  refine WL.q (Y.extract (.pl rfl) rfl) rfl ?_
  refine WL.q (Y.assign (.pl rfl)) rfl ?_
  refine WL.q (Y.assign (.pl rfl)) rfl ?_
  refine WL.q (Y.assign (.pl rfl)) rfl ?_
  refine WL.next hQ3 (.cons (i := 0) rfl (.cons (i := 3) rfl (.cons (i := 4) rfl (.cons (i := 6) rfl (.cons (i := 7) rfl (.nil)))))) ?_
  refine W.seq fun K4 hK4 => ?_
  -- region 3: serial.go:35
  refine W.seqR fun Q5 hQ5 => ?_
  obtain ⟨r12, hr12, hF⟩ := bnd hF
  refine WL.step (WO.callP isGo18 (.nil) rfl (fun wz hw => alibkeep_serialLives_ok (hr12) wz ) ?_)
  refine WL.q (Y.not (.pl rfl)) rfl ?_
  refine WL.q (Y.move (.pl rfl)) rfl ?_
  refine WL.g (.pl rfl rfl rfl) (fun hg => Y.move (.pl rfl)) rfl ?_
  refine WL.g (.pl rfl rfl rfl) (fun hg => Y.neq (.gd (hg) rfl) (.pl rfl)) rfl ?_
  refine WL.q (Y.or (.pl rfl) (fun h2 => .gd (eqf h2) rfl)) rfl ?_
  refine WL.next hQ5 (.cons (i := 0) rfl (.cons (i := 3) rfl (.cons (i := 4) rfl (.cons (i := 6) rfl (.cons (i := 7) rfl (.cons (i := 35) rfl (.nil))))))) ?_
  refine W.cond (.pl rfl) (fun hC6 => ?_) (fun hC6 => ?_)
  · replace hF := cpos hC6 hF
    -- region 4: serial.go:36
    refine W.seqR fun Q7 hQ7 => ?_
    obtain ⟨r13, hr13, hF⟩ := bnd hF
    refine WL.step (WO.callP isGo18 (.nil) rfl (fun wz hw => alibkeep_serialLives_ok (hr13) wz ) ?_)
    refine WL.q (Y.move (.pl rfl)) rfl ?_
    refine WL.g (.pl rfl rfl rfl) (fun hg => Y.move (.pl rfl)) rfl ?_
    refine WL.g (.pl rfl rfl rfl) (fun hg => Y.move (.pl rfl)) rfl ?_
    refine WL.g (.pl rfl rfl rfl) (fun hg => Y.eql (.gd (hg) rfl) (.gd (hg) rfl)) rfl ?_
    refine WL.q (Y.and (.pl rfl) (fun h2 => .gd (eqt h2) rfl)) rfl ?_
    refine WL.q (Y.assign (.pl rfl)) rfl ?_
    refine WL.next hQ7 (.cons (i := 2) rfl (.nil)) ?_
    obtain rfl := Option.some.inj hF
    refine W.retV (fn := Try.f5) (vs := [.bool (r13 && (decide (r6.2 = r9.2.2)))]) Try.results5 ⟨.tmp rfl, trivial⟩ (fun _ _ h => h) (fun wz hw => ?_)
    exact hR _ _ ⟨rfl, (hw.pick [] rfl)⟩
  · replace hF := cneg hC6 hF
    refine W.skip ?_
    refine W.go hK4 (.cons (i := 0) rfl (.cons (i := 3) rfl (.cons (i := 4) rfl (.cons (i := 6) rfl (.nil))))) ?_
    obtain ⟨o8, hF8, hF⟩ := bnd hF
    refine W.join0 (Em := []) (M := []) (I := (.inl ()) = o8) (.cons (i := 0) rfl (.cons (i := 4) rfl (.cons (i := 6) rfl (.nil)))) (fun K9 hK9 => ?_) ?_
    · -- up to
      -- region 5: serial.go:38
      refine W.seqR fun Q10 hQ10 => ?_
      refine WL.q (Y.move (.pl rfl)) rfl ?_
      refine WL.q (Y.eql (.pl rfl) (.pl rfl)) rfl ?_
      refine WL.next hQ10 (.cons (i := 0) rfl (.cons (i := 3) rfl (.cons (i := 4) rfl (.cons (i := 6) rfl (.cons (i := 43) rfl (.nil)))))) ?_
      refine W.cond (.pl rfl) (fun hC11 => ?_) (fun hC11 => ?_)
      · replace hF8 := cpos hC11 hF8
        -- region 6: serial.go:40
        refine W.seqR fun Q12 hQ12 => ?_
        refine WL.q (Y.assign (.pl rfl)) rfl ?_
        refine WL.next hQ12 (.cons (i := 0) rfl (.cons (i := 3) rfl (.cons (i := 4) rfl (.cons (i := 6) rfl (.cons (i := 8) rfl (.nil)))))) ?_
        obtain ⟨o13, hF13, hF8⟩ := bnd hF8
        refine W.join3 (Em := fun (m16 : (List Deed)) (A14 : Option Addr) (c15 : Nat) => [(8, .slice A14 (m16).length c15)]) (M := fun m16 A14 c15 => [cR encDeed 3 A14 c15 46 m16]) (I := fun m16 A14 c15 => m16 = o13) (.cons (i := 0) rfl (.cons (i := 4) rfl (.cons (i := 6) rfl (.nil)))) (fun K14 hK14 => ?_) ?_
        · -- up to
          -- region 7: serial.go:41
          refine W.seqR fun Q15 hQ15 => ?_
          refine WL.q (Y.move (.pl rfl)) rfl ?_
          refine WL.q (Y.len Try.underlying23 (.pl rfl)) rfl ?_
          refine WL.q (Y.move (.pl rfl)) rfl ?_
          refine WL.next hQ15 (.cons (i := 0) rfl (.cons (i := 4) rfl (.cons (i := 6) rfl (.cons (i := 8) rfl (.cons (i := 44) rfl (.cons (i := 45) rfl (.cons (i := 46) rfl (.nil)))))))) ?_
          refine W.block ?_
          refine W.loop4 (Em := fun (m19 : (List Deed)) (v20 : Int) (A17 : Option Addr) (c18 : Nat) => [(8, .slice A17 (m19).length c18), (46, .int .i64 v20)]) (M := fun m19 v20 A17 c18 => [cR encDeed 3 A17 c18 46 m19, cR (eI .i64) 1 A7 c8 3 r6.1]) (I := fun m19 v20 A17 c18 k16 => iter (alibkeep_SerialView_L55 N r6 l1) k16 (m19, v20) = some o13) [] 0 none 0 N (hF13) (.cons rfl (.cons rfl (.nil))) (.cons (i := 0) rfl (.cons (i := 4) rfl (.cons (i := 6) rfl (.cons (i := 44) rfl (.cons (i := 45) rfl (.nil)))))) (fun wz hw => (St.nilR (hw.pick [1] rfl) encDeed 3 46).pick [0, 1] rfl) (fun m19 v20 A17 c18 k16 hI K17 hK17 => ?_)
          obtain ⟨k16, t16, rfl, hF16, hN16⟩ := iter_step hI
          -- region 8: serial.go:41
          refine W.seqR fun Q18 hQ18 => ?_
          refine WL.q (Y.lss (.pl rfl) (.pl rfl)) rfl ?_
          refine WL.next hQ18 (.cons (i := 0) rfl (.cons (i := 4) rfl (.cons (i := 6) rfl (.cons (i := 8) rfl (.cons (i := 44) rfl (.cons (i := 45) rfl (.cons (i := 46) rfl (.cons (i := 47) rfl (.nil))))))))) ?_
          refine W.seq fun K19 hK19 => ?_
          refine W.cond (.pl rfl) (fun hC20 => ?_) (fun hC20 => ?_)
          · replace hF16 := cpos hC20 hF16
            refine W.skip ?_
            refine W.go hK19 (.cons (i := 0) rfl (.cons (i := 4) rfl (.cons (i := 6) rfl (.cons (i := 8) rfl (.cons (i := 44) rfl (.cons (i := 45) rfl (.cons (i := 46) rfl (.nil)))))))) ?_
            obtain ⟨o21, hF21, hF16⟩ := bnd hF16
            refine W.join3 (Em := fun (m23 : (List Deed)) (A21 : Option Addr) (c22 : Nat) => [(8, .slice A21 (m23).length c22)]) (M := fun m23 A21 c22 => [cR encDeed 3 A21 c22 46 m23, cR (eI .i64) 1 A7 c8 3 r6.1]) (I := fun m23 A21 c22 => m23 = o21) (.cons (i := 0) rfl (.cons (i := 4) rfl (.cons (i := 6) rfl (.cons (i := 44) rfl (.cons (i := 45) rfl (.cons (i := 46) rfl (.nil))))))) (fun K22 hK22 => ?_) ?_
            · -- up to
              refine W.block ?_
              -- region 9: serial.go:41
              refine W.seqR fun Q23 hQ23 => ?_
              obtain ⟨x24, hx24, hF21⟩ := bnd hF21
              refine WL.q (Y.rowEl Try.underlying23 cells3 (i := 1) rfl (.pl rfl) rfl (.pl rfl) (ix_lt (hx24))) rfl ?_
              refine WL.q (Y.loadR (enc := (eI .i64)) (v := .int .i64 x24) (a := x24) (idx := v20) (j := 0) Try.underlying3 rfl (fun _ => rfl) (i := 1) rfl (.pl rfl) (ix_get (hx24)) rfl rfl) rfl ?_
              refine WL.q (Y.assign (.pl rfl)) rfl ?_
              refine WL.next hQ23 (.cons (i := 0) rfl (.cons (i := 4) rfl (.cons (i := 6) rfl (.cons (i := 8) rfl (.cons (i := 10) rfl (.cons (i := 44) rfl (.cons (i := 45) rfl (.cons (i := 46) rfl (.nil))))))))) ?_
              -- region 10: serial.go:42
              refine W.seqR fun Q24 hQ24 => ?_
              refine WL.q (Y.move (.pl rfl)) rfl ?_
              refine WL.q (Y.len Try.underlying40 (.pl rfl)) rfl ?_
              refine WL.q (Y.move (.pl rfl)) rfl ?_
              refine WL.next hQ24 (.cons (i := 0) rfl (.cons (i := 4) rfl (.cons (i := 6) rfl (.cons (i := 8) rfl (.cons (i := 10) rfl (.cons (i := 44) rfl (.cons (i := 45) rfl (.cons (i := 46) rfl (.cons (i := 50) rfl (.cons (i := 51) rfl (.cons (i := 52) rfl (.nil)))))))))))) ?_
              refine W.block ?_
              refine W.loop4 (Em := fun (m27 : (List Deed)) (v28 : Int) (A25 : Option Addr) (c26 : Nat) => [(8, .slice A25 (m27).length c26), (52, .int .i64 v28)]) (M := fun m27 v28 A25 c26 => [cR encDeed 3 A25 c26 46 m27, cR (eI .i64) 1 A7 c8 3 r6.1]) (I := fun m27 v28 A25 c26 k25 => iter (alibkeep_SerialView_L57 N l1 x24) k25 (m27, v28) = some o21) m19 0 A17 c18 N (hF21) (.cons rfl (.cons rfl (.nil))) (.cons (i := 0) rfl (.cons (i := 4) rfl (.cons (i := 6) rfl (.cons (i := 10) rfl (.cons (i := 44) rfl (.cons (i := 45) rfl (.cons (i := 46) rfl (.cons (i := 50) rfl (.cons (i := 51) rfl (.nil)))))))))) (fun wz hw => hw.pick [0, 1] rfl) (fun m27 v28 A25 c26 k25 hI K26 hK26 => ?_)
              obtain ⟨k25, t25, rfl, hF25, hN25⟩ := iter_step hI
              -- region 11: serial.go:42
              refine W.seqR fun Q27 hQ27 => ?_
              refine WL.q (Y.lss (.pl rfl) (.pl rfl)) rfl ?_
              refine WL.next hQ27 (.cons (i := 0) rfl (.cons (i := 4) rfl (.cons (i := 6) rfl (.cons (i := 8) rfl (.cons (i := 10) rfl (.cons (i := 44) rfl (.cons (i := 45) rfl (.cons (i := 46) rfl (.cons (i := 50) rfl (.cons (i := 51) rfl (.cons (i := 52) rfl (.cons (i := 53) rfl (.nil))))))))))))) ?_
              refine W.seq fun K28 hK28 => ?_
              refine W.cond (.pl rfl) (fun hC29 => ?_) (fun hC29 => ?_)
              · replace hF25 := cpos hC29 hF25
                refine W.skip ?_
                refine W.go hK28 (.cons (i := 0) rfl (.cons (i := 4) rfl (.cons (i := 6) rfl (.cons (i := 8) rfl (.cons (i := 10) rfl (.cons (i := 44) rfl (.cons (i := 45) rfl (.cons (i := 46) rfl (.cons (i := 50) rfl (.cons (i := 51) rfl (.cons (i := 52) rfl (.nil)))))))))))) ?_
                refine W.seq fun K30 hK30 => ?_
                refine W.block ?_
                -- region 12: serial.go:42
                refine W.seqR fun Q31 hQ31 => ?_
                obtain ⟨x29, hx29, hF25⟩ := bnd hF25
                refine WL.q (Y.slEl Try.underlying40 cells46 hs4 (.pl rfl) (.pl rfl) (ix_lt (hx29))) rfl ?_
                refine WL.q (Y.loadSA (enc := encDeed) (ds := (encDeed x29)) (j := 0) Try.underlying46 rfl cells46 hs4 (.pl rfl) (hx29) rfl rfl subW) rfl ?_
                refine WL.step (WO.alloc (cs := (encDeed (Deed.mk 0 0 0)).toArray) zero46 rfl rfl fun b30 => ?_)
                refine WL.step (WO.storeBA (ds := (encDeed x29)) (cs' := (encDeed x29)) cells46 (.pl rfl) (.pl rfl) rfl (oneDeed _) (i := 0) rfl (lel (o := 0) (l := 3) (m := 3) (by decide) rfl rfl) (putW rfl) ?_)
                refine WL.next hQ31 (.cons (i := 0) rfl (.cons (i := 4) rfl (.cons (i := 6) rfl (.cons (i := 8) rfl (.cons (i := 10) rfl (.cons (i := 12) rfl (.cons (i := 44) rfl (.cons (i := 45) rfl (.cons (i := 46) rfl (.cons (i := 50) rfl (.cons (i := 51) rfl (.cons (i := 52) rfl (.nil))))))))))))) ?_
                -- region 13: serial.go:43
                refine W.seqR fun Q32 hQ32 => ?_
                refine WL.q (Y.fieldAddr0 (off := 0) (ft := 3) Try.underlying46 rfl cells3 (.pl rfl)) rfl ?_
                refine WL.q (Y.loadB (v := .int .i64 x29.who) Try.underlying3 rfl (.pl rfl) (i := 0) rfl (rfl)) rfl ?_
                refine WL.q (Y.move (.pl rfl)) rfl ?_
                refine WL.q (Y.eql (.pl rfl) (.pl rfl)) rfl ?_
                refine WL.next hQ32 (.cons (i := 0) rfl (.cons (i := 4) rfl (.cons (i := 6) rfl (.cons (i := 8) rfl (.cons (i := 10) rfl (.cons (i := 12) rfl (.cons (i := 44) rfl (.cons (i := 45) rfl (.cons (i := 46) rfl (.cons (i := 50) rfl (.cons (i := 51) rfl (.cons (i := 52) rfl (.cons (i := 59) rfl (.nil)))))))))))))) ?_
                refine W.cond (.pl rfl) (fun hC33 => ?_) (fun hC33 => ?_)
                · replace hF25 := cpos hC33 hF25
                  -- region 14: serial.go:44
                  refine W.reg ?_
                  refine WL.q (Y.move (.pl rfl)) rfl ?_
                  refine WL.q (Y.loadBA (ds := (encDeed x29)) Try.underlying46 rfl cells46 (.pl rfl) (i := 0) rfl rfl subW) rfl ?_
                  refine WL.step (WO.bsliceC (enc := encDeed) (ys := ([x29] : List Deed)) Try.underlying40 bz46 (.cons (.pl rfl) (.nil)) rfl lenDeed rfl rfl (by decide) (by decide) rfl fun b31 => ?_)
                  obtain ⟨hk34, hF25⟩ := ckh hF25
                  refine WL.step (WO.appendC (enc := encDeed) Try.underlying40 ap46 lenDeed oneDeed (.pl rfl) rfl (.pl rfl) (i := 2) rfl (m2 := 0) rfl (hk34) rfl fun A32 c33 => ?_)
                  refine WL.q (Y.assign (.pl rfl)) rfl ?_
                  refine WL.nil ?_
                  refine W.go hK30 (.cons (i := 0) rfl (.cons (i := 4) rfl (.cons (i := 6) rfl (.cons (i := 8) rfl (.cons (i := 10) rfl (.cons (i := 44) rfl (.cons (i := 45) rfl (.cons (i := 46) rfl (.cons (i := 50) rfl (.cons (i := 51) rfl (.cons (i := 52) rfl (.nil)))))))))))) ?_
                  -- region 15: serial.go:42
                  refine W.reg ?_
                  obtain ⟨hk35, hF25⟩ := ckh hF25
                  refine WL.q (Y.add (.pl rfl) (.pl rfl) (ok64_lt (hk35))) rfl ?_
                  refine WL.q (Y.move (.pl rfl)) rfl ?_
                  refine WL.nil ?_
                  obtain rfl := Option.some.inj hF25
                  exact W.again4 hK26 (m27 ++ ([x29] : List Deed)) (v28 + 1) A32 c33 k25 hN25 (Nat.lt_succ_self _) (.cons rfl (.cons rfl (.nil))) (.cons (i := 0) rfl (.cons (i := 4) rfl (.cons (i := 6) rfl (.cons (i := 10) rfl (.cons (i := 44) rfl (.cons (i := 45) rfl (.cons (i := 46) rfl (.cons (i := 50) rfl (.cons (i := 51) rfl (.nil)))))))))) (fun wz hw => hw.pick [2, 3] rfl)
                · replace hF25 := cneg hC33 hF25
                  refine W.skip ?_
                  refine W.go hK30 (.cons (i := 0) rfl (.cons (i := 4) rfl (.cons (i := 6) rfl (.cons (i := 8) rfl (.cons (i := 10) rfl (.cons (i := 44) rfl (.cons (i := 45) rfl (.cons (i := 46) rfl (.cons (i := 50) rfl (.cons (i := 51) rfl (.cons (i := 52) rfl (.nil)))))))))))) ?_
                  -- region 15: serial.go:42
                  refine W.reg ?_
                  obtain ⟨hk36, hF25⟩ := ckh hF25
                  refine WL.q (Y.add (.pl rfl) (.pl rfl) (ok64_lt (hk36))) rfl ?_
                  refine WL.q (Y.move (.pl rfl)) rfl ?_
                  refine WL.nil ?_
                  obtain rfl := Option.some.inj hF25
                  exact W.again4 hK26 m27 (v28 + 1) A25 c26 k25 hN25 (Nat.lt_succ_self _) (.cons rfl (.cons rfl (.nil))) (.cons (i := 0) rfl (.cons (i := 4) rfl (.cons (i := 6) rfl (.cons (i := 10) rfl (.cons (i := 44) rfl (.cons (i := 45) rfl (.cons (i := 46) rfl (.cons (i := 50) rfl (.cons (i := 51) rfl (.nil)))))))))) (fun wz hw => hw.pick [1, 2] rfl)
              · replace hF25 := cneg hC29 hF25
                refine W.exit ?_
                obtain rfl := Option.some.inj hF25
                exact W.joinAt3 hK22 m27 A25 c26 (einr hN25) (.cons rfl (.nil)) (.cons (i := 0) rfl (.cons (i := 4) rfl (.cons (i := 6) rfl (.cons (i := 44) rfl (.cons (i := 45) rfl (.cons (i := 46) rfl (.nil))))))) (fun wz hw => hw.pick [0, 1] rfl)
            · -- behind
              rintro m23 A21 c22 rfl
              -- region 16: serial.go:41
              refine W.reg ?_
              obtain ⟨hk37, hF16⟩ := ckh hF16
              refine WL.q (Y.add (.pl rfl) (.pl rfl) (ok64_lt (hk37))) rfl ?_
              refine WL.q (Y.move (.pl rfl)) rfl ?_
              refine WL.nil ?_
              obtain rfl := Option.some.inj hF16
              exact W.again4 hK17 m23 (v20 + 1) A21 c22 k16 hN16 (Nat.lt_succ_self _) (.cons rfl (.cons rfl (.nil))) (.cons (i := 0) rfl (.cons (i := 4) rfl (.cons (i := 6) rfl (.cons (i := 44) rfl (.cons (i := 45) rfl (.nil)))))) (fun wz hw => hw.pick [0, 1] rfl)
          · replace hF16 := cneg hC20 hF16
            refine W.exit ?_
            obtain rfl := Option.some.inj hF16
            exact W.joinAt3 hK14 m19 A17 c18 (einr hN16) (.cons rfl (.nil)) (.cons (i := 0) rfl (.cons (i := 4) rfl (.cons (i := 6) rfl (.nil)))) (fun wz hw => hw.pick [0] rfl)
        · -- behind
          rintro m16 A14 c15 rfl
          -- region 17: serial.go:48
          refine W.seqR fun Q38 hQ38 => ?_
          refine WL.q (Y.move (.pl rfl)) rfl ?_
          obtain ⟨r38, hr38, hF8⟩ := bnd hF8
          refine WL.step (WO.callP isGo19 (.cons (.pl rfl) (.nil)) rfl (fun wz hw => serial_Graph_ok (hr38) wz (hs4.mono hw)) ?_)
          refine WL.q (Y.move (.pl rfl)) rfl ?_
          refine WL.q (Y.extract (.pl rfl) rfl) rfl ?_
          refine WL.q (Y.extract (.pl rfl) rfl) rfl ?_
          refine WL.step (WO.alloc (cs := (encRel (Rel.mk 0 [])).toArray) zero50 rfl rfl fun b39 => ?_)
          refine WL.step (WO.storeBA (ds := (encRel (Rel.mk r38.1 r38.2.1))) (cs' := (encRel (Rel.mk r38.1 r38.2.1))) cells50 (.pl rfl) (.pl rfl) rfl (oneRel _) (i := 0) rfl (lel (o := 0) (l := 13) (m := 13) (by decide) rfl rfl) (putW rfl) ?_)
          refine WL.q (Y.assign (.pl rfl)) rfl ?_
          refine WL.next hQ38 (.cons (i := 0) rfl (.cons (i := 4) rfl (.cons (i := 6) rfl (.cons (i := 8) rfl (.cons (i := 13) rfl (.cons (i := 14) rfl (.nil))))))) ?_
          -- region 18: serial.go:49
          refine W.seqR fun Q39 hQ39 => ?_
          refine WL.q (Y.move (.pl rfl)) rfl ?_
          obtain ⟨r40, hr40, hF8⟩ := bnd hF8
          refine WL.step (WO.callP isGo19 (.cons (.pl rfl) (.nil)) rfl (fun wz hw => serial_Graph_ok (hr40) wz (SlIn.ofRow lenDeed hw (i := 1) rfl)) ?_)
          refine WL.q (Y.move (.pl rfl)) rfl ?_
          refine WL.q (Y.extract (.pl rfl) rfl) rfl ?_
          refine WL.q (Y.extract (.pl rfl) rfl) rfl ?_
          refine WL.step (WO.alloc (cs := (encRel (Rel.mk 0 [])).toArray) zero50 rfl rfl fun b41 => ?_)
          refine WL.step (WO.storeBA (ds := (encRel (Rel.mk r40.1 r40.2.1))) (cs' := (encRel (Rel.mk r40.1 r40.2.1))) cells50 (.pl rfl) (.pl rfl) rfl (oneRel _) (i := 0) rfl (lel (o := 0) (l := 13) (m := 13) (by decide) rfl rfl) (putW rfl) ?_)
          refine WL.q (Y.assign (.pl rfl)) rfl ?_
          refine WL.next hQ39 (.cons (i := 0) rfl (.cons (i := 4) rfl (.cons (i := 6) rfl (.cons (i := 8) rfl (.cons (i := 13) rfl (.cons (i := 14) rfl (.cons (i := 15) rfl (.cons (i := 16) rfl (.nil))))))))) ?_
          obtain ⟨o40, hF40, hF8⟩ := bnd hF8
          refine W.join1 (Em := fun (v42 : Bool) => [(96, .bool v42)]) (M := fun v42 => []) (I := fun v42 => v42 = o40) (.cons (i := 0) rfl (.cons (i := 4) rfl (.cons (i := 6) rfl (.nil)))) (fun K41 hK41 => ?_) ?_
          · -- up to
            -- region 19: serial.go:50
            refine W.reg ?_
            refine WL.q (Y.move (.pl rfl)) rfl ?_
            refine WL.q (Y.not (.pl rfl)) rfl ?_
            refine WL.q (Y.move (.pl rfl)) rfl ?_
            refine WL.g (.pl rfl rfl rfl) (fun hg => Y.move (.pl rfl)) rfl ?_
            refine WL.g (.pl rfl rfl rfl) (fun hg => Y.move (.pl rfl)) rfl ?_
            refine bsplit ((!r9.2.1) == false) (fun hg42 => ?_) (fun hg42 => ?_)
            · replace hF40 := cpos hg42 hF40
              refine WL.gd (.pl rfl rfl rfl) (hg42) ?_
              refine WL.step (WO.bsliceC (enc := (eI .i64)) (ys := ([r38.2.2, r40.2.2] : List Int)) Try.underlying99 bz25 (.cons (.gd (hg42) rfl) (.cons (.gd (hg42) rfl) (.nil))) rfl (fun _ => rfl) rfl rfl (by decide) (by decide) rfl fun b43 => ?_)
              refine WL.gd (.pl rfl rfl rfl) (hg42) ?_
              obtain ⟨r44, hr44, hF40⟩ := bnd hF40
              refine WL.step (WO.callP isGo20 (.cons (.pl rfl) (.nil)) rfl (fun wz hw => alibkeep_ok_ok (hr44) wz (SlIn.ofRow (fun _ => rfl) hw (i := 0) rfl)) ?_)
              refine WL.gd (.pl rfl rfl rfl) (hg42) ?_
              refine WL.q (Y.not (.pl rfl)) rfl ?_
              refine WL.q (Y.or (.pl rfl) (fun _ => .pl rfl)) rfl ?_
              refine WL.q (Y.move (.pl rfl)) rfl ?_
              refine WL.g (.pl rfl rfl rfl) (fun hg => Y.loadBA (ds := (encRel (Rel.mk r38.1 r38.2.1))) Try.underlying50 rfl cells50 (.pl rfl) (i := 2) rfl rfl subW) rfl ?_
              refine WL.g (.pl rfl rfl rfl) (fun hg => Y.loadBA (ds := (encRel (Rel.mk r40.1 r40.2.1))) Try.underlying50 rfl cells50 (.pl rfl) (i := 1) rfl rfl subW) rfl ?_
              refine WL.g (.pl rfl rfl rfl) (fun hg => Y.neqG eqg50 (.gd (hg) rfl) (.gd (hg) rfl)) rfl ?_
              refine WL.q (Y.or (.pl rfl) (fun h2 => .gd (eqf h2) rfl)) rfl ?_
              refine WL.q (Y.move (.pl rfl)) rfl ?_
              refine WL.g (.pl rfl rfl rfl) (fun hg => Y.move (.pl rfl)) rfl ?_
              refine WL.g (.pl rfl rfl rfl) (fun hg => Y.len Try.underlying40 (.gd (hg) rfl)) rfl ?_
              refine WL.g (.pl rfl rfl rfl) (fun hg => Y.move (.pl rfl)) rfl ?_
              refine WL.g (.pl rfl rfl rfl) (fun hg => Y.len Try.underlying40 (.gd (hg) rfl)) rfl ?_
              refine WL.g (.pl rfl rfl rfl) (fun hg => Y.neq (.gd (hg) rfl) (.gd (hg) rfl)) rfl ?_
              refine WL.q (Y.or (.pl rfl) (fun h2 => .gd (eqf h2) rfl)) rfl ?_
              refine WL.nil ?_
              exact W.joinAt1 hK41 ((((!r9.2.1) || (!r44)) || (!(decide (r38.1 = r40.1) && eqA 12 r38.2.1 r40.2.1))) || (!(decide (((m16).length : Int) = ((l1).length : Int))))) (Option.some.inj hF40) (.cons rfl (.nil)) (.cons (i := 0) rfl (.cons (i := 4) rfl (.cons (i := 6) rfl (.nil)))) (fun wz hw => hw.pick [] rfl)
            · replace hF40 := cneg hg42 hF40
              refine WL.gn (.pl rfl rfl rfl) hg42 rfl ?_
              refine WL.gn (.pl rfl rfl rfl) hg42 rfl ?_
              refine WL.gn (.pl rfl rfl rfl) hg42 rfl ?_
              refine WL.q (Y.or (b := false) (.pl rfl) (fun h2 => (gabsO hg42 h2).elim)) rfl ?_
              refine WL.q (Y.move (.pl rfl)) rfl ?_
              refine WL.g (.pl rfl rfl rfl) (fun hg => Y.loadBA (ds := (encRel (Rel.mk r38.1 r38.2.1))) Try.underlying50 rfl cells50 (.pl rfl) (i := 1) rfl rfl subW) rfl ?_
              refine WL.g (.pl rfl rfl rfl) (fun hg => Y.loadBA (ds := (encRel (Rel.mk r40.1 r40.2.1))) Try.underlying50 rfl cells50 (.pl rfl) (i := 0) rfl rfl subW) rfl ?_
              refine WL.g (.pl rfl rfl rfl) (fun hg => Y.neqG eqg50 (.gd (hg) rfl) (.gd (hg) rfl)) rfl ?_
              refine WL.q (Y.or (.pl rfl) (fun h2 => .gd (eqf h2) rfl)) rfl ?_
              refine WL.q (Y.move (.pl rfl)) rfl ?_
              refine WL.g (.pl rfl rfl rfl) (fun hg => Y.move (.pl rfl)) rfl ?_
              refine WL.g (.pl rfl rfl rfl) (fun hg => Y.len Try.underlying40 (.gd (hg) rfl)) rfl ?_
              refine WL.g (.pl rfl rfl rfl) (fun hg => Y.move (.pl rfl)) rfl ?_
              refine WL.g (.pl rfl rfl rfl) (fun hg => Y.len Try.underlying40 (.gd (hg) rfl)) rfl ?_
              refine WL.g (.pl rfl rfl rfl) (fun hg => Y.neq (.gd (hg) rfl) (.gd (hg) rfl)) rfl ?_
              refine WL.q (Y.or (.pl rfl) (fun h2 => .gd (eqf h2) rfl)) rfl ?_
              refine WL.nil ?_
              exact W.joinAt1 hK41 ((((!r9.2.1) || false) || (!(decide (r38.1 = r40.1) && eqA 12 r38.2.1 r40.2.1))) || (!(decide (((m16).length : Int) = ((l1).length : Int))))) (Option.some.inj hF40) (.cons rfl (.nil)) (.cons (i := 0) rfl (.cons (i := 4) rfl (.cons (i := 6) rfl (.nil)))) (fun wz hw => hw.pick [] rfl)
          · -- behind
            rintro v42 rfl
            refine W.cond (.pl rfl) (fun hC43 => ?_) (fun hC43 => ?_)
            · replace hF8 := cpos hC43 hF8
              -- region 20: serial.go:51
              refine W.seqR fun Q44 hQ44 => ?_
              refine WL.q (Y.assign (.pl rfl)) rfl ?_
              refine WL.next hQ44 (.cons (i := 2) rfl (.nil)) ?_
              obtain rfl := Option.some.inj hF8
              obtain rfl := Option.some.inj hF
              refine W.retV (fn := Try.f5) (vs := [.bool false]) Try.results5 ⟨.tmp rfl, trivial⟩ (fun _ _ h => h) (fun wz hw => ?_)
              exact hR _ _ ⟨rfl, (hw.pick [] rfl)⟩
            · replace hF8 := cneg hC43 hF8
              refine W.skip ?_
              exact W.joinAt0 hK9  (Option.some.inj hF8) (.nil) (.cons (i := 0) rfl (.cons (i := 4) rfl (.cons (i := 6) rfl (.nil)))) (fun wz hw => hw.pick [] rfl)
      · replace hF8 := cneg hC11 hF8
        refine W.skip ?_
        exact W.joinAt0 hK9  (Option.some.inj hF8) (.nil) (.cons (i := 0) rfl (.cons (i := 4) rfl (.cons (i := 6) rfl (.nil)))) (fun wz hw => hw.pick [] rfl)
    · -- behind
      rintro  rfl
      obtain ⟨o45, hF45, hF⟩ := bnd hF
      refine W.join0 (Em := []) (M := []) (I := (.inl ()) = o45) (.cons (i := 4) rfl (.cons (i := 6) rfl (.nil))) (fun K46 hK46 => ?_) ?_
      · -- up to
        -- region 21: serial.go:54
        refine W.seqR fun Q47 hQ47 => ?_
        refine WL.q (Y.move (.pl rfl)) rfl ?_
        refine WL.q (Y.len Try.underlying40 (.pl rfl)) rfl ?_
        refine WL.q (Y.move (.pl rfl)) rfl ?_
        refine WL.next hQ47 (.cons (i := 0) rfl (.cons (i := 4) rfl (.cons (i := 6) rfl (.cons (i := 97) rfl (.cons (i := 98) rfl (.cons (i := 99) rfl (.nil))))))) ?_
        refine W.block ?_
        refine W.loop1 (Em := fun (v45 : Int) => [(99, .int .i64 v45)]) (M := fun v45 => []) (I := fun v45 k48 => iter (alibkeep_SerialView_L59 N l1) k48 v45 = some o45) 0 N (hF45) (.cons rfl (.nil)) (.cons (i := 0) rfl (.cons (i := 4) rfl (.cons (i := 6) rfl (.cons (i := 97) rfl (.cons (i := 98) rfl (.nil)))))) (fun wz hw => hw.pick [] rfl) (fun v45 k48 hI K49 hK49 => ?_)
        obtain ⟨k48, t48, rfl, hF48, hN48⟩ := iter_step hI
        -- region 22: serial.go:54
        refine W.seqR fun Q50 hQ50 => ?_
        refine WL.q (Y.lss (.pl rfl) (.pl rfl)) rfl ?_
        refine WL.next hQ50 (.cons (i := 0) rfl (.cons (i := 4) rfl (.cons (i := 6) rfl (.cons (i := 97) rfl (.cons (i := 98) rfl (.cons (i := 99) rfl (.cons (i := 100) rfl (.nil)))))))) ?_
        refine W.seq fun K51 hK51 => ?_
        refine W.cond (.pl rfl) (fun hC52 => ?_) (fun hC52 => ?_)
        · replace hF48 := cpos hC52 hF48
          refine W.skip ?_
          refine W.go hK51 (.cons (i := 0) rfl (.cons (i := 4) rfl (.cons (i := 6) rfl (.cons (i := 97) rfl (.cons (i := 98) rfl (.cons (i := 99) rfl (.nil))))))) ?_
          refine W.seq fun K53 hK53 => ?_
          refine W.block ?_
          -- region 23: serial.go:54
          refine W.seqR fun Q54 hQ54 => ?_
          refine WL.q (Y.move (.pl rfl)) rfl ?_
          obtain ⟨x46, hx46, hF48⟩ := bnd hF48
          refine WL.q (Y.slEl Try.underlying40 cells46 hs4 (.pl rfl) (.pl rfl) (ix_lt (hx46))) rfl ?_
          refine WL.q (Y.loadSA (enc := encDeed) (ds := (encDeed x46)) (j := 0) Try.underlying46 rfl cells46 hs4 (.pl rfl) (hx46) rfl rfl subW) rfl ?_
          refine WL.step (WO.alloc (cs := (encDeed (Deed.mk 0 0 0)).toArray) zero46 rfl rfl fun b47 => ?_)
          refine WL.q (Y.assign (.pl rfl)) rfl ?_
          refine WL.step (WO.storeBA (ds := (encDeed x46)) (cs' := (encDeed x46)) cells46 (.pl rfl) (.pl rfl) rfl (oneDeed _) (i := 0) rfl (lel (o := 0) (l := 3) (m := 3) (by decide) rfl rfl) (putW rfl) ?_)
          refine WL.next hQ54 (.cons (i := 0) rfl (.cons (i := 4) rfl (.cons (i := 6) rfl (.cons (i := 17) rfl (.cons (i := 18) rfl (.cons (i := 97) rfl (.cons (i := 98) rfl (.cons (i := 99) rfl (.nil))))))))) ?_
          obtain ⟨o55, hF55, hF48⟩ := bnd hF48
          refine W.join1 (Em := fun (v48 : Bool) => [(114, .bool v48)]) (M := fun v48 => []) (I := fun v48 => v48 = o55) (.cons (i := 0) rfl (.cons (i := 4) rfl (.cons (i := 6) rfl (.cons (i := 97) rfl (.cons (i := 98) rfl (.cons (i := 99) rfl (.nil))))))) (fun K56 hK56 => ?_) ?_
          · -- up to
            -- region 24: serial.go:55
            refine W.reg ?_
            refine WL.q (Y.fieldAddr0 (off := 1) (ft := 3) Try.underlying46 rfl cells3 (.pl rfl)) rfl ?_
            refine WL.q (Y.loadB (v := .int .i64 x46.kind) Try.underlying3 rfl (.pl rfl) (i := 0) rfl (rfl)) rfl ?_
            refine WL.q (Y.eql (.pl rfl) (.pl rfl)) rfl ?_
            refine WL.q (Y.move (.pl rfl)) rfl ?_
            refine WL.g (.pl rfl rfl rfl) (fun hg => Y.move (.pl rfl)) rfl ?_
            refine WL.g (.pl rfl rfl rfl) (fun hg => Y.move (.pl rfl)) rfl ?_
            obtain ⟨hk49, hF55⟩ := ckh hF55
            refine WL.g (.pl rfl rfl rfl) (fun hg => Y.slice0 (xs := l1) Try.underlying40 cells46 (.gd (hg) rfl) rfl (hs4).cap_le (.gd (hg) rfl) (gor hg hk49)) rfl ?_
            refine WL.g (.pl rfl rfl rfl) (fun hg => Y.fnC (.cons (.pl rfl) (.nil))) rfl ?_
            refine bsplit ((decide (x46.kind = 1)) == true) (fun hg57 => ?_) (fun hg57 => ?_)
            · replace hF55 := cpos hg57 hF55
              refine WL.gd (.pl rfl rfl rfl) (hg57) ?_
              obtain ⟨r50, hr50, hF55⟩ := bnd hF55
              refine WL.step (WO.call (γ := Unit) (fun g => .bool r50) (fun g => [cBx b47 46 (encDeed x46)]) (fun g => True) isGo21 (.cons (.gd (hg57) rfl) (.cons (.gd (hg57) rfl) (.nil))) rfl (fun wz hw => slices_ContainsFunc_api_Deed_api_Deed_ok (T := []) (hr50) (hw.pick [0] rfl) (SlIn.sub0 hs4 (slB_nat0 (gor hg57 hk49)))) ?_)
              rintro _ -
              refine WL.gd (.pl rfl rfl rfl) (hg57) ?_
              refine WL.q (Y.not (.pl rfl)) rfl ?_
              refine WL.q (Y.and (.pl rfl) (fun _ => .pl rfl)) rfl ?_
              refine WL.nil ?_
              exact W.joinAt1 hK56 ((decide (x46.kind = 1)) && (!r50)) (Option.some.inj hF55) (.cons rfl (.nil)) (.cons (i := 0) rfl (.cons (i := 4) rfl (.cons (i := 6) rfl (.cons (i := 97) rfl (.cons (i := 98) rfl (.cons (i := 99) rfl (.nil))))))) (fun wz hw => hw.pick [] rfl)
            · replace hF55 := cneg hg57 hF55
              refine WL.gn (.pl rfl rfl rfl) hg57 rfl ?_
              refine WL.gn (.pl rfl rfl rfl) hg57 rfl ?_
              refine WL.q (Y.and (b := false) (.pl rfl) (fun h2 => (gabsA hg57 h2).elim)) rfl ?_
              refine WL.nil ?_
              exact W.joinAt1 hK56 ((decide (x46.kind = 1)) && false) (Option.some.inj hF55) (.cons rfl (.nil)) (.cons (i := 0) rfl (.cons (i := 4) rfl (.cons (i := 6) rfl (.cons (i := 97) rfl (.cons (i := 98) rfl (.cons (i := 99) rfl (.nil))))))) (fun wz hw => hw.pick [] rfl)
          · -- behind
            rintro v48 rfl
            refine W.cond (.pl rfl) (fun hC58 => ?_) (fun hC58 => ?_)
            · replace hF48 := cpos hC58 hF48
              -- region 25: serial.go:56
              refine W.seqR fun Q59 hQ59 => ?_
              refine WL.q (Y.assign (.pl rfl)) rfl ?_
              refine WL.next hQ59 (.cons (i := 2) rfl (.nil)) ?_
              obtain rfl := Option.some.inj hF48
              obtain rfl := einr hN48
              obtain rfl := Option.some.inj hF
              refine W.retV (fn := Try.f5) (vs := [.bool true]) Try.results5 ⟨.tmp rfl, trivial⟩ (fun _ _ h => h) (fun wz hw => ?_)
              exact hR _ _ ⟨rfl, (hw.pick [] rfl)⟩
            · replace hF48 := cneg hC58 hF48
              refine W.skip ?_
              refine W.go hK53 (.cons (i := 0) rfl (.cons (i := 4) rfl (.cons (i := 6) rfl (.cons (i := 97) rfl (.cons (i := 98) rfl (.cons (i := 99) rfl (.nil))))))) ?_
              -- region 26: serial.go:54
              refine W.reg ?_
              obtain ⟨hk51, hF48⟩ := ckh hF48
              refine WL.q (Y.add (.pl rfl) (.pl rfl) (ok64_lt (hk51))) rfl ?_
              refine WL.q (Y.move (.pl rfl)) rfl ?_
              refine WL.nil ?_
              obtain rfl := Option.some.inj hF48
              exact W.again1 hK49 (v45 + 1) k48 hN48 (Nat.lt_succ_self _) (.cons rfl (.nil)) (.cons (i := 0) rfl (.cons (i := 4) rfl (.cons (i := 6) rfl (.cons (i := 97) rfl (.cons (i := 98) rfl (.nil)))))) (fun wz hw => hw.pick [] rfl)
        · replace hF48 := cneg hC52 hF48
          refine W.exit ?_
          obtain rfl := Option.some.inj hF48
          exact W.joinAt0 hK46  (einr hN48) (.nil) (.cons (i := 4) rfl (.cons (i := 6) rfl (.nil))) (fun wz hw => hw.pick [] rfl)
      · -- behind
        rintro  rfl
        -- region 27: serial.go:59
        refine W.seqR fun Q61 hQ61 => ?_
        refine WL.q (Y.move (.pl rfl)) rfl ?_
        refine WL.q (Y.move (.pl rfl)) rfl ?_
        refine WL.q (Y.eql (.pl rfl) (.pl rfl)) rfl ?_
        refine WL.q (Y.eqlB Try.underlying4 (.pl rfl) (.pl rfl)) rfl ?_
        refine WL.q (Y.assign (.pl rfl)) rfl ?_
        refine WL.next hQ61 (.cons (i := 2) rfl (.nil)) ?_
        obtain rfl := Option.some.inj hF
        refine W.retV (fn := Try.f5) (vs := [.bool (r9.2.1 == (decide (r6.2 = 0)))]) Try.results5 ⟨.tmp rfl, trivial⟩ (fun _ _ h => h) (fun wz hw => ?_)
        exact hR _ _ ⟨rfl, (hw.pick [] rfl)⟩

end Go.Proofs.Ytkmmagekepoapaa
