/- Text: what Read computes, and the walks. -/
import Derived.Test.YtjdkkabcenohcaaDoorT1
set_option linter.unusedVariables false
set_option linter.unusedSimpArgs false
set_option linter.unusedSectionVars false
set_option maxRecDepth 100000
namespace Go.Proofs.YtjdkkabcenohcaaDoor
open Go.RowKit
theorem isGo13 : IsGo Tryd.prog 13 := ⟨_, Tryd.func13, by kernel_rfl, rfl⟩
theorem isGo22 : IsGo Tryd.prog 22 := ⟨_, Tryd.func22, by kernel_rfl, rfl⟩
theorem isGo23 : IsGo Tryd.prog 23 := ⟨_, Tryd.func23, by kernel_rfl, rfl⟩
theorem isGo36 : IsGo Tryd.prog 36 := ⟨_, Tryd.func36, by kernel_rfl, rfl⟩
theorem isGo37 : IsGo Tryd.prog 37 := ⟨_, Tryd.func37, by kernel_rfl, rfl⟩
theorem isGo48 : IsGo Tryd.prog 48 := ⟨_, Tryd.func48, by kernel_rfl, rfl⟩
theorem bz3 : ∃ i, Tryd.prog.info? 3 = some i ∧ i.zero = some (Value.int .i64 0) ∧ i.size = 1 := ⟨_, rfl, by kernel_rfl, by kernel_rfl⟩
theorem bz32 : ∃ i, Tryd.prog.info? 32 = some i ∧ i.zero = some (Value.agg #[(Value.int .i64 0), (Value.int .i64 0), (Value.int .i64 0), (Value.int .i64 0)]) ∧ i.size = 4 := ⟨_, rfl, by kernel_rfl, by kernel_rfl⟩
theorem ap3 : ∃ i z, Tryd.prog.info? 3 = some i ∧ i.zero = some z ∧ i.size = 1 ∧ i.bytes = 8 ∧ z.cells.size = 1 ∧ 0 < 1 := ⟨_, (Value.int .i64 0), rfl, by kernel_rfl, by kernel_rfl, by kernel_rfl, by kernel_rfl, by decide⟩
theorem ap32 : ∃ i z, Tryd.prog.info? 32 = some i ∧ i.zero = some z ∧ i.size = 4 ∧ i.bytes = 32 ∧ z.cells.size = 4 ∧ 0 < 4 := ⟨_, (Value.agg #[(Value.int .i64 0), (Value.int .i64 0), (Value.int .i64 0), (Value.int .i64 0)]), rfl, by kernel_rfl, by kernel_rfl, by kernel_rfl, by kernel_rfl, by decide⟩
theorem shape32 : Shape Tryd.prog 32 [(0, 1), (1, 1), (2, 1), (3, 1)] #[(Value.int .i64 0), (Value.int .i64 0), (Value.int .i64 0), (Value.int .i64 0)] := ⟨_, _, Value.agg #[(Value.int .i64 0), (Value.int .i64 0), (Value.int .i64 0), (Value.int .i64 0)], Tryd.underlying32, rfl, by kernel_rfl, rfl, by kernel_rfl, by decide⟩
theorem lay_LaysM_n146 : LaysM.n146 Tryd.prog shren where
  mixed := by kernel_rfl
  f138 := Tryd.func11.trans (congrArg some (by kernel_rfl))
  f143 := Tryd.func28.trans (congrArg some (by kernel_rfl))
  f146 := Tryd.func13.trans (congrArg some (by kernel_rfl))
  f195 := Tryd.func26.trans (congrArg some (by kernel_rfl))
  f197 := Tryd.func53.trans (congrArg some (by kernel_rfl))
  f217 := Tryd.func49.trans (congrArg some (by kernel_rfl))
  f218 := Tryd.func27.trans (congrArg some (by kernel_rfl))
  f219 := Tryd.func38.trans (congrArg some (by kernel_rfl))
  f221 := Tryd.func30.trans (congrArg some (by kernel_rfl))
  f224 := Tryd.func51.trans (congrArg some (by kernel_rfl))
  f225 := Tryd.func50.trans (congrArg some (by kernel_rfl))
  f260 := Tryd.func65.trans (congrArg some (by kernel_rfl))
  f266 := Tryd.func63.trans (congrArg some (by kernel_rfl))
  f267 := Tryd.func52.trans (congrArg some (by kernel_rfl))
  f268 := Tryd.func39.trans (congrArg some (by kernel_rfl))
  f314 := Tryd.func64.trans (congrArg some (by kernel_rfl))
  t0 := Tryd.underlying0
  a0 := Tryd.isAgg0
  z0 := Tryd.sizeOf0
  v0 := Tryd.zeroValue0
  t3 := Tryd.underlying3
  a3 := Tryd.isAgg3
  z3 := Tryd.sizeOf3
  v3 := Tryd.zeroValue3
  t4 := Tryd.underlying4
  a4 := Tryd.isAgg4
  z4 := Tryd.sizeOf4
  v4 := Tryd.zeroValue4
  t5 := Tryd.underlying5
  a5 := Tryd.isAgg5
  z5 := Tryd.sizeOf5
  v5 := Tryd.zeroValue5
  t9 := Tryd.underlying9
  a9 := Tryd.isAgg9
  z9 := Tryd.sizeOf9
  v9 := Tryd.zeroValue9
  t21 := Tryd.underlying21
  a21 := Tryd.isAgg21
  z21 := Tryd.sizeOf21
  v21 := Tryd.zeroValue21
  t31 := Tryd.underlying38
  a31 := Tryd.isAgg38
  z31 := Tryd.sizeOf38
  v31 := Tryd.zeroValue38
  t46 := Tryd.underlying87
  a46 := Tryd.isAgg87
  z46 := Tryd.sizeOf87
  v46 := Tryd.zeroValue87
  t51 := Tryd.underlying99
  a51 := Tryd.isAgg99
  z51 := Tryd.sizeOf99
  v51 := Tryd.zeroValue99
  t105 := Tryd.underlying88
  a105 := Tryd.isAgg88
  z105 := Tryd.sizeOf88
  v105 := Tryd.zeroValue88
  t119 := Tryd.underlying112
  a119 := Tryd.isAgg112
  z119 := Tryd.sizeOf112
  t138 := Tryd.underlying114
  a138 := Tryd.isAgg114
  z138 := Tryd.sizeOf114
  v138 := Tryd.zeroValue114
  t139 := Tryd.underlying115
  a139 := Tryd.isAgg115
  z139 := Tryd.sizeOf115
  v139 := Tryd.zeroValue115
  t146 := Tryd.underlying100
  a146 := Tryd.isAgg100
  z146 := Tryd.sizeOf100
  v146 := Tryd.zeroValue100
  g1 := by kernel_rfl
  g3 := by kernel_rfl
  g4 := by kernel_rfl
  i0 := by kernel_rfl
  i3 := by kernel_rfl
  i4 := by kernel_rfl
  i5 := by kernel_rfl
  i9 := by kernel_rfl
  i21 := by kernel_rfl
  i31 := by kernel_rfl
  i46 := by kernel_rfl
  i51 := by kernel_rfl
  i105 := by kernel_rfl
  i138 := by kernel_rfl
  i139 := by kernel_rfl
  i146 := by kernel_rfl
  m1 := by kernel_rfl
  s1_3 := fun w h => Go.Proofs.cell_of_shapedOpen_int (zero := #[.int .i64 0]) (t := 3) h (of_decide_eq_true (by kernel_rfl)) (by kernel_rfl) rfl (by kernel_rfl) (by kernel_rfl) Tryd.underlying3
  m3 := by kernel_rfl
  m4 := by kernel_rfl

theorem strings_Split_ok {N : Nat} {sI1 pI2 : ByteArray} {res : List ByteArray} (hF : splitO N sI1 pI2 = some res) (w : World) (hG : GOkS w) : Made Tryd.prog 13 [.string sI1, .string pI2] w (fun g : (Option Addr × Nat) => .slice g.1 (res).length g.2) (fun g => [cR eS 1 g.1 g.2 9 res]) (fun g => True) := split_made lay_LaysM_n146 hF w hG

def slices_Index_string_string_L3 (N : Nat) (s1 : (List ByteArray)) (v6 : ByteArray) : Int → Option (Int ⊕ (Unit ⊕ Int))
  | v7 =>
    cond (decide (v7 < ((s1).length : Int)))
      (bd (ix s1 v7) fun (x8 : ByteArray) =>
      cond (decide (v6 = x8))
        (some (.inr (.inr v7)))
        (ck (ok64 (v7 + 1)) <|
        some (.inl (v7 + 1))))
      (some (.inr (.inl ())))

def slices_Index_string_string (N : Nat) (s1 : (List ByteArray)) (v6 : ByteArray) : Option Int :=
  bd (α := (Unit ⊕ Int)) (iter (slices_Index_string_string_L3 N s1 v6) N 0) <|
  Sum.elim (fun _ => 
    some (-1)) (fun p => some p)

theorem slices_Index_string_string_ok {N : Nat} {s1 : (List ByteArray)} {v6 : ByteArray} {res : Int} (hF : slices_Index_string_string N s1 v6 = some res) (w : World) {v5 : Value} (hs4 : SlIn eS 1 w v5 s1) :
    Pure Tryd.prog 36 [v5, .string v6] w (.int .i64 res) := by
  obtain ⟨A2, c3, rfl, hcc3, hs4⟩ := hs4.form
  refine W.enter (n := 19) Tryd.func36 rfl rfl Sub.refl (by simp) (St.start w) fun R hR => ?_
  unfold slices_Index_string_string at hF
  refine W.seqR fun Q1 hQ1 => ?_
  refine WL.q (Y.assign (.pl rfl)) rfl ?_
  refine WL.next hQ1 (.cons (i := 0) rfl (.cons (i := 1) rfl (.nil))) ?_
  obtain ⟨o2, hF2, hF⟩ := bnd hF
  refine W.join0 (Em := []) (M := []) (I := (.inl ()) = o2) (.nil) (fun K3 hK3 => ?_) ?_
  · -- up to
    refine W.seqR fun Q4 hQ4 => ?_
    refine WL.q (Y.move (.pl rfl)) rfl ?_
    refine WL.q (Y.len Tryd.underlying38 (.pl rfl)) rfl ?_
    refine WL.q (Y.move (.pl rfl)) rfl ?_
    refine WL.next hQ4 (.cons (i := 0) rfl (.cons (i := 1) rfl (.cons (i := 7) rfl (.cons (i := 8) rfl (.nil))))) ?_
    refine W.block ?_
    refine W.loop1 (Em := fun (v7 : Int) => [(8, .int .i64 v7)]) (M := fun v7 => []) (I := fun v7 k5 => iter (slices_Index_string_string_L3 N s1 v6) k5 v7 = some o2) 0 N (hF2) (.cons rfl (.nil)) (.cons (i := 0) rfl (.cons (i := 1) rfl (.cons (i := 7) rfl (.nil)))) (fun wz hw => hw.pick [] rfl) (fun v7 k5 hI K6 hK6 => ?_)
    obtain ⟨k5, t5, rfl, hF5, hN5⟩ := iter_step hI
    refine W.seqR fun Q7 hQ7 => ?_
    refine WL.q (Y.lss (.pl rfl) (.pl rfl)) rfl ?_
    refine WL.next hQ7 (.cons (i := 0) rfl (.cons (i := 1) rfl (.cons (i := 7) rfl (.cons (i := 8) rfl (.cons (i := 9) rfl (.nil)))))) ?_
    refine W.seq fun K8 hK8 => ?_
    refine W.cond (.pl rfl) (fun hC9 => ?_) (fun hC9 => ?_)
    · replace hF5 := cpos hC9 hF5
      refine W.skip ?_
      refine W.go hK8 (.cons (i := 0) rfl (.cons (i := 1) rfl (.cons (i := 7) rfl (.cons (i := 8) rfl (.nil))))) ?_
      refine W.seq fun K10 hK10 => ?_
      refine W.block ?_
      refine W.seqR fun Q11 hQ11 => ?_
      refine WL.q (Y.move (.pl rfl)) rfl ?_
      refine WL.q (Y.assign (.pl rfl)) rfl ?_
      refine WL.next hQ11 (.cons (i := 0) rfl (.cons (i := 1) rfl (.cons (i := 5) rfl (.cons (i := 7) rfl (.cons (i := 8) rfl (.nil)))))) ?_
      refine W.seqR fun Q12 hQ12 => ?_
      refine WL.q (Y.move (.pl rfl)) rfl ?_
      refine WL.q (Y.move (.pl rfl)) rfl ?_
      refine WL.q (Y.move (.pl rfl)) rfl ?_
      obtain ⟨x8, hx8, hF5⟩ := bnd hF5
      refine WL.q (Y.slEl Tryd.underlying38 cells9 hs4 (.pl rfl) (.pl rfl) (ix_lt (hx8))) rfl ?_
      refine WL.q (Y.loadS (enc := eS) (v := .string x8) (j := 0) Tryd.underlying9 rfl hs4 (.pl rfl) (hx8) rfl rfl) rfl ?_
      refine WL.q (Y.eqlT Tryd.underlying9 (.pl rfl) (.pl rfl)) rfl ?_
      refine WL.next hQ12 (.cons (i := 0) rfl (.cons (i := 1) rfl (.cons (i := 5) rfl (.cons (i := 7) rfl (.cons (i := 8) rfl (.cons (i := 16) rfl (.nil))))))) ?_
      refine W.cond (.pl rfl) (fun hC13 => ?_) (fun hC13 => ?_)
      · replace hF5 := cpos hC13 hF5
        refine W.seqR fun Q14 hQ14 => ?_
        refine WL.q (Y.move (.pl rfl)) rfl ?_
        refine WL.q (Y.assign (.pl rfl)) rfl ?_
        refine WL.next hQ14 (.cons (i := 4) rfl (.nil)) ?_
        obtain rfl := Option.some.inj hF5
        obtain rfl := einr hN5
        obtain rfl := Option.some.inj hF
        refine W.retV (fn := Tryd.f36) (vs := [.int .i64 v7]) Tryd.results36 ⟨.tmp rfl, trivial⟩ (fun _ _ h => h) (fun wz hw => ?_)
        exact hR _ _ ⟨rfl, (hw.pick [] rfl)⟩
      · replace hF5 := cneg hC13 hF5
        refine W.skip ?_
        refine W.go hK10 (.cons (i := 0) rfl (.cons (i := 1) rfl (.cons (i := 7) rfl (.cons (i := 8) rfl (.nil))))) ?_
        refine W.reg ?_
        obtain ⟨hk9, hF5⟩ := ckh hF5
        refine WL.q (Y.add (.pl rfl) (.pl rfl) (ok64_lt (hk9))) rfl ?_
        refine WL.q (Y.move (.pl rfl)) rfl ?_
        refine WL.nil ?_
        obtain rfl := Option.some.inj hF5
        exact W.again1 hK6 (v7 + 1) k5 hN5 (Nat.lt_succ_self _) (.cons rfl (.nil)) (.cons (i := 0) rfl (.cons (i := 1) rfl (.cons (i := 7) rfl (.nil)))) (fun wz hw => hw.pick [] rfl)
    · replace hF5 := cneg hC9 hF5
      refine W.exit ?_
      obtain rfl := Option.some.inj hF5
      exact W.joinAt0 hK3  (einr hN5) (.nil) (.nil) (fun wz hw => hw.pick [] rfl)
  · -- behind
    rintro  rfl
    refine W.seqR fun Q16 hQ16 => ?_
    refine WL.q (Y.assign (.pl rfl)) rfl ?_
    refine WL.next hQ16 (.cons (i := 4) rfl (.nil)) ?_
    obtain rfl := Option.some.inj hF
    refine W.retV (fn := Tryd.f36) (vs := [.int .i64 (-1)]) Tryd.results36 ⟨.tmp rfl, trivial⟩ (fun _ _ h => h) (fun wz hw => ?_)
    exact hR _ _ ⟨rfl, (hw.pick [] rfl)⟩

def text_things_L3 (N : Nat) (r2 : (List ByteArray)) : ((List Int) × Int) → Option (((List Int) × Int) ⊕ ((List Int) ⊕ ((List Int) × Bool)))
  | (out12, v13) =>
    cond (decide (v13 < (((r2.drop (1 : Int).toNat)).length : Int)))
      (bd (ix (r2.drop (1 : Int).toNat) v13) fun (x14 : ByteArray) =>
      bd (text_typeWords N) fun (r15 : Unit) =>
      bd (slices_Index_string_string N ([(⟨#[]⟩ : ByteArray), (⟨#[114, 101, 103]⟩ : ByteArray), (⟨#[113, 117, 101, 117, 101]⟩ : ByteArray), (⟨#[115, 116, 97, 99, 107]⟩ : ByteArray), (⟨#[115, 101, 116]⟩ : ByteArray), (⟨#[116, 105, 99, 107, 101, 116]⟩ : ByteArray)] : List ByteArray) x14) fun (r17 : Int) =>
      cond (decide (r17 < 1))
        (some (.inr (.inr ([], false))))
        (ck (limB 8 ((out12).length + (([r17] : List Int)).length)) <|
        ck (ok64 (v13 + 1)) <|
        some (.inl ((out12 ++ ([r17] : List Int)), (v13 + 1)))))
      (some (.inr (.inl out12)))

def text_things (N : Nat) (line1 : ByteArray) : Option ((List Int) × Bool) :=
  bd (splitO N line1 (⟨#[32]⟩ : ByteArray)) fun (r2 : (List ByteArray)) =>
  bd (ix r2 0) fun (x5 : ByteArray) =>
  cond (((!(decide (x5 = (⟨#[116, 104, 105, 110, 103, 115]⟩ : ByteArray)))) || (decide (((r2).length : Int) < 2))) || (decide (5 < ((r2).length : Int))))
    (some ([], false))
    (bd (α := ((List Int) ⊕ ((List Int) × Bool))) (ck (slB (r2).length 1 ((r2).length : Int)) <|
      iter (text_things_L3 N r2) N ([], 0)) <|
    Sum.elim (fun (out8 : (List Int)) => 
      some (out8, true)) (fun p => some p))

theorem text_things_ok {N : Nat} {line1 : ByteArray} {res : ((List Int) × Bool)} (hF : text_things N line1 = some res) (w : World) (hG : GOkS w) :
    Made Tryd.prog 22 [.string line1] w (fun g : (Option Addr × Nat) => .tuple #[.slice g.1 (res.1).length g.2, .bool res.2]) (fun g => [cR (eI .i64) 1 g.1 g.2 3 res.1]) (fun g => True) := by
  refine W.enter (n := 43) Tryd.func22 rfl rfl Sub.refl (by simp) (St.start w) fun R hR => ?_
  unfold text_things at hF
  refine W.seqR fun Q1 hQ1 => ?_
  refine WL.q (Y.assign (.pl rfl)) rfl ?_
  refine WL.q (Y.assign (.pl rfl)) rfl ?_
  refine WL.next hQ1 (.cons (i := 0) rfl (.nil)) ?_
  refine W.seqR fun Q2 hQ2 => ?_
  refine WL.q (Y.move (.pl rfl)) rfl ?_
  obtain ⟨r2, hr2, hF⟩ := bnd hF
  refine WL.step (WO.callM isGo13 (.cons (.pl rfl) (.cons (.pl rfl) (.nil))) rfl (fun wz hw => strings_Split_ok (hr2) wz (hG.mono hw)) ?_)
  rintro ⟨AI3, cI4⟩ -
  refine WL.q (Y.assign (.pl rfl)) rfl ?_
  refine WL.next hQ2 (.cons (i := 4) rfl (.nil)) ?_
  refine W.seq fun K3 hK3 => ?_
  refine W.seqR fun Q4 hQ4 => ?_
  refine WL.q (Y.move (.pl rfl)) rfl ?_
  obtain ⟨x5, hx5, hF⟩ := bnd hF
  refine WL.q (Y.rowEl Tryd.underlying38 cells9 (i := 0) rfl (.pl rfl) rfl (.pl rfl) (ix_lt (hx5))) rfl ?_
  refine WL.q (Y.loadR (enc := eS) (v := .string x5) (a := x5) (idx := 0) (j := 0) Tryd.underlying9 rfl (fun _ => rfl) (i := 0) rfl (.pl rfl) (ix_get (hx5)) rfl rfl) rfl ?_
  refine WL.q (Y.neqT Tryd.underlying9 (.pl rfl) (.pl rfl)) rfl ?_
  refine WL.q (Y.move (.pl rfl)) rfl ?_
  refine WL.g (.pl rfl rfl rfl) (fun hg => Y.move (.pl rfl)) rfl ?_
  refine WL.g (.pl rfl rfl rfl) (fun hg => Y.len Tryd.underlying38 (.gd (hg) rfl)) rfl ?_
  refine WL.g (.pl rfl rfl rfl) (fun hg => Y.lss (.gd (hg) rfl) (.pl rfl)) rfl ?_
  refine WL.q (Y.or (.pl rfl) (fun h2 => .gd (eqf h2) rfl)) rfl ?_
  refine WL.q (Y.move (.pl rfl)) rfl ?_
  refine WL.g (.pl rfl rfl rfl) (fun hg => Y.move (.pl rfl)) rfl ?_
  refine WL.g (.pl rfl rfl rfl) (fun hg => Y.len Tryd.underlying38 (.gd (hg) rfl)) rfl ?_
  refine WL.g (.pl rfl rfl rfl) (fun hg => Y.gtr (.gd (hg) rfl) (.pl rfl)) rfl ?_
  refine WL.q (Y.or (.pl rfl) (fun h2 => .gd (eqf h2) rfl)) rfl ?_
  refine WL.next hQ4 (.cons (i := 4) rfl (.cons (i := 24) rfl (.nil))) ?_
  refine W.cond (.pl rfl) (fun hC5 => ?_) (fun hC5 => ?_)
  · replace hF := cpos hC5 hF
    refine W.seqR fun Q6 hQ6 => ?_
    refine WL.q (Y.assign (.pl rfl)) rfl ?_
    refine WL.q (Y.assign (.pl rfl)) rfl ?_
    refine WL.next hQ6 (.cons (i := 2) rfl (.cons (i := 3) rfl (.nil))) ?_
    obtain rfl := Option.some.inj hF
    refine W.retV (fn := Tryd.f22) (vs := [.slice none 0 0, .bool false]) Tryd.results22 ⟨.tmp rfl, ⟨.tmp rfl, trivial⟩⟩ (fun _ _ h => h) (fun wz hw => ?_)
    exact hR _ _ ⟨(none, 0), trivial, rfl, ((St.nilR (hw.pick [] rfl) (eI .i64) 1 3).pick [0] rfl)⟩
  · replace hF := cneg hC5 hF
    refine W.skip ?_
    refine W.go hK3 (.cons (i := 4) rfl (.nil)) ?_
    refine W.seqR fun Q7 hQ7 => ?_
    refine WL.q (Y.assign (.pl rfl)) rfl ?_
    refine WL.next hQ7 (.cons (i := 4) rfl (.cons (i := 5) rfl (.nil))) ?_
    obtain ⟨o8, hF8, hF⟩ := bnd hF
    refine W.join3 (Em := fun (out8 : (List Int)) (A6 : Option Addr) (c7 : Nat) => [(5, .slice A6 (out8).length c7)]) (M := fun out8 A6 c7 => [cR (eI .i64) 1 A6 c7 3 out8]) (I := fun out8 A6 c7 => (.inl out8) = o8) (.nil) (fun K9 hK9 => ?_) ?_
    · -- up to
      refine W.seqR fun Q10 hQ10 => ?_
      refine WL.q (Y.move (.pl rfl)) rfl ?_
      obtain ⟨hk9, hF8⟩ := ckh hF8
      refine WL.q (Y.sliceR1 Tryd.underlying38 cells9 (i := 0) rfl (.pl rfl) rfl (.pl rfl) (hk9)) rfl ?_
      refine WL.q (Y.len Tryd.underlying38 (.pl rfl)) rfl ?_
      refine WL.q (Y.move (.pl rfl)) rfl ?_
      refine WL.next hQ10 (.cons (i := 5) rfl (.cons (i := 26) rfl (.cons (i := 27) rfl (.cons (i := 28) rfl (.nil))))) ?_
      refine W.block ?_
      refine W.loop4 (Em := fun (out12 : (List Int)) (v13 : Int) (A10 : Option Addr) (c11 : Nat) => [(5, .slice A10 (out12).length c11), (28, .int .i64 v13)]) (M := fun out12 v13 A10 c11 => [cR (eI .i64) 1 A10 c11 3 out12, cR eS 1 AI3 cI4 9 r2]) (I := fun out12 v13 A10 c11 k11 => iter (text_things_L3 N r2) k11 (out12, v13) = some o8) [] 0 none 0 N (hF8) (.cons rfl (.cons rfl (.nil))) (.cons (i := 26) rfl (.cons (i := 27) rfl (.nil))) (fun wz hw => (St.nilR (hw.pick [0] rfl) (eI .i64) 1 3).pick [0, 1] rfl) (fun out12 v13 A10 c11 k11 hI K12 hK12 => ?_)
      obtain ⟨k11, t11, rfl, hF11, hN11⟩ := iter_step hI
      refine W.seqR fun Q13 hQ13 => ?_
      refine WL.q (Y.lss (.pl rfl) (.pl rfl)) rfl ?_
      refine WL.next hQ13 (.cons (i := 5) rfl (.cons (i := 26) rfl (.cons (i := 27) rfl (.cons (i := 28) rfl (.cons (i := 29) rfl (.nil)))))) ?_
      refine W.seq fun K14 hK14 => ?_
      refine W.cond (.pl rfl) (fun hC15 => ?_) (fun hC15 => ?_)
      · replace hF11 := cpos hC15 hF11
        refine W.skip ?_
        refine W.go hK14 (.cons (i := 5) rfl (.cons (i := 26) rfl (.cons (i := 27) rfl (.cons (i := 28) rfl (.nil))))) ?_
        refine W.seq fun K16 hK16 => ?_
        refine W.block ?_
        refine W.seqR fun Q17 hQ17 => ?_
        obtain ⟨x14, hx14, hF11⟩ := bnd hF11
        refine WL.q (Y.viewEl (xs := r2) Tryd.underlying38 cells9 (i := 1) rfl (.pl rfl) (.pl rfl) (slB_le (hk9)).1 (ix_lt (hx14)) (ix_lt (ix_view1 (slB_le (hk9)).1 (hx14))).2) rfl ?_
        refine WL.q (Y.loadR (enc := eS) (v := .string x14) (a := x14) (idx := (1 + v13)) (j := 0) Tryd.underlying9 rfl (fun _ => rfl) (i := 1) rfl (.pl rfl) (ix_get (ix_view1 (slB_le (hk9)).1 (hx14))) rfl rfl) rfl ?_
        refine WL.q (Y.assign (.pl rfl)) rfl ?_
        refine WL.next hQ17 (.cons (i := 5) rfl (.cons (i := 7) rfl (.cons (i := 26) rfl (.cons (i := 27) rfl (.cons (i := 28) rfl (.nil)))))) ?_
        refine W.seqR fun Q18 hQ18 => ?_
        obtain ⟨r15, hr15, hF11⟩ := bnd hF11
        refine WL.step (WO.callM isGo17 (.nil) rfl (fun wz hw => text_typeWords_ok (hr15) wz ) ?_)
        rintro A16 -
        refine WL.q (Y.move (.pl rfl)) rfl ?_
        obtain ⟨r17, hr17, hF11⟩ := bnd hF11
        refine WL.step (WO.callP isGo36 (.cons (.pl rfl) (.cons (.pl rfl) (.nil))) rfl (fun wz hw => slices_Index_string_string_ok (hr17) wz (SlIn.ofRow (fun _ => rfl) hw (i := 0) rfl)) ?_)
        refine WL.q (Y.assign (.pl rfl)) rfl ?_
        refine WL.next hQ18 (.cons (i := 5) rfl (.cons (i := 8) rfl (.cons (i := 26) rfl (.cons (i := 27) rfl (.cons (i := 28) rfl (.nil)))))) ?_
        refine W.seq fun K19 hK19 => ?_
        refine W.seqR fun Q20 hQ20 => ?_
        refine WL.q (Y.move (.pl rfl)) rfl ?_
        refine WL.q (Y.lss (.pl rfl) (.pl rfl)) rfl ?_
        refine WL.next hQ20 (.cons (i := 5) rfl (.cons (i := 8) rfl (.cons (i := 26) rfl (.cons (i := 27) rfl (.cons (i := 28) rfl (.cons (i := 36) rfl (.nil))))))) ?_
        refine W.cond (.pl rfl) (fun hC21 => ?_) (fun hC21 => ?_)
        · replace hF11 := cpos hC21 hF11
          refine W.seqR fun Q22 hQ22 => ?_
          refine WL.q (Y.assign (.pl rfl)) rfl ?_
          refine WL.q (Y.assign (.pl rfl)) rfl ?_
          refine WL.next hQ22 (.cons (i := 2) rfl (.cons (i := 3) rfl (.nil))) ?_
          obtain rfl := Option.some.inj hF11
          obtain rfl := einr hN11
          obtain rfl := Option.some.inj hF
          refine W.retV (fn := Tryd.f22) (vs := [.slice none 0 0, .bool false]) Tryd.results22 ⟨.tmp rfl, ⟨.tmp rfl, trivial⟩⟩ (fun _ _ h => h) (fun wz hw => ?_)
          exact hR _ _ ⟨(none, 0), trivial, rfl, ((St.nilR (hw.pick [] rfl) (eI .i64) 1 3).pick [0] rfl)⟩
        · replace hF11 := cneg hC21 hF11
          refine W.skip ?_
          refine W.go hK19 (.cons (i := 5) rfl (.cons (i := 8) rfl (.cons (i := 26) rfl (.cons (i := 27) rfl (.cons (i := 28) rfl (.nil)))))) ?_
          refine W.reg ?_
          refine WL.q (Y.move (.pl rfl)) rfl ?_
          refine WL.q (Y.move (.pl rfl)) rfl ?_
          refine WL.step (WO.bsliceC (enc := (eI .i64)) (ys := ([r17] : List Int)) Tryd.underlying22 bz3 (.cons (.pl rfl) (.nil)) rfl (fun _ => rfl) rfl rfl (by decide) (by decide) rfl fun b18 => ?_)
          obtain ⟨hk21, hF11⟩ := ckh hF11
          refine WL.step (WO.appendC (enc := (eI .i64)) Tryd.underlying22 ap3 (fun _ => rfl) oneI (.pl rfl) rfl (.pl rfl) (i := 2) rfl (m2 := 0) rfl (hk21) rfl fun A19 c20 => ?_)
          refine WL.q (Y.assign (.pl rfl)) rfl ?_
          refine WL.nil ?_
          refine W.go hK16 (.cons (i := 5) rfl (.cons (i := 26) rfl (.cons (i := 27) rfl (.cons (i := 28) rfl (.nil))))) ?_
          refine W.reg ?_
          obtain ⟨hk22, hF11⟩ := ckh hF11
          refine WL.q (Y.add (.pl rfl) (.pl rfl) (ok64_lt (hk22))) rfl ?_
          refine WL.q (Y.move (.pl rfl)) rfl ?_
          refine WL.nil ?_
          obtain rfl := Option.some.inj hF11
          exact W.again4 hK12 (out12 ++ ([r17] : List Int)) (v13 + 1) A19 c20 k11 hN11 (Nat.lt_succ_self _) (.cons rfl (.cons rfl (.nil))) (.cons (i := 26) rfl (.cons (i := 27) rfl (.nil))) (fun wz hw => hw.pick [2, 3] rfl)
      · replace hF11 := cneg hC15 hF11
        refine W.exit ?_
        obtain rfl := Option.some.inj hF11
        exact W.joinAt3 hK9 out12 A10 c11 (einr hN11) (.cons rfl (.nil)) (.nil) (fun wz hw => hw.pick [0] rfl)
    · -- behind
      rintro out8 A6 c7 rfl
      refine W.seqR fun Q25 hQ25 => ?_
      refine WL.q (Y.move (.pl rfl)) rfl ?_
      refine WL.q (Y.assign (.pl rfl)) rfl ?_
      refine WL.q (Y.assign (.pl rfl)) rfl ?_
      refine WL.next hQ25 (.cons (i := 2) rfl (.cons (i := 3) rfl (.nil))) ?_
      obtain rfl := Option.some.inj hF
      refine W.retV (fn := Tryd.f22) (vs := [.slice A6 (out8).length c7, .bool true]) Tryd.results22 ⟨.tmp rfl, ⟨.tmp rfl, trivial⟩⟩ (fun _ _ h => h) (fun wz hw => ?_)
      exact hR _ _ ⟨(A6, c7), trivial, rfl, (hw.pick [0] rfl)⟩

theorem lay_LaysC_n172 : LaysC.n172 Tryd.prog shren where
  mixed := by kernel_rfl
  f129 := Tryd.func67.trans (congrArg some (by kernel_rfl))
  f171 := Tryd.func18.trans (congrArg some (by kernel_rfl))
  f172 := Tryd.func48.trans (congrArg some (by kernel_rfl))
  f205 := Tryd.func80.trans (congrArg some (by kernel_rfl))
  f243 := Tryd.func35.trans (congrArg some (by kernel_rfl))
  f244 := Tryd.func61.trans (congrArg some (by kernel_rfl))
  f245 := Tryd.func62.trans (congrArg some (by kernel_rfl))
  f246 := Tryd.func47.trans (congrArg some (by kernel_rfl))
  f247 := Tryd.func71.trans (congrArg some (by kernel_rfl))
  f279 := Tryd.func72.trans (congrArg some (by kernel_rfl))
  f280 := Tryd.func73.trans (congrArg some (by kernel_rfl))
  f281 := Tryd.func74.trans (congrArg some (by kernel_rfl))
  f282 := Tryd.func75.trans (congrArg some (by kernel_rfl))
  f283 := Tryd.func57.trans (congrArg some (by kernel_rfl))
  f284 := Tryd.func58.trans (congrArg some (by kernel_rfl))
  f285 := Tryd.func59.trans (congrArg some (by kernel_rfl))
  f286 := Tryd.func60.trans (congrArg some (by kernel_rfl))
  f287 := Tryd.func78.trans (congrArg some (by kernel_rfl))
  f316 := Tryd.func79.trans (congrArg some (by kernel_rfl))
  f317 := Tryd.func66.trans (congrArg some (by kernel_rfl))
  f318 := Tryd.func68.trans (congrArg some (by kernel_rfl))
  f319 := Tryd.func69.trans (congrArg some (by kernel_rfl))
  f320 := Tryd.func70.trans (congrArg some (by kernel_rfl))
  f321 := Tryd.func81.trans (congrArg some (by kernel_rfl))
  f322 := Tryd.func82.trans (congrArg some (by kernel_rfl))
  f337 := Tryd.func76.trans (congrArg some (by kernel_rfl))
  f338 := Tryd.func77.trans (congrArg some (by kernel_rfl))
  t0 := Tryd.underlying0
  a0 := Tryd.isAgg0
  z0 := Tryd.sizeOf0
  v0 := Tryd.zeroValue0
  t2 := Tryd.underlying2
  a2 := Tryd.isAgg2
  z2 := Tryd.sizeOf2
  v2 := Tryd.zeroValue2
  t3 := Tryd.underlying3
  a3 := Tryd.isAgg3
  z3 := Tryd.sizeOf3
  v3 := Tryd.zeroValue3
  t4 := Tryd.underlying4
  a4 := Tryd.isAgg4
  z4 := Tryd.sizeOf4
  v4 := Tryd.zeroValue4
  t5 := Tryd.underlying5
  a5 := Tryd.isAgg5
  z5 := Tryd.sizeOf5
  v5 := Tryd.zeroValue5
  t9 := Tryd.underlying9
  a9 := Tryd.isAgg9
  z9 := Tryd.sizeOf9
  v9 := Tryd.zeroValue9
  t20 := Tryd.underlying20
  a20 := Tryd.isAgg20
  z20 := Tryd.sizeOf20
  v20 := Tryd.zeroValue20
  t21 := Tryd.underlying21
  a21 := Tryd.isAgg21
  z21 := Tryd.sizeOf21
  v21 := Tryd.zeroValue21
  t37 := Tryd.underlying45
  a37 := Tryd.isAgg45
  z37 := Tryd.sizeOf45
  v37 := Tryd.zeroValue45
  t46 := Tryd.underlying87
  a46 := Tryd.isAgg87
  z46 := Tryd.sizeOf87
  v46 := Tryd.zeroValue87
  t51 := Tryd.underlying99
  a51 := Tryd.isAgg99
  z51 := Tryd.sizeOf99
  v51 := Tryd.zeroValue99
  t53 := Tryd.underlying93
  a53 := Tryd.isAgg93
  z53 := Tryd.sizeOf93
  v53 := Tryd.zeroValue93
  t75 := Tryd.underlying49
  a75 := Tryd.isAgg49
  z75 := Tryd.sizeOf49
  v75 := Tryd.zeroValue49
  t76 := Tryd.underlying50
  a76 := Tryd.isAgg50
  z76 := Tryd.sizeOf50
  v76 := Tryd.zeroValue50
  t85 := Tryd.underlying107
  a85 := Tryd.isAgg107
  z85 := Tryd.sizeOf107
  v85 := Tryd.zeroValue107
  t127 := Tryd.underlying72
  a127 := Tryd.isAgg72
  z127 := Tryd.sizeOf72
  v127 := Tryd.zeroValue72
  t143 := Tryd.underlying126
  a143 := Tryd.isAgg126
  z143 := Tryd.sizeOf126
  v143 := Tryd.zeroValue126
  t145 := Tryd.underlying128
  a145 := Tryd.isAgg128
  z145 := Tryd.sizeOf128
  v145 := Tryd.zeroValue128
  t167 := Tryd.underlying106
  a167 := Tryd.isAgg106
  z167 := Tryd.sizeOf106
  v167 := Tryd.zeroValue106
  t168 := Tryd.underlying109
  a168 := Tryd.isAgg109
  z168 := Tryd.sizeOf109
  v168 := Tryd.zeroValue109
  t171 := Tryd.underlying92
  a171 := Tryd.isAgg92
  z171 := Tryd.sizeOf92
  v171 := Tryd.zeroValue92
  t173 := Tryd.underlying96
  a173 := Tryd.isAgg96
  z173 := Tryd.sizeOf96
  v173 := Tryd.zeroValue96
  t175 := Tryd.underlying117
  a175 := Tryd.isAgg117
  z175 := Tryd.sizeOf117
  v175 := Tryd.zeroValue117
  t210 := Tryd.underlying121
  a210 := Tryd.isAgg121
  z210 := Tryd.sizeOf121
  v210 := Tryd.zeroValue121
  t212 := Tryd.underlying103
  a212 := Tryd.isAgg103
  z212 := Tryd.sizeOf103
  v212 := Tryd.zeroValue103
  t213 := Tryd.underlying104
  a213 := Tryd.isAgg104
  z213 := Tryd.sizeOf104
  t232 := Tryd.underlying123
  a232 := Tryd.isAgg123
  z232 := Tryd.sizeOf123
  v232 := Tryd.zeroValue123
  t233 := Tryd.underlying124
  a233 := Tryd.isAgg124
  z233 := Tryd.sizeOf124
  v233 := Tryd.zeroValue124
  g15 := by kernel_rfl
  g16 := by kernel_rfl
  g17 := by kernel_rfl
  g18 := by kernel_rfl
  g19 := by kernel_rfl
  t80 := Tryd.underlying55
  a80 := Tryd.isAgg55
  z80 := Tryd.sizeOf55
  v80 := Tryd.zeroValue55
  i0 := by kernel_rfl
  i2 := by kernel_rfl
  i3 := by kernel_rfl
  i4 := by kernel_rfl
  i5 := by kernel_rfl
  i9 := by kernel_rfl
  i20 := by kernel_rfl
  i21 := by kernel_rfl
  i37 := by kernel_rfl
  i46 := by kernel_rfl
  i51 := by kernel_rfl
  i53 := by kernel_rfl
  i75 := by kernel_rfl
  i76 := by kernel_rfl
  i80 := by kernel_rfl
  i85 := by kernel_rfl
  i127 := by kernel_rfl
  i143 := by kernel_rfl
  i145 := by kernel_rfl
  i167 := by kernel_rfl
  i168 := by kernel_rfl
  i171 := by kernel_rfl
  i173 := by kernel_rfl
  i175 := by kernel_rfl
  i210 := by kernel_rfl
  i212 := by kernel_rfl
  i232 := by kernel_rfl
  i233 := by kernel_rfl
  m15 := by kernel_rfl
  m16 := by kernel_rfl
  m17 := by kernel_rfl
  m18 := by kernel_rfl
  m19 := by kernel_rfl
  c0 := by kernel_rfl
  c2 := by kernel_rfl
  c3 := by kernel_rfl
  c4 := by kernel_rfl
  c5 := by kernel_rfl
  c9 := by kernel_rfl
  c20 := by kernel_rfl
  c21 := by kernel_rfl
  c37 := by kernel_rfl
  c46 := by kernel_rfl
  c51 := by kernel_rfl
  c53 := by kernel_rfl
  c75 := by kernel_rfl
  c76 := by kernel_rfl
  c80 := by kernel_rfl
  c85 := by kernel_rfl
  c127 := by kernel_rfl
  c143 := by kernel_rfl
  c145 := by kernel_rfl
  c167 := by kernel_rfl
  c168 := by kernel_rfl
  c171 := by kernel_rfl
  c173 := by kernel_rfl
  c175 := by kernel_rfl
  c210 := by kernel_rfl
  c212 := by kernel_rfl
  c213 := by kernel_rfl
  c232 := by kernel_rfl
  c233 := by kernel_rfl

theorem strconv_Atoi_ok {N : Nat} {sI1 : ByteArray} {res : Int × Bool} (hF : atoiO N sI1 = some res) (w : World) (hG : GOkS w) : Made Tryd.prog 48 [.string sI1] w (fun g : TypeId × Value => .tuple #[.int .i64 res.1, (errV res.2 g)]) (fun g => []) (fun g => True) := atoi_made lay_LaysC_n172 hF w hG

def text_number (N : Nat) (s1 : ByteArray) : Option (Int × Bool) :=
  bd (atoiO N s1) fun (r2 : (Int × Bool)) =>
  bd ((cond ((!r2.2) == true) (itoaO N r2.1) (some ⟨#[]⟩))) fun (r4 : ByteArray) =>
  some (r2.1, ((((!r2.2) && (decide (r4 = s1))) && (decide ((-1000000) ≤ r2.1))) && (decide (r2.1 ≤ 1000000))))

theorem text_number_ok {N : Nat} {s1 : ByteArray} {res : (Int × Bool)} (hF : text_number N s1 = some res) (w : World) (hG : GOkS w) :
    Pure Tryd.prog 37 [.string s1] w (.tuple #[.int .i64 res.1, .bool res.2]) := by
  refine W.enter (n := 28) Tryd.func37 rfl rfl Sub.refl (by simp) (St.start w) fun R hR => ?_
  unfold text_number at hF
  refine W.seqR fun Q1 hQ1 => ?_
  refine WL.q (Y.assign (.pl rfl)) rfl ?_
  refine WL.q (Y.assign (.pl rfl)) rfl ?_
  refine WL.next hQ1 (.cons (i := 0) rfl (.nil)) ?_
  refine W.seqR fun Q2 hQ2 => ?_
  refine WL.q (Y.move (.pl rfl)) rfl ?_
  obtain ⟨r2, hr2, hF⟩ := bnd hF
  refine WL.step (WO.callM isGo48 (.cons (.pl rfl) (.nil)) rfl (fun wz hw => strconv_Atoi_ok (hr2) wz (hG.mono hw)) ?_)
  rintro gI3 -
  refine WL.q (Y.move (.pl rfl)) rfl ?_
  refine WL.q (Y.extract (.pl rfl) rfl) rfl ?_
  refine WL.q (Y.extract (.pl rfl) rfl) rfl ?_
  refine WL.q (Y.assign (.pl rfl)) rfl ?_
  refine WL.q (Y.assign (.pl rfl)) rfl ?_
  refine WL.next hQ2 (.cons (i := 0) rfl (.cons (i := 4) rfl (.cons (i := 5) rfl (.nil)))) ?_
  refine W.seqR fun Q3 hQ3 => ?_
  refine WL.q (Y.move (.pl rfl)) rfl ?_
  refine WL.q (Y.move (.pl rfl)) rfl ?_
  refine WL.q (Y.eqNilE Tryd.underlying49 (.pl rfl)) rfl ?_
  refine WL.q (Y.move (.pl rfl)) rfl ?_
  refine WL.g (.pl rfl rfl rfl) (fun hg => Y.move (.pl rfl)) rfl ?_
  obtain ⟨r4, hr4, hF⟩ := bnd hF
  refine WL.gP (.pl rfl rfl rfl) isGo18 (fun hg => (.cons (.gd (hg) rfl) (.nil))) rfl (fun hg wz hw => strconv_Itoa_ok (gpos hg hr4) wz (hG.mono hw)) ?_
  refine WL.g (.pl rfl rfl rfl) (fun hg => Y.move (.pl rfl)) rfl ?_
  refine WL.g (.pl rfl rfl rfl) (fun hg => Y.eqlT Tryd.underlying9 (.gd (hg) rfl) (.gd (hg) rfl)) rfl ?_
  refine WL.q (Y.and (.pl rfl) (fun h2 => .gd (eqt h2) rfl)) rfl ?_
  refine WL.q (Y.move (.pl rfl)) rfl ?_
  refine WL.g (.pl rfl rfl rfl) (fun hg => Y.move (.pl rfl)) rfl ?_
  refine WL.g (.pl rfl rfl rfl) (fun hg => Y.geq (.gd (hg) rfl) (.pl rfl)) rfl ?_
  refine WL.q (Y.and (.pl rfl) (fun h2 => .gd (eqt h2) rfl)) rfl ?_
  refine WL.q (Y.move (.pl rfl)) rfl ?_
  refine WL.g (.pl rfl rfl rfl) (fun hg => Y.move (.pl rfl)) rfl ?_
  refine WL.g (.pl rfl rfl rfl) (fun hg => Y.leq (.gd (hg) rfl) (.pl rfl)) rfl ?_
  refine WL.q (Y.and (.pl rfl) (fun h2 => .gd (eqt h2) rfl)) rfl ?_
  refine WL.q (Y.assign (.pl rfl)) rfl ?_
  refine WL.q (Y.assign (.pl rfl)) rfl ?_
  refine WL.next hQ3 (.cons (i := 2) rfl (.cons (i := 3) rfl (.nil))) ?_
  obtain rfl := Option.some.inj hF
  refine W.retV (fn := Tryd.f37) (vs := [.int .i64 r2.1, .bool ((((!r2.2) && (decide (r4 = s1))) && (decide ((-1000000) ≤ r2.1))) && (decide (r2.1 ≤ 1000000)))]) Tryd.results37 ⟨.tmp rfl, ⟨.tmp rfl, trivial⟩⟩ (fun _ _ h => h) (fun wz hw => ?_)
  exact hR _ _ ⟨rfl, (hw.pick [] rfl)⟩

def text_event (N : Nat) (line1 : ByteArray) : Option (Int × Int × Int × Int × Bool) :=
  bd (splitO N line1 (⟨#[32]⟩ : ByteArray)) fun (r3 : (List ByteArray)) =>
  cond (decide (((r3).length : Int) < 3))
    (some (0, 0, 0, 0, false))
    (bd (ix r3 0) fun (x6 : ByteArray) =>
    bd (text_number N x6) fun (r7 : (Int × Bool)) =>
    bd (ix r3 1) fun (x8 : ByteArray) =>
    bd (text_number N x8) fun (r9 : (Int × Bool)) =>
    bd (α := Int) (bd (ix r3 2) fun (x12 : ByteArray) =>
      bd (text_kindWords N) fun (r13 : Unit) =>
      bd (slices_Index_string_string N ([(⟨#[101, 110, 100]⟩ : ByteArray), (⟨#[119, 114, 105, 116, 101]⟩ : ByteArray), (⟨#[114, 101, 97, 100]⟩ : ByteArray), (⟨#[101, 110, 113]⟩ : ByteArray), (⟨#[100, 101, 113]⟩ : ByteArray), (⟨#[112, 117, 115, 104]⟩ : ByteArray), (⟨#[112, 111, 112]⟩ : ByteArray), (⟨#[97, 100, 100]⟩ : ByteArray), (⟨#[114, 101, 109, 111, 118, 101]⟩ : ByteArray), (⟨#[104, 97, 115]⟩ : ByteArray), (⟨#[116, 97, 107, 101]⟩ : ByteArray)] : List ByteArray) x12) fun (r15 : Int) =>
      some r15) <|
    fun (Kind11 : Int) => 
      cond (((!r7.2) || (!r9.2)) || (decide (Kind11 < 0)))
        (some (0, 0, 0, 0, false))
        (bd (text_bare N Kind11) fun (r20 : Unit) =>
        cond ((((decide (Kind11 = 2)) || (decide (Kind11 = 4))) || (decide (Kind11 = 6))) || (decide (Kind11 = 10)))
          (some (r7.1, r9.1, Kind11, 0, (decide (((r3).length : Int) = 3))))
          (cond (!(decide (((r3).length : Int) = 4)))
            (some (0, 0, 0, 0, false))
            (bd (ix r3 3) fun (x21 : ByteArray) =>
            bd (text_number N x21) fun (r22 : (Int × Bool)) =>
            some (r7.1, r9.1, Kind11, r22.1, r22.2)))))

theorem text_event_ok {N : Nat} {line1 : ByteArray} {res : (Int × Int × Int × Int × Bool)} (hF : text_event N line1 = some res) (w : World) (hG : GOkS w) :
    Pure Tryd.prog 23 [.string line1] w (.tuple #[.agg (encEvent (Event.mk res.1 res.2.1 res.2.2.1 res.2.2.2.1)).toArray, .bool res.2.2.2.2]) := by
  refine W.enter (n := 71) Tryd.func23 rfl rfl Sub.refl (by simp) (St.start w) fun R hR => ?_
  unfold text_event at hF
  refine W.seqR fun Q1 hQ1 => ?_
  refine WL.step (WO.alloc (cs := (encEvent (Event.mk 0 0 0 0)).toArray) zero32 rfl rfl fun b2 => ?_)
  refine WL.q (Y.assign (.pl rfl)) rfl ?_
  refine WL.next hQ1 (.cons (i := 0) rfl (.cons (i := 2) rfl (.nil))) ?_
  refine W.seqR fun Q2 hQ2 => ?_
  refine WL.q (Y.move (.pl rfl)) rfl ?_
  obtain ⟨r3, hr3, hF⟩ := bnd hF
  refine WL.step (WO.callM isGo13 (.cons (.pl rfl) (.cons (.pl rfl) (.nil))) rfl (fun wz hw => strings_Split_ok (hr3) wz (hG.mono hw)) ?_)
  rintro ⟨AI4, cI5⟩ -
  refine WL.q (Y.assign (.pl rfl)) rfl ?_
  refine WL.next hQ2 (.cons (i := 2) rfl (.cons (i := 4) rfl (.nil))) ?_
  refine W.seq fun K3 hK3 => ?_
  refine W.seqR fun Q4 hQ4 => ?_
  refine WL.q (Y.move (.pl rfl)) rfl ?_
  refine WL.q (Y.len Tryd.underlying38 (.pl rfl)) rfl ?_
  refine WL.q (Y.lss (.pl rfl) (.pl rfl)) rfl ?_
  refine WL.next hQ4 (.cons (i := 2) rfl (.cons (i := 4) rfl (.cons (i := 14) rfl (.nil)))) ?_
  refine W.cond (.pl rfl) (fun hC5 => ?_) (fun hC5 => ?_)
  · replace hF := cpos hC5 hF
    refine W.seqR fun Q6 hQ6 => ?_
    refine WL.q (Y.build (cs := (encEvent (Event.mk 0 0 0 0)).toArray) shape32 (.nil) (one_parts trivial) rfl) rfl ?_
    refine WL.step (WO.storeBA (ds := (encEvent (Event.mk 0 0 0 0))) (cs' := (encEvent (Event.mk 0 0 0 0))) cells32 (.pl rfl) (.pl rfl) rfl (oneEvent _) (i := 1) rfl (lel (o := 0) (l := 4) (m := 4) (by decide) rfl rfl) (putW rfl) ?_)
    refine WL.q (Y.assign (.pl rfl)) rfl ?_
    refine WL.next hQ6 (.cons (i := 2) rfl (.cons (i := 3) rfl (.nil))) ?_
    obtain rfl := Option.some.inj hF
    refine W.retV (fn := Tryd.f23) (vs := [.agg (encEvent (Event.mk 0 0 0 0)).toArray, .bool false]) Tryd.results23 ⟨.cellA Tryd.underlying32 rfl cells32 rfl (i := 1) rfl rfl, ⟨.tmp rfl, trivial⟩⟩ (fun _ _ h => h) (fun wz hw => ?_)
    exact hR _ _ ⟨rfl, (hw.pick [] rfl)⟩
  · replace hF := cneg hC5 hF
    refine W.skip ?_
    refine W.go hK3 (.cons (i := 2) rfl (.cons (i := 4) rfl (.nil))) ?_
    refine W.seqR fun Q7 hQ7 => ?_
    refine WL.q (Y.move (.pl rfl)) rfl ?_
    obtain ⟨x6, hx6, hF⟩ := bnd hF
    refine WL.q (Y.rowEl Tryd.underlying38 cells9 (i := 0) rfl (.pl rfl) rfl (.pl rfl) (ix_lt (hx6))) rfl ?_
    refine WL.q (Y.loadR (enc := eS) (v := .string x6) (a := x6) (idx := 0) (j := 0) Tryd.underlying9 rfl (fun _ => rfl) (i := 0) rfl (.pl rfl) (ix_get (hx6)) rfl rfl) rfl ?_
    obtain ⟨r7, hr7, hF⟩ := bnd hF
    refine WL.step (WO.callP isGo37 (.cons (.pl rfl) (.nil)) rfl (fun wz hw => text_number_ok (hr7) wz (hG.mono hw)) ?_)
    refine WL.q (Y.move (.pl rfl)) rfl ?_
    refine WL.q (Y.extract (.pl rfl) rfl) rfl ?_
    refine WL.q (Y.extract (.pl rfl) rfl) rfl ?_
    refine WL.q (Y.assign (.pl rfl)) rfl ?_
    refine WL.q (Y.assign (.pl rfl)) rfl ?_
    refine WL.next hQ7 (.cons (i := 2) rfl (.cons (i := 4) rfl (.cons (i := 5) rfl (.cons (i := 6) rfl (.nil))))) ?_
    refine W.seqR fun Q8 hQ8 => ?_
    refine WL.q (Y.move (.pl rfl)) rfl ?_
    obtain ⟨x8, hx8, hF⟩ := bnd hF
    refine WL.q (Y.rowEl Tryd.underlying38 cells9 (i := 0) rfl (.pl rfl) rfl (.pl rfl) (ix_lt (hx8))) rfl ?_
    refine WL.q (Y.loadR (enc := eS) (v := .string x8) (a := x8) (idx := 1) (j := 0) Tryd.underlying9 rfl (fun _ => rfl) (i := 0) rfl (.pl rfl) (ix_get (hx8)) rfl rfl) rfl ?_
    obtain ⟨r9, hr9, hF⟩ := bnd hF
    refine WL.step (WO.callP isGo37 (.cons (.pl rfl) (.nil)) rfl (fun wz hw => text_number_ok (hr9) wz (hG.mono hw)) ?_)
    refine WL.q (Y.move (.pl rfl)) rfl ?_
    refine WL.q (Y.extract (.pl rfl) rfl) rfl ?_
    refine WL.q (Y.extract (.pl rfl) rfl) rfl ?_
    refine WL.q (Y.assign (.pl rfl)) rfl ?_
    refine WL.q (Y.assign (.pl rfl)) rfl ?_
    refine WL.next hQ8 (.cons (i := 2) rfl (.cons (i := 4) rfl (.cons (i := 5) rfl (.cons (i := 6) rfl (.cons (i := 7) rfl (.cons (i := 8) rfl (.nil))))))) ?_
    obtain ⟨o9, hF9, hF⟩ := bnd hF
    refine W.join2 (Em := fun (Kind11 : Int) (b10 : Nat) => [(9, .pointer (some ⟨b10, 0, none⟩))]) (M := fun Kind11 b10 => [cBx b2 32 (encEvent (Event.mk 0 0 0 0)), cR eS 1 AI4 cI5 9 r3, cBx b10 32 (encEvent (Event.mk r7.1 r9.1 Kind11 0))]) (I := fun Kind11 b10 => Kind11 = o9) (.cons (i := 2) rfl (.cons (i := 4) rfl (.cons (i := 6) rfl (.cons (i := 8) rfl (.nil))))) (fun K10 hK10 => ?_) ?_
    · -- up to
      refine W.regX 9 (by kernel_rfl) ?_
      refine WX.pure 0 #[true, false, false, false, false, false, false, false, false, false] rfl (by kernel_rfl) (fun _ _ => Y.move (.pl rfl)) rfl ?_
      refine WX.pure 1 #[true, true, false, false, false, false, false, false, false, false] rfl (by kernel_rfl) (fun _ _ => Y.move (.pl rfl)) rfl ?_
      refine WX.pure 3 #[true, true, false, true, false, false, false, false, false, false] rfl (by kernel_rfl) (fun _ _ => Y.move (.pl rfl)) rfl ?_
      obtain ⟨x12, hx12, hF9⟩ := bnd hF9
      refine WX.take 4 #[true, true, false, true, true, false, false, false, false, false] (fun wz hw => St.tail [] hw) rfl (by kernel_rfl) (Y.rowEl Tryd.underlying38 cells9 (i := 0) rfl (.pl rfl) rfl (.pl rfl) (ix_lt (hx12))) rfl ?_
      refine WX.take 5 #[true, true, false, true, true, true, false, false, false, false] (fun wz hw => St.tail [] hw) rfl (by kernel_rfl) (Y.loadR (enc := eS) (v := .string x12) (a := x12) (idx := 2) (j := 0) Tryd.underlying9 rfl (fun _ => rfl) (i := 0) rfl (.pl rfl) (ix_get (hx12)) rfl rfl) rfl ?_
      obtain ⟨r13, hr13, hF9⟩ := bnd hF9
      obtain ⟨r15, hr15, hF9⟩ := bnd hF9
      refine WX.branch [2, 8] (fun wz hw => St.tail [] hw) (by kernel_rfl) ⟨?_, ?_, trivial⟩
      · skip
        refine WXI.step #[true, true, true, true, true, true, false, false, false, false] rfl rfl (WO.callM isGo19 (.nil) rfl (fun wz hw => text_kindWords_ok (hr13) wz ) ?_)
        rintro A14 -
        refine WX.now (fun wz hw => St.tail [_] hw) ?_
        refine WX.branch [6, 8] (fun wz hw => St.tail [] hw) (by kernel_rfl) ⟨?_, ?_, trivial⟩
        · skip
          refine WXI.step #[true, true, true, true, true, true, true, false, false, false] rfl rfl (WO.callP isGo36 (.cons (.pl rfl) (.cons (.pl rfl) (.nil))) rfl (fun wz hw => slices_Index_string_string_ok (hr15) wz (SlIn.ofRow (fun _ => rfl) hw (i := 0) rfl)) ?_)
          refine WX.pure 7 #[true, true, true, true, true, true, true, true, false, false] rfl (by kernel_rfl) (fun _ _ => Y.build (cs := (encEvent (Event.mk r7.1 r9.1 r15 0)).toArray) shape32 (.cons (.pl rfl) (.cons (.pl rfl) (.cons (.pl rfl) (.nil)))) (one_parts ⟨rfl, ⟨rfl, ⟨rfl, trivial⟩⟩⟩) rfl) rfl ?_
          refine WX.one 8 #[true, true, true, true, true, true, true, true, true, false] (fun wz hw => St.tail [] hw) rfl (by kernel_rfl) (WO.alloc (cs := (encEvent (Event.mk 0 0 0 0)).toArray) zero32 rfl rfl fun b16 => ?_)
          refine WX.now (fun wz hw => St.tail [_] hw) ?_
          refine WX.stop #[true, true, true, true, true, true, true, true, true, true] (fun wz hw => St.tail [] hw) rfl (by kernel_rfl) (WO.storeBA (ds := (encEvent (Event.mk r7.1 r9.1 r15 0))) (cs' := (encEvent (Event.mk r7.1 r9.1 r15 0))) cells32 (.pl rfl) (.pl rfl) rfl (oneEvent _) (i := 0) rfl (lel (o := 0) (l := 4) (m := 4) (by decide) rfl rfl) (putW rfl) ?_)
          refine WA.done (by kernel_rfl) ?_
          exact W.joinAt2 hK10 r15 b16 (Option.some.inj hF9) (.cons rfl (.nil)) (.cons (i := 2) rfl (.cons (i := 4) rfl (.cons (i := 6) rfl (.cons (i := 8) rfl (.nil))))) (fun wz hw => hw.pick [3, 2, 0] rfl)
        · skip
          refine WXI.step #[true, true, true, true, true, true, false, false, true, false] rfl rfl (WO.alloc (cs := (encEvent (Event.mk 0 0 0 0)).toArray) zero32 rfl rfl fun b17 => ?_)
          refine WX.now (fun wz hw => St.tail [_] hw) ?_
          refine WX.one 6 #[true, true, true, true, true, true, true, false, true, false] (fun wz hw => St.tail [] hw) rfl (by kernel_rfl) (WO.callP isGo36 (.cons (.pl rfl) (.cons (.pl rfl) (.nil))) rfl (fun wz hw => slices_Index_string_string_ok (hr15) wz (SlIn.ofRow (fun _ => rfl) hw (i := 1) rfl)) ?_)
          refine WX.pure 7 #[true, true, true, true, true, true, true, true, true, false] rfl (by kernel_rfl) (fun _ _ => Y.build (cs := (encEvent (Event.mk r7.1 r9.1 r15 0)).toArray) shape32 (.cons (.pl rfl) (.cons (.pl rfl) (.cons (.pl rfl) (.nil)))) (one_parts ⟨rfl, ⟨rfl, ⟨rfl, trivial⟩⟩⟩) rfl) rfl ?_
          refine WX.stop #[true, true, true, true, true, true, true, true, true, true] (fun wz hw => St.tail [] hw) rfl (by kernel_rfl) (WO.storeBA (ds := (encEvent (Event.mk r7.1 r9.1 r15 0))) (cs' := (encEvent (Event.mk r7.1 r9.1 r15 0))) cells32 (.pl rfl) (.pl rfl) rfl (oneEvent _) (i := 0) rfl (lel (o := 0) (l := 4) (m := 4) (by decide) rfl rfl) (putW rfl) ?_)
          refine WA.done (by kernel_rfl) ?_
          exact W.joinAt2 hK10 r15 b17 (Option.some.inj hF9) (.cons rfl (.nil)) (.cons (i := 2) rfl (.cons (i := 4) rfl (.cons (i := 6) rfl (.cons (i := 8) rfl (.nil))))) (fun wz hw => hw.pick [3, 2, 0] rfl)
      · skip
        refine WXI.step #[true, true, false, true, true, true, false, false, true, false] rfl rfl (WO.alloc (cs := (encEvent (Event.mk 0 0 0 0)).toArray) zero32 rfl rfl fun b18 => ?_)
        refine WX.now (fun wz hw => St.tail [_] hw) ?_
        refine WX.one 2 #[true, true, true, true, true, true, false, false, true, false] (fun wz hw => St.tail [] hw) rfl (by kernel_rfl) (WO.callM isGo19 (.nil) rfl (fun wz hw => text_kindWords_ok (hr13) wz ) ?_)
        rintro A19 -
        refine WX.now (fun wz hw => St.tail [_] hw) ?_
        refine WX.one 6 #[true, true, true, true, true, true, true, false, true, false] (fun wz hw => St.tail [] hw) rfl (by kernel_rfl) (WO.callP isGo36 (.cons (.pl rfl) (.cons (.pl rfl) (.nil))) rfl (fun wz hw => slices_Index_string_string_ok (hr15) wz (SlIn.ofRow (fun _ => rfl) hw (i := 0) rfl)) ?_)
        refine WX.pure 7 #[true, true, true, true, true, true, true, true, true, false] rfl (by kernel_rfl) (fun _ _ => Y.build (cs := (encEvent (Event.mk r7.1 r9.1 r15 0)).toArray) shape32 (.cons (.pl rfl) (.cons (.pl rfl) (.cons (.pl rfl) (.nil)))) (one_parts ⟨rfl, ⟨rfl, ⟨rfl, trivial⟩⟩⟩) rfl) rfl ?_
        refine WX.stop #[true, true, true, true, true, true, true, true, true, true] (fun wz hw => St.tail [] hw) rfl (by kernel_rfl) (WO.storeBA (ds := (encEvent (Event.mk r7.1 r9.1 r15 0))) (cs' := (encEvent (Event.mk r7.1 r9.1 r15 0))) cells32 (.pl rfl) (.pl rfl) rfl (oneEvent _) (i := 1) rfl (lel (o := 0) (l := 4) (m := 4) (by decide) rfl rfl) (putW rfl) ?_)
        refine WA.done (by kernel_rfl) ?_
        exact W.joinAt2 hK10 r15 b18 (Option.some.inj hF9) (.cons rfl (.nil)) (.cons (i := 2) rfl (.cons (i := 4) rfl (.cons (i := 6) rfl (.cons (i := 8) rfl (.nil))))) (fun wz hw => hw.pick [3, 2, 1] rfl)
    · -- behind
      rintro Kind11 b10 rfl
      refine W.seq fun K12 hK12 => ?_
      refine W.seqR fun Q13 hQ13 => ?_
      refine WL.q (Y.move (.pl rfl)) rfl ?_
      refine WL.q (Y.not (.pl rfl)) rfl ?_
      refine WL.q (Y.move (.pl rfl)) rfl ?_
      refine WL.g (.pl rfl rfl rfl) (fun hg => Y.move (.pl rfl)) rfl ?_
      refine WL.g (.pl rfl rfl rfl) (fun hg => Y.not (.gd (hg) rfl)) rfl ?_
      refine WL.q (Y.or (.pl rfl) (fun h2 => .gd (eqf h2) rfl)) rfl ?_
      refine WL.q (Y.move (.pl rfl)) rfl ?_
      refine WL.g (.pl rfl rfl rfl) (fun hg => Y.fieldAddr0 (off := 2) (ft := 3) Tryd.underlying32 rfl cells3 (.pl rfl)) rfl ?_
      refine WL.g (.pl rfl rfl rfl) (fun hg => Y.loadB (v := .int .i64 Kind11) Tryd.underlying3 rfl (.gd (hg) rfl) (i := 2) rfl (rfl)) rfl ?_
      refine WL.g (.pl rfl rfl rfl) (fun hg => Y.lss (.gd (hg) rfl) (.pl rfl)) rfl ?_
      refine WL.q (Y.or (.pl rfl) (fun h2 => .gd (eqf h2) rfl)) rfl ?_
      refine WL.next hQ13 (.cons (i := 2) rfl (.cons (i := 4) rfl (.cons (i := 9) rfl (.cons (i := 48) rfl (.nil))))) ?_
      refine W.cond (.pl rfl) (fun hC14 => ?_) (fun hC14 => ?_)
      · replace hF := cpos hC14 hF
        refine W.seqR fun Q15 hQ15 => ?_
        refine WL.q (Y.build (cs := (encEvent (Event.mk 0 0 0 0)).toArray) shape32 (.nil) (one_parts trivial) rfl) rfl ?_
        refine WL.step (WO.storeBA (ds := (encEvent (Event.mk 0 0 0 0))) (cs' := (encEvent (Event.mk 0 0 0 0))) cells32 (.pl rfl) (.pl rfl) rfl (oneEvent _) (i := 0) rfl (lel (o := 0) (l := 4) (m := 4) (by decide) rfl rfl) (putW rfl) ?_)
        refine WL.q (Y.assign (.pl rfl)) rfl ?_
        refine WL.next hQ15 (.cons (i := 2) rfl (.cons (i := 3) rfl (.nil))) ?_
        obtain rfl := Option.some.inj hF
        refine W.retV (fn := Tryd.f23) (vs := [.agg (encEvent (Event.mk 0 0 0 0)).toArray, .bool false]) Tryd.results23 ⟨.cellA Tryd.underlying32 rfl cells32 rfl (i := 0) rfl rfl, ⟨.tmp rfl, trivial⟩⟩ (fun _ _ h => h) (fun wz hw => ?_)
        exact hR _ _ ⟨rfl, (hw.pick [] rfl)⟩
      · replace hF := cneg hC14 hF
        refine W.skip ?_
        refine W.go hK12 (.cons (i := 2) rfl (.cons (i := 4) rfl (.cons (i := 9) rfl (.nil)))) ?_
        refine W.seq fun K16 hK16 => ?_
        refine W.seqR fun Q17 hQ17 => ?_
        refine WL.q (Y.fieldAddr0 (off := 2) (ft := 3) Tryd.underlying32 rfl cells3 (.pl rfl)) rfl ?_
        refine WL.q (Y.loadB (v := .int .i64 Kind11) Tryd.underlying3 rfl (.pl rfl) (i := 2) rfl (rfl)) rfl ?_
        obtain ⟨r20, hr20, hF⟩ := bnd hF
        refine WL.step (WO.callP isGo20 (.cons (.pl rfl) (.nil)) rfl (fun wz hw => text_bare_ok (hr20) wz ) ?_)
        refine WL.next hQ17 (.cons (i := 2) rfl (.cons (i := 4) rfl (.cons (i := 9) rfl (.cons (i := 52) rfl (.nil))))) ?_
        refine W.cond (.pl rfl) (fun hC18 => ?_) (fun hC18 => ?_)
        · replace hF := cpos hC18 hF
          refine W.seqR fun Q19 hQ19 => ?_
          refine WL.q (Y.loadBA (ds := (encEvent (Event.mk r7.1 r9.1 Kind11 0))) Tryd.underlying32 rfl cells32 (.pl rfl) (i := 2) rfl rfl subW) rfl ?_
          refine WL.q (Y.move (.pl rfl)) rfl ?_
          refine WL.q (Y.len Tryd.underlying38 (.pl rfl)) rfl ?_
          refine WL.q (Y.eql (.pl rfl) (.pl rfl)) rfl ?_
          refine WL.step (WO.storeBA (ds := (encEvent (Event.mk r7.1 r9.1 Kind11 0))) (cs' := (encEvent (Event.mk r7.1 r9.1 Kind11 0))) cells32 (.pl rfl) (.pl rfl) rfl (oneEvent _) (i := 0) rfl (lel (o := 0) (l := 4) (m := 4) (by decide) rfl rfl) (putW rfl) ?_)
          refine WL.q (Y.assign (.pl rfl)) rfl ?_
          refine WL.next hQ19 (.cons (i := 2) rfl (.cons (i := 3) rfl (.nil))) ?_
          obtain rfl := Option.some.inj hF
          refine W.retV (fn := Tryd.f23) (vs := [.agg (encEvent (Event.mk r7.1 r9.1 Kind11 0)).toArray, .bool (decide (((r3).length : Int) = 3))]) Tryd.results23 ⟨.cellA Tryd.underlying32 rfl cells32 rfl (i := 0) rfl rfl, ⟨.tmp rfl, trivial⟩⟩ (fun _ _ h => h) (fun wz hw => ?_)
          exact hR _ _ ⟨rfl, (hw.pick [] rfl)⟩
        · replace hF := cneg hC18 hF
          refine W.skip ?_
          refine W.go hK16 (.cons (i := 2) rfl (.cons (i := 4) rfl (.cons (i := 9) rfl (.nil)))) ?_
          refine W.seq fun K20 hK20 => ?_
          refine W.seqR fun Q21 hQ21 => ?_
          refine WL.q (Y.move (.pl rfl)) rfl ?_
          refine WL.q (Y.len Tryd.underlying38 (.pl rfl)) rfl ?_
          refine WL.q (Y.neq (.pl rfl) (.pl rfl)) rfl ?_
          refine WL.next hQ21 (.cons (i := 2) rfl (.cons (i := 4) rfl (.cons (i := 9) rfl (.cons (i := 59) rfl (.nil))))) ?_
          refine W.cond (.pl rfl) (fun hC22 => ?_) (fun hC22 => ?_)
          · replace hF := cpos hC22 hF
            refine W.seqR fun Q23 hQ23 => ?_
            refine WL.q (Y.build (cs := (encEvent (Event.mk 0 0 0 0)).toArray) shape32 (.nil) (one_parts trivial) rfl) rfl ?_
            refine WL.step (WO.storeBA (ds := (encEvent (Event.mk 0 0 0 0))) (cs' := (encEvent (Event.mk 0 0 0 0))) cells32 (.pl rfl) (.pl rfl) rfl (oneEvent _) (i := 0) rfl (lel (o := 0) (l := 4) (m := 4) (by decide) rfl rfl) (putW rfl) ?_)
            refine WL.q (Y.assign (.pl rfl)) rfl ?_
            refine WL.next hQ23 (.cons (i := 2) rfl (.cons (i := 3) rfl (.nil))) ?_
            obtain rfl := Option.some.inj hF
            refine W.retV (fn := Tryd.f23) (vs := [.agg (encEvent (Event.mk 0 0 0 0)).toArray, .bool false]) Tryd.results23 ⟨.cellA Tryd.underlying32 rfl cells32 rfl (i := 0) rfl rfl, ⟨.tmp rfl, trivial⟩⟩ (fun _ _ h => h) (fun wz hw => ?_)
            exact hR _ _ ⟨rfl, (hw.pick [] rfl)⟩
          · replace hF := cneg hC22 hF
            refine W.skip ?_
            refine W.go hK20 (.cons (i := 2) rfl (.cons (i := 4) rfl (.cons (i := 9) rfl (.nil)))) ?_
            refine W.seqR fun Q24 hQ24 => ?_
            refine WL.q (Y.move (.pl rfl)) rfl ?_
            obtain ⟨x21, hx21, hF⟩ := bnd hF
            refine WL.q (Y.rowEl Tryd.underlying38 cells9 (i := 1) rfl (.pl rfl) rfl (.pl rfl) (ix_lt (hx21))) rfl ?_
            refine WL.q (Y.loadR (enc := eS) (v := .string x21) (a := x21) (idx := 3) (j := 0) Tryd.underlying9 rfl (fun _ => rfl) (i := 1) rfl (.pl rfl) (ix_get (hx21)) rfl rfl) rfl ?_
            obtain ⟨r22, hr22, hF⟩ := bnd hF
            refine WL.step (WO.callP isGo37 (.cons (.pl rfl) (.nil)) rfl (fun wz hw => text_number_ok (hr22) wz (hG.mono hw)) ?_)
            refine WL.q (Y.move (.pl rfl)) rfl ?_
            refine WL.q (Y.extract (.pl rfl) rfl) rfl ?_
            refine WL.q (Y.extract (.pl rfl) rfl) rfl ?_
            refine WL.q (Y.fieldAddr0 (off := 3) (ft := 3) Tryd.underlying32 rfl cells3 (.pl rfl)) rfl ?_
            refine WL.step (WO.storeB (cs' := (encEvent (Event.mk r7.1 r9.1 Kind11 r22.1))) cells3 (.pl rfl) (.pl rfl) rfl (i := 2) rfl (ltl (m := 4) (by decide) rfl) (rfl) ?_)
            refine WL.q (Y.assign (.pl rfl)) rfl ?_
            refine WL.next hQ24 (.cons (i := 2) rfl (.cons (i := 6) rfl (.cons (i := 9) rfl (.nil)))) ?_
            refine W.seqR fun Q25 hQ25 => ?_
            refine WL.q (Y.loadBA (ds := (encEvent (Event.mk r7.1 r9.1 Kind11 r22.1))) Tryd.underlying32 rfl cells32 (.pl rfl) (i := 2) rfl rfl subW) rfl ?_
            refine WL.q (Y.move (.pl rfl)) rfl ?_
            refine WL.step (WO.storeBA (ds := (encEvent (Event.mk r7.1 r9.1 Kind11 r22.1))) (cs' := (encEvent (Event.mk r7.1 r9.1 Kind11 r22.1))) cells32 (.pl rfl) (.pl rfl) rfl (oneEvent _) (i := 0) rfl (lel (o := 0) (l := 4) (m := 4) (by decide) rfl rfl) (putW rfl) ?_)
            refine WL.q (Y.assign (.pl rfl)) rfl ?_
            refine WL.next hQ25 (.cons (i := 2) rfl (.cons (i := 3) rfl (.nil))) ?_
            obtain rfl := Option.some.inj hF
            refine W.retV (fn := Tryd.f23) (vs := [.agg (encEvent (Event.mk r7.1 r9.1 Kind11 r22.1)).toArray, .bool r22.2]) Tryd.results23 ⟨.cellA Tryd.underlying32 rfl cells32 rfl (i := 0) rfl rfl, ⟨.tmp rfl, trivial⟩⟩ (fun _ _ h => h) (fun wz hw => ?_)
            exact hR _ _ ⟨rfl, (hw.pick [] rfl)⟩

def text_Read_L3 (N : Nat) (r2 : (List ByteArray)) : ((List Int) × (List Event) × Int) → Option (((List Int) × (List Event) × Int) ⊕ (((List Int) × (List Event)) ⊕ ((List Int) × (List Event) × Int × Int)))
  | (types14, l17, v18) =>
    cond (decide (v18 < ((r2).length : Int)))
      (bd (ix r2 v18) fun (x19 : ByteArray) =>
      bd (α := ((List Int) × (List Event) × Bool)) (cond (decide (v18 = (((r2).length : Int) - 1)))
          (some (types14, l17, ((decide (x19 = (⟨#[]⟩ : ByteArray))) && (decide (0 < (((r2).length : Int) - 1))))))
          (cond (decide (v18 = 0))
            (bd (text_things N x19) fun (r27 : ((List Int) × Bool)) =>
            some (r27.1, l17, r27.2))
            (bd (text_event N x19) fun (r31 : (Int × Int × Int × Int × Bool)) =>
            ck (limB 32 ((l17).length + (([(Event.mk r31.1 r31.2.1 r31.2.2.1 r31.2.2.2.1)] : List Event)).length)) <|
            some (types14, (l17 ++ ([(Event.mk r31.1 r31.2.1 r31.2.2.1 r31.2.2.2.1)] : List Event)), r31.2.2.2.2)))) <|
      fun (types22, l25, ok26) => 
        cond (!ok26)
          (some (.inr (.inr ([], [], v18, 7))))
          (ck (ok64 (v18 + 1)) <|
          some (.inl (types22, l25, (v18 + 1)))))
      (some (.inr (.inl (types14, l17))))

def text_Read (N : Nat) (s1 : ByteArray) : Option ((List Int) × (List Event) × Int × Int) :=
  cond (decide (8192 < ((s1).size : Int)))
    (some ([], [], 0, 2))
    (bd (splitO N s1 (⟨#[10]⟩ : ByteArray)) fun (r2 : (List ByteArray)) =>
    ck (ok64 (((r2).length : Int) - 1)) <|
    bd (α := (((List Int) × (List Event)) ⊕ ((List Int) × (List Event) × Int × Int))) (iter (text_Read_L3 N r2) N ([], [], 0)) <|
    Sum.elim (fun (types8, l11) => 
      bd (history_Calls N types8 l11) fun (r37 : ((List Call) × Int × Int)) =>
      cond (decide (r37.2.2 = 2))
        (some ([], [], 0, r37.2.2))
        (cond (!(decide (r37.2.2 = 0)))
          (ck (ok64 (r37.2.1 + 1)) <|
          some ([], [], (r37.2.1 + 1), r37.2.2))
          (some (types8, l11, 0, 0)))) (fun p => some p))

theorem text_Read_ok {N : Nat} {s1 : ByteArray} {res : ((List Int) × (List Event) × Int × Int)} (hF : text_Read N s1 = some res) (w : World) (hG : GOkS w) :
    Made Tryd.prog 7 [.string s1] w (fun g : (Option Addr × Nat × Option Addr × Nat) => .tuple #[.slice g.1 (res.1).length g.2.1, .slice g.2.2.1 (res.2.1).length g.2.2.2, .int .i64 res.2.2.1, .int .i64 res.2.2.2]) (fun g => [cR (eI .i64) 1 g.1 g.2.1 3 res.1, cR encEvent 4 g.2.2.1 g.2.2.2 32 res.2.1]) (fun g => True) := by
  refine W.enter (n := 80) Tryd.func7 rfl rfl Sub.refl (by simp) (St.start w) fun R hR => ?_
  unfold text_Read at hF
  refine W.seqR fun Q1 hQ1 => ?_
  refine WL.q (Y.assign (.pl rfl)) rfl ?_
  refine WL.q (Y.assign (.pl rfl)) rfl ?_
  refine WL.q (Y.assign (.pl rfl)) rfl ?_
  refine WL.q (Y.assign (.pl rfl)) rfl ?_
  refine WL.next hQ1 (.cons (i := 0) rfl (.nil)) ?_
  refine W.seq fun K2 hK2 => ?_
  refine W.seqR fun Q3 hQ3 => ?_
  refine WL.q (Y.move (.pl rfl)) rfl ?_
  refine WL.q (Y.lenT Tryd.underlying9 (.pl rfl)) rfl ?_
  refine WL.q (Y.gtr (.pl rfl) (.pl rfl)) rfl ?_
  refine WL.next hQ3 (.cons (i := 0) rfl (.cons (i := 19) rfl (.nil))) ?_
  refine W.cond (.pl rfl) (fun hC4 => ?_) (fun hC4 => ?_)
  · replace hF := cpos hC4 hF
    refine W.seqR fun Q5 hQ5 => ?_
    refine WL.q (Y.assign (.pl rfl)) rfl ?_
    refine WL.q (Y.assign (.pl rfl)) rfl ?_
    refine WL.q (Y.assign (.pl rfl)) rfl ?_
    refine WL.q (Y.assign (.pl rfl)) rfl ?_
    refine WL.next hQ5 (.cons (i := 2) rfl (.cons (i := 3) rfl (.cons (i := 4) rfl (.cons (i := 5) rfl (.nil))))) ?_
    obtain rfl := Option.some.inj hF
    refine W.retV (fn := Tryd.f7) (vs := [.slice none 0 0, .slice none 0 0, .int .i64 0, .int .i64 2]) Tryd.results7 ⟨.tmp rfl, ⟨.tmp rfl, ⟨.tmp rfl, ⟨.tmp rfl, trivial⟩⟩⟩⟩ (fun _ _ h => h) (fun wz hw => ?_)
    exact hR _ _ ⟨(none, 0, none, 0), trivial, rfl, ((St.nilR (St.nilR (hw.pick [] rfl) (eI .i64) 1 3) encEvent 4 32).pick [1, 0] rfl)⟩
  · replace hF := cneg hC4 hF
    refine W.skip ?_
    refine W.go hK2 (.cons (i := 0) rfl (.nil)) ?_
    refine W.seqR fun Q6 hQ6 => ?_
    refine WL.q (Y.move (.pl rfl)) rfl ?_
    obtain ⟨r2, hr2, hF⟩ := bnd hF
    refine WL.step (WO.callM isGo13 (.cons (.pl rfl) (.cons (.pl rfl) (.nil))) rfl (fun wz hw => strings_Split_ok (hr2) wz (hG.mono hw)) ?_)
    rintro ⟨AI3, cI4⟩ -
    refine WL.q (Y.assign (.pl rfl)) rfl ?_
    refine WL.next hQ6 (.cons (i := 6) rfl (.nil)) ?_
    refine W.seqR fun Q7 hQ7 => ?_
    refine WL.q (Y.move (.pl rfl)) rfl ?_
    refine WL.q (Y.len Tryd.underlying38 (.pl rfl)) rfl ?_
    obtain ⟨hk5, hF⟩ := ckh hF
    refine WL.q (Y.sub (.pl rfl) (.pl rfl) (ok64_lt (hk5))) rfl ?_
    refine WL.q (Y.assign (.pl rfl)) rfl ?_
    refine WL.next hQ7 (.cons (i := 6) rfl (.cons (i := 7) rfl (.nil))) ?_
    refine W.seqR fun Q8 hQ8 => ?_
    refine WL.q (Y.assign (.pl rfl)) rfl ?_
    refine WL.next hQ8 (.cons (i := 6) rfl (.cons (i := 7) rfl (.cons (i := 8) rfl (.nil)))) ?_
    refine W.seqR fun Q9 hQ9 => ?_
    refine WL.q (Y.assign (.pl rfl)) rfl ?_
    refine WL.next hQ9 (.cons (i := 6) rfl (.cons (i := 7) rfl (.cons (i := 8) rfl (.cons (i := 9) rfl (.nil))))) ?_
    obtain ⟨o10, hF10, hF⟩ := bnd hF
    refine W.join6 (Em := fun (types8 : (List Int)) (l11 : (List Event)) (A6 : Option Addr) (c7 : Nat) (A9 : Option Addr) (c10 : Nat) => [(8, .slice A6 (types8).length c7), (9, .slice A9 (l11).length c10)]) (M := fun types8 l11 A6 c7 A9 c10 => [cR (eI .i64) 1 A6 c7 3 types8, cR encEvent 4 A9 c10 32 l11]) (I := fun types8 l11 A6 c7 A9 c10 => (.inl (types8, l11)) = o10) (.nil) (fun K11 hK11 => ?_) ?_
    · -- up to
      refine W.seqR fun Q12 hQ12 => ?_
      refine WL.q (Y.move (.pl rfl)) rfl ?_
      refine WL.q (Y.len Tryd.underlying38 (.pl rfl)) rfl ?_
      refine WL.q (Y.move (.pl rfl)) rfl ?_
      refine WL.next hQ12 (.cons (i := 7) rfl (.cons (i := 8) rfl (.cons (i := 9) rfl (.cons (i := 25) rfl (.cons (i := 26) rfl (.cons (i := 27) rfl (.nil))))))) ?_
      refine W.block ?_
      refine W.loop7 (Em := fun (types14 : (List Int)) (l17 : (List Event)) (v18 : Int) (A12 : Option Addr) (c13 : Nat) (A15 : Option Addr) (c16 : Nat) => [(8, .slice A12 (types14).length c13), (9, .slice A15 (l17).length c16), (27, .int .i64 v18)]) (M := fun types14 l17 v18 A12 c13 A15 c16 => [cR (eI .i64) 1 A12 c13 3 types14, cR encEvent 4 A15 c16 32 l17, cR eS 1 AI3 cI4 9 r2]) (I := fun types14 l17 v18 A12 c13 A15 c16 k13 => iter (text_Read_L3 N r2) k13 (types14, l17, v18) = some o10) [] [] 0 none 0 none 0 N (hF10) (.cons rfl (.cons rfl (.cons rfl (.nil)))) (.cons (i := 7) rfl (.cons (i := 25) rfl (.cons (i := 26) rfl (.nil)))) (fun wz hw => (St.nilR (St.nilR (hw.pick [0] rfl) (eI .i64) 1 3) encEvent 4 32).pick [1, 0, 2] rfl) (fun types14 l17 v18 A12 c13 A15 c16 k13 hI K14 hK14 => ?_)
      obtain ⟨k13, t13, rfl, hF13, hN13⟩ := iter_step hI
      refine W.seqR fun Q15 hQ15 => ?_
      refine WL.q (Y.lss (.pl rfl) (.pl rfl)) rfl ?_
      refine WL.next hQ15 (.cons (i := 7) rfl (.cons (i := 8) rfl (.cons (i := 9) rfl (.cons (i := 25) rfl (.cons (i := 26) rfl (.cons (i := 27) rfl (.cons (i := 28) rfl (.nil)))))))) ?_
      refine W.seq fun K16 hK16 => ?_
      refine W.cond (.pl rfl) (fun hC17 => ?_) (fun hC17 => ?_)
      · replace hF13 := cpos hC17 hF13
        refine W.skip ?_
        refine W.go hK16 (.cons (i := 7) rfl (.cons (i := 8) rfl (.cons (i := 9) rfl (.cons (i := 25) rfl (.cons (i := 26) rfl (.cons (i := 27) rfl (.nil))))))) ?_
        refine W.seq fun K18 hK18 => ?_
        refine W.block ?_
        refine W.seqR fun Q19 hQ19 => ?_
        refine WL.q (Y.move (.pl rfl)) rfl ?_
        obtain ⟨x19, hx19, hF13⟩ := bnd hF13
        refine WL.q (Y.rowEl Tryd.underlying38 cells9 (i := 2) rfl (.pl rfl) rfl (.pl rfl) (ix_lt (hx19))) rfl ?_
        refine WL.q (Y.loadR (enc := eS) (v := .string x19) (a := x19) (idx := v18) (j := 0) Tryd.underlying9 rfl (fun _ => rfl) (i := 2) rfl (.pl rfl) (ix_get (hx19)) rfl rfl) rfl ?_
        refine WL.q (Y.assign (.pl rfl)) rfl ?_
        refine WL.q (Y.assign (.pl rfl)) rfl ?_
        refine WL.next hQ19 (.cons (i := 7) rfl (.cons (i := 8) rfl (.cons (i := 9) rfl (.cons (i := 10) rfl (.cons (i := 11) rfl (.cons (i := 25) rfl (.cons (i := 26) rfl (.cons (i := 27) rfl (.nil))))))))) ?_
        refine W.seqR fun Q20 hQ20 => ?_
        refine WL.q (Y.assign (.pl rfl)) rfl ?_
        refine WL.next hQ20 (.cons (i := 7) rfl (.cons (i := 8) rfl (.cons (i := 9) rfl (.cons (i := 10) rfl (.cons (i := 11) rfl (.cons (i := 25) rfl (.cons (i := 26) rfl (.cons (i := 27) rfl (.nil))))))))) ?_
        obtain ⟨o21, hF21, hF13⟩ := bnd hF13
        refine W.join7 (Em := fun (types22 : (List Int)) (l25 : (List Event)) (ok26 : Bool) (A20 : Option Addr) (c21 : Nat) (A23 : Option Addr) (c24 : Nat) => [(8, .slice A20 (types22).length c21), (9, .slice A23 (l25).length c24), (12, .bool ok26)]) (M := fun types22 l25 ok26 A20 c21 A23 c24 => [cR (eI .i64) 1 A20 c21 3 types22, cR encEvent 4 A23 c24 32 l25, cR eS 1 AI3 cI4 9 r2]) (I := fun types22 l25 ok26 A20 c21 A23 c24 => (types22, l25, ok26) = o21) (.cons (i := 7) rfl (.cons (i := 10) rfl (.cons (i := 25) rfl (.cons (i := 26) rfl (.cons (i := 27) rfl (.nil)))))) (fun K22 hK22 => ?_) ?_
        · -- up to
          refine W.block ?_
          refine W.seqR fun Q23 hQ23 => ?_
          refine WL.q (Y.move (.pl rfl)) rfl ?_
          refine WL.q (Y.move (.pl rfl)) rfl ?_
          refine WL.q (Y.eql (.pl rfl) (.pl rfl)) rfl ?_
          refine WL.q (Y.assign (.pl rfl)) rfl ?_
          refine WL.next hQ23 (.cons (i := 7) rfl (.cons (i := 8) rfl (.cons (i := 9) rfl (.cons (i := 10) rfl (.cons (i := 11) rfl (.cons (i := 25) rfl (.cons (i := 26) rfl (.cons (i := 27) rfl (.cons (i := 41) rfl (.nil)))))))))) ?_
          refine W.cond (.pl rfl) (fun hC24 => ?_) (fun hC24 => ?_)
          · replace hF21 := cpos hC24 hF21
            refine W.reg ?_
            refine WL.q (Y.move (.pl rfl)) rfl ?_
            refine WL.q (Y.eqlT Tryd.underlying9 (.pl rfl) (.pl rfl)) rfl ?_
            refine WL.q (Y.move (.pl rfl)) rfl ?_
            refine WL.g (.pl rfl rfl rfl) (fun hg => Y.move (.pl rfl)) rfl ?_
            refine WL.g (.pl rfl rfl rfl) (fun hg => Y.gtr (.gd (hg) rfl) (.pl rfl)) rfl ?_
            refine WL.q (Y.and (.pl rfl) (fun h2 => .gd (eqt h2) rfl)) rfl ?_
            refine WL.q (Y.assign (.pl rfl)) rfl ?_
            refine WL.nil ?_
            exact W.joinAt7 hK22 types14 l17 ((decide (x19 = (⟨#[]⟩ : ByteArray))) && (decide (0 < (((r2).length : Int) - 1)))) A12 c13 A15 c16 (Option.some.inj hF21) (.cons rfl (.cons rfl (.cons rfl (.nil)))) (.cons (i := 7) rfl (.cons (i := 10) rfl (.cons (i := 25) rfl (.cons (i := 26) rfl (.cons (i := 27) rfl (.nil)))))) (fun wz hw => hw.pick [0, 1, 2] rfl)
          · replace hF21 := cneg hC24 hF21
            refine W.seqR fun Q26 hQ26 => ?_
            refine WL.q (Y.move (.pl rfl)) rfl ?_
            refine WL.q (Y.eql (.pl rfl) (.pl rfl)) rfl ?_
            refine WL.q (Y.assign (.pl rfl)) rfl ?_
            refine WL.next hQ26 (.cons (i := 7) rfl (.cons (i := 8) rfl (.cons (i := 9) rfl (.cons (i := 10) rfl (.cons (i := 11) rfl (.cons (i := 25) rfl (.cons (i := 26) rfl (.cons (i := 27) rfl (.cons (i := 51) rfl (.nil)))))))))) ?_
            refine W.cond (.pl rfl) (fun hC27 => ?_) (fun hC27 => ?_)
            · replace hF21 := cpos hC27 hF21
              refine W.reg ?_
              refine WL.q (Y.move (.pl rfl)) rfl ?_
              obtain ⟨r27, hr27, hF21⟩ := bnd hF21
              refine WL.step (WO.callM isGo22 (.cons (.pl rfl) (.nil)) rfl (fun wz hw => text_things_ok (hr27) wz (hG.mono hw)) ?_)
              rintro ⟨A28, c29⟩ -
              refine WL.q (Y.move (.pl rfl)) rfl ?_
              refine WL.q (Y.extract (.pl rfl) rfl) rfl ?_
              refine WL.q (Y.extract (.pl rfl) rfl) rfl ?_
              refine WL.q (Y.assign (.pl rfl)) rfl ?_
              refine WL.q (Y.assign (.pl rfl)) rfl ?_
              refine WL.nil ?_
              exact W.joinAt7 hK22 r27.1 l17 r27.2 A28 c29 A15 c16 (Option.some.inj hF21) (.cons rfl (.cons rfl (.cons rfl (.nil)))) (.cons (i := 7) rfl (.cons (i := 10) rfl (.cons (i := 25) rfl (.cons (i := 26) rfl (.cons (i := 27) rfl (.nil)))))) (fun wz hw => hw.pick [0, 2, 3] rfl)
            · replace hF21 := cneg hC27 hF21
              refine W.seqR fun Q29 hQ29 => ?_
              refine WL.step (WO.alloc (cs := (encEvent (Event.mk 0 0 0 0)).toArray) zero32 rfl rfl fun b30 => ?_)
              refine WL.next hQ29 (.cons (i := 7) rfl (.cons (i := 8) rfl (.cons (i := 9) rfl (.cons (i := 10) rfl (.cons (i := 11) rfl (.cons (i := 13) rfl (.cons (i := 25) rfl (.cons (i := 26) rfl (.cons (i := 27) rfl (.nil)))))))))) ?_
              refine W.seqR fun Q30 hQ30 => ?_
              refine WL.q (Y.move (.pl rfl)) rfl ?_
              obtain ⟨r31, hr31, hF21⟩ := bnd hF21
              refine WL.step (WO.callP isGo23 (.cons (.pl rfl) (.nil)) rfl (fun wz hw => text_event_ok (hr31) wz (hG.mono hw)) ?_)
              refine WL.q (Y.move (.pl rfl)) rfl ?_
              refine WL.q (Y.extract (.pl rfl) rfl) rfl ?_
              refine WL.q (Y.extract (.pl rfl) rfl) rfl ?_
              refine WL.step (WO.storeBA (ds := (encEvent (Event.mk r31.1 r31.2.1 r31.2.2.1 r31.2.2.2.1))) (cs' := (encEvent (Event.mk r31.1 r31.2.1 r31.2.2.1 r31.2.2.2.1))) cells32 (.pl rfl) (.pl rfl) rfl (oneEvent _) (i := 0) rfl (lel (o := 0) (l := 4) (m := 4) (by decide) rfl rfl) (putW rfl) ?_)
              refine WL.q (Y.assign (.pl rfl)) rfl ?_
              refine WL.next hQ30 (.cons (i := 7) rfl (.cons (i := 8) rfl (.cons (i := 9) rfl (.cons (i := 10) rfl (.cons (i := 12) rfl (.cons (i := 13) rfl (.cons (i := 25) rfl (.cons (i := 26) rfl (.cons (i := 27) rfl (.nil)))))))))) ?_
              refine W.reg ?_
              refine WL.q (Y.move (.pl rfl)) rfl ?_
              refine WL.q (Y.loadBA (ds := (encEvent (Event.mk r31.1 r31.2.1 r31.2.2.1 r31.2.2.2.1))) Tryd.underlying32 rfl cells32 (.pl rfl) (i := 0) rfl rfl subW) rfl ?_
              refine WL.step (WO.bsliceC (enc := encEvent) (ys := ([(Event.mk r31.1 r31.2.1 r31.2.2.1 r31.2.2.2.1)] : List Event)) Tryd.underlying23 bz32 (.cons (.pl rfl) (.nil)) rfl lenEvent rfl rfl (by decide) (by decide) rfl fun b32 => ?_)
              obtain ⟨hk35, hF21⟩ := ckh hF21
              refine WL.step (WO.appendC (enc := encEvent) Tryd.underlying23 ap32 lenEvent oneEvent (.pl rfl) rfl (.pl rfl) (i := 3) rfl (m2 := 0) rfl (hk35) rfl fun A33 c34 => ?_)
              refine WL.q (Y.assign (.pl rfl)) rfl ?_
              refine WL.nil ?_
              exact W.joinAt7 hK22 types14 (l17 ++ ([(Event.mk r31.1 r31.2.1 r31.2.2.1 r31.2.2.2.1)] : List Event)) r31.2.2.2.2 A12 c13 A33 c34 (Option.some.inj hF21) (.cons rfl (.cons rfl (.cons rfl (.nil)))) (.cons (i := 7) rfl (.cons (i := 10) rfl (.cons (i := 25) rfl (.cons (i := 26) rfl (.cons (i := 27) rfl (.nil)))))) (fun wz hw => hw.pick [2, 3, 4] rfl)
        · -- behind
          rintro types22 l25 ok26 A20 c21 A23 c24 rfl
          refine W.seqR fun Q32 hQ32 => ?_
          refine WL.q (Y.move (.pl rfl)) rfl ?_
          refine WL.q (Y.not (.pl rfl)) rfl ?_
          refine WL.next hQ32 (.cons (i := 7) rfl (.cons (i := 8) rfl (.cons (i := 9) rfl (.cons (i := 10) rfl (.cons (i := 25) rfl (.cons (i := 26) rfl (.cons (i := 27) rfl (.cons (i := 60) rfl (.nil))))))))) ?_
          refine W.cond (.pl rfl) (fun hC33 => ?_) (fun hC33 => ?_)
          · replace hF13 := cpos hC33 hF13
            refine W.seqR fun Q34 hQ34 => ?_
            refine WL.q (Y.move (.pl rfl)) rfl ?_
            refine WL.q (Y.assign (.pl rfl)) rfl ?_
            refine WL.q (Y.assign (.pl rfl)) rfl ?_
            refine WL.q (Y.assign (.pl rfl)) rfl ?_
            refine WL.q (Y.assign (.pl rfl)) rfl ?_
            refine WL.next hQ34 (.cons (i := 2) rfl (.cons (i := 3) rfl (.cons (i := 4) rfl (.cons (i := 5) rfl (.nil))))) ?_
            obtain rfl := Option.some.inj hF13
            obtain rfl := einr hN13
            obtain rfl := Option.some.inj hF
            refine W.retV (fn := Tryd.f7) (vs := [.slice none 0 0, .slice none 0 0, .int .i64 v18, .int .i64 7]) Tryd.results7 ⟨.tmp rfl, ⟨.tmp rfl, ⟨.tmp rfl, ⟨.tmp rfl, trivial⟩⟩⟩⟩ (fun _ _ h => h) (fun wz hw => ?_)
            exact hR _ _ ⟨(none, 0, none, 0), trivial, rfl, ((St.nilR (St.nilR (hw.pick [] rfl) (eI .i64) 1 3) encEvent 4 32).pick [1, 0] rfl)⟩
          · replace hF13 := cneg hC33 hF13
            refine W.skip ?_
            refine W.go hK18 (.cons (i := 7) rfl (.cons (i := 8) rfl (.cons (i := 9) rfl (.cons (i := 25) rfl (.cons (i := 26) rfl (.cons (i := 27) rfl (.nil))))))) ?_
            refine W.reg ?_
            obtain ⟨hk36, hF13⟩ := ckh hF13
            refine WL.q (Y.add (.pl rfl) (.pl rfl) (ok64_lt (hk36))) rfl ?_
            refine WL.q (Y.move (.pl rfl)) rfl ?_
            refine WL.nil ?_
            obtain rfl := Option.some.inj hF13
            exact W.again7 hK14 types22 l25 (v18 + 1) A20 c21 A23 c24 k13 hN13 (Nat.lt_succ_self _) (.cons rfl (.cons rfl (.cons rfl (.nil)))) (.cons (i := 7) rfl (.cons (i := 25) rfl (.cons (i := 26) rfl (.nil)))) (fun wz hw => hw.pick [0, 1, 2] rfl)
      · replace hF13 := cneg hC17 hF13
        refine W.exit ?_
        obtain rfl := Option.some.inj hF13
        exact W.joinAt6 hK11 types14 l17 A12 c13 A15 c16 (einr hN13) (.cons rfl (.cons rfl (.nil))) (.nil) (fun wz hw => hw.pick [0, 1] rfl)
    · -- behind
      rintro types8 l11 A6 c7 A9 c10 rfl
      refine W.seq fun K36 hK36 => ?_
      refine W.seqR fun Q37 hQ37 => ?_
      refine WL.q (Y.move (.pl rfl)) rfl ?_
      refine WL.q (Y.move (.pl rfl)) rfl ?_
      obtain ⟨r37, hr37, hF⟩ := bnd hF
      refine WL.step (WO.callM isGo15 (.cons (.pl rfl) (.cons (.pl rfl) (.nil))) rfl (fun wz hw => history_Calls_ok (hr37) wz (SlIn.ofRow (fun _ => rfl) hw (i := 0) rfl) (SlIn.ofRow lenEvent hw (i := 1) rfl)) ?_)
      rintro ⟨A38, c39⟩ -
      refine WL.q (Y.move (.pl rfl)) rfl ?_
      refine WL.q (Y.extract (.pl rfl) rfl) rfl ?_
      refine WL.q (Y.extract (.pl rfl) rfl) rfl ?_
      refine WL.q (Y.extract (.pl rfl) rfl) rfl ?_
      refine WL.q (Y.assign (.pl rfl)) rfl ?_
      refine WL.q (Y.assign (.pl rfl)) rfl ?_
      refine WL.q (Y.assign (.pl rfl)) rfl ?_
      refine WL.next hQ37 (.cons (i := 8) rfl (.cons (i := 9) rfl (.cons (i := 15) rfl (.cons (i := 16) rfl (.nil))))) ?_
      refine W.seqR fun Q38 hQ38 => ?_
      refine WL.q (Y.move (.pl rfl)) rfl ?_
      refine WL.q (Y.eql (.pl rfl) (.pl rfl)) rfl ?_
      refine WL.next hQ38 (.cons (i := 8) rfl (.cons (i := 9) rfl (.cons (i := 15) rfl (.cons (i := 16) rfl (.cons (i := 71) rfl (.nil)))))) ?_
      refine W.cond (.pl rfl) (fun hC39 => ?_) (fun hC39 => ?_)
      · replace hF := cpos hC39 hF
        refine W.seqR fun Q40 hQ40 => ?_
        refine WL.q (Y.move (.pl rfl)) rfl ?_
        refine WL.q (Y.assign (.pl rfl)) rfl ?_
        refine WL.q (Y.assign (.pl rfl)) rfl ?_
        refine WL.q (Y.assign (.pl rfl)) rfl ?_
        refine WL.q (Y.assign (.pl rfl)) rfl ?_
        refine WL.next hQ40 (.cons (i := 2) rfl (.cons (i := 3) rfl (.cons (i := 4) rfl (.cons (i := 5) rfl (.nil))))) ?_
        obtain rfl := Option.some.inj hF
        refine W.retV (fn := Tryd.f7) (vs := [.slice none 0 0, .slice none 0 0, .int .i64 0, .int .i64 r37.2.2]) Tryd.results7 ⟨.tmp rfl, ⟨.tmp rfl, ⟨.tmp rfl, ⟨.tmp rfl, trivial⟩⟩⟩⟩ (fun _ _ h => h) (fun wz hw => ?_)
        exact hR _ _ ⟨(none, 0, none, 0), trivial, rfl, ((St.nilR (St.nilR (hw.pick [] rfl) (eI .i64) 1 3) encEvent 4 32).pick [1, 0] rfl)⟩
      · replace hF := cneg hC39 hF
        refine W.seqR fun Q41 hQ41 => ?_
        refine WL.q (Y.move (.pl rfl)) rfl ?_
        refine WL.q (Y.neq (.pl rfl) (.pl rfl)) rfl ?_
        refine WL.next hQ41 (.cons (i := 8) rfl (.cons (i := 9) rfl (.cons (i := 15) rfl (.cons (i := 16) rfl (.cons (i := 74) rfl (.nil)))))) ?_
        refine W.cond (.pl rfl) (fun hC42 => ?_) (fun hC42 => ?_)
        · replace hF := cpos hC42 hF
          refine W.seqR fun Q43 hQ43 => ?_
          refine WL.q (Y.move (.pl rfl)) rfl ?_
          obtain ⟨hk40, hF⟩ := ckh hF
          refine WL.q (Y.add (.pl rfl) (.pl rfl) (ok64_lt (hk40))) rfl ?_
          refine WL.q (Y.move (.pl rfl)) rfl ?_
          refine WL.q (Y.assign (.pl rfl)) rfl ?_
          refine WL.q (Y.assign (.pl rfl)) rfl ?_
          refine WL.q (Y.assign (.pl rfl)) rfl ?_
          refine WL.q (Y.assign (.pl rfl)) rfl ?_
          refine WL.next hQ43 (.cons (i := 2) rfl (.cons (i := 3) rfl (.cons (i := 4) rfl (.cons (i := 5) rfl (.nil))))) ?_
          obtain rfl := Option.some.inj hF
          refine W.retV (fn := Tryd.f7) (vs := [.slice none 0 0, .slice none 0 0, .int .i64 (r37.2.1 + 1), .int .i64 r37.2.2]) Tryd.results7 ⟨.tmp rfl, ⟨.tmp rfl, ⟨.tmp rfl, ⟨.tmp rfl, trivial⟩⟩⟩⟩ (fun _ _ h => h) (fun wz hw => ?_)
          exact hR _ _ ⟨(none, 0, none, 0), trivial, rfl, ((St.nilR (St.nilR (hw.pick [] rfl) (eI .i64) 1 3) encEvent 4 32).pick [1, 0] rfl)⟩
        · replace hF := cneg hC42 hF
          refine W.skip ?_
          refine W.go hK36 (.cons (i := 8) rfl (.cons (i := 9) rfl (.nil))) ?_
          refine W.seqR fun Q44 hQ44 => ?_
          refine WL.q (Y.move (.pl rfl)) rfl ?_
          refine WL.q (Y.move (.pl rfl)) rfl ?_
          refine WL.q (Y.assign (.pl rfl)) rfl ?_
          refine WL.q (Y.assign (.pl rfl)) rfl ?_
          refine WL.q (Y.assign (.pl rfl)) rfl ?_
          refine WL.q (Y.assign (.pl rfl)) rfl ?_
          refine WL.next hQ44 (.cons (i := 2) rfl (.cons (i := 3) rfl (.cons (i := 4) rfl (.cons (i := 5) rfl (.nil))))) ?_
          obtain rfl := Option.some.inj hF
          refine W.retV (fn := Tryd.f7) (vs := [.slice A6 (types8).length c7, .slice A9 (l11).length c10, .int .i64 0, .int .i64 0]) Tryd.results7 ⟨.tmp rfl, ⟨.tmp rfl, ⟨.tmp rfl, ⟨.tmp rfl, trivial⟩⟩⟩⟩ (fun _ _ h => h) (fun wz hw => ?_)
          exact hR _ _ ⟨(A6, c7, A9, c10), trivial, rfl, (hw.pick [1, 2] rfl)⟩

end Go.Proofs.YtjdkkabcenohcaaDoor
