/- The laws of serial: what their code computes, and the walks. -/
import Derived.Test.YtemckhkicfpgeaaQ1
set_option linter.unusedVariables false
set_option linter.unusedSimpArgs false
set_option linter.unusedSectionVars false
set_option maxRecDepth 100000
namespace Go.Proofs.Ytemckhkicfpgeaa
open Go.RowKit
theorem isGo34 : IsGo Try.prog 34 := ⟨_, Try.func34, by kernel_rfl, rfl⟩
theorem isGo36 : IsGo Try.prog 36 := ⟨_, Try.func36, by kernel_rfl, rfl⟩
theorem ap60 : ∃ i z, Try.prog.info? 60 = some i ∧ i.zero = some z ∧ i.size = 3 ∧ i.bytes = 24 ∧ z.cells.size = 3 ∧ 0 < 3 := ⟨_, (Value.agg #[(Value.int .i64 0), (Value.int .i64 0), (Value.int .i64 0)]), rfl, by kernel_rfl, by kernel_rfl, by kernel_rfl, by kernel_rfl, by decide⟩
theorem eqg25 : EqIA Try.prog 25 12 .i64 .u16 := ⟨3, 23, 22, .u16, by kernel_rfl, by kernel_rfl, by kernel_rfl, by kernel_rfl, by kernel_rfl, by kernel_rfl, by kernel_rfl, by kernel_rfl, by kernel_rfl, by decide⟩
def alibkeep_SerialTwoPhase (N : Nat) (l1 : (List Deed)) : Option Bool :=
  bd (serial_Locks N l1) fun (r6 : (Bool × Bool × Int)) =>
  bd (serial_Order N l1) fun (r7 : ((List Int) × Int)) =>
  bd (alibkeep_serialLives N) fun (r10 : Bool) =>
  cond ((!r10) || (!(decide (r6.2.2 = 0))))
    (bd (alibkeep_serialLives N) fun (r11 : Bool) =>
    some (r11 && (decide (r7.2 = r6.2.2))))
    (some (((!r6.1) || (!r6.2.1)) || ((decide (r7.2 = 0)) && (decide (((r7.1).length : Int) = 6)))))

theorem alibkeep_SerialTwoPhase_ok {N : Nat} {l1 : (List Deed)} {res : Bool} (hF : alibkeep_SerialTwoPhase N l1 = some res) (w : World) {v5 : Value} (hs4 : SlIn encDeed 3 w v5 l1) :
    Pure Try.prog 12 [v5] w (.bool res) := by
  obtain ⟨A2, c3, rfl, hcc3, hs4⟩ := hs4.form
  refine W.enter (n := 46) Try.func12 rfl rfl Sub.refl (by simp) (St.start w) fun R hR => ?_
  unfold alibkeep_SerialTwoPhase at hF
  -- region 0: serial.go:22
  refine W.seqR fun Q1 hQ1 => ?_
  refine WL.q (Y.assign (.pl rfl)) rfl ?_
  refine WL.next hQ1 (.cons (i := 0) rfl (.nil)) ?_
  -- region 1: serial.go:23
  refine W.seqR fun Q2 hQ2 => ?_
  refine WL.q (Y.move (.pl rfl)) rfl ?_
  obtain ⟨r6, hr6, hF⟩ := bnd hF
  refine WL.step (WO.callP isGo32 (.cons (.pl rfl) (.nil)) rfl (fun w hw => serial_Locks_ok (hr6) w (hs4.mono hw)) ?_)
  refine WL.q (Y.move (.pl rfl)) rfl ?_
  refine WL.q (Y.extract (.pl rfl) rfl) rfl ?_
  refine WL.q (Y.extract (.pl rfl) rfl) rfl ?_
  refine WL.q (Y.extract (.pl rfl) rfl) rfl ?_
  refine WL.q (Y.assign (.pl rfl)) rfl ?_
  refine WL.q (Y.assign (.pl rfl)) rfl ?_
  refine WL.q (Y.assign (.pl rfl)) rfl ?_
  refine WL.next hQ2 (.cons (i := 0) rfl (.cons (i := 3) rfl (.cons (i := 4) rfl (.cons (i := 5) rfl (.nil))))) ?_
  -- region 2: serial.go:24
  refine W.seqR fun Q3 hQ3 => ?_
  refine WL.q (Y.move (.pl rfl)) rfl ?_
  obtain ⟨r7, hr7, hF⟩ := bnd hF
  refine WL.step (WO.callM isGo33 (.cons (.pl rfl) (.nil)) rfl (fun w hw => serial_Order_ok (hr7) w (hs4.mono hw)) ?_)
  rintro ⟨A8, c9⟩ -
  refine WL.q (Y.move (.pl rfl)) rfl ?_
  refine WL.q (Y.extract (.pl rfl) rfl) rfl ?_
  refine WL.q (Y.extract (.pl rfl) rfl) rfl ?_
  refine WL.q (Y.assign (.pl rfl)) rfl ?_
  refine WL.q (Y.assign (.pl rfl)) rfl ?_
  refine WL.next hQ3 (.cons (i := 3) rfl (.cons (i := 4) rfl (.cons (i := 5) rfl (.cons (i := 6) rfl (.cons (i := 7) rfl (.nil)))))) ?_
  refine W.seq fun K4 hK4 => ?_
  -- region 3: serial.go:25
  refine W.seqR fun Q5 hQ5 => ?_
  obtain ⟨r10, hr10, hF⟩ := bnd hF
  refine WL.step (WO.callP isGo34 (.nil) rfl (fun w hw => alibkeep_serialLives_ok (hr10) w ) ?_)
  refine WL.q (Y.not (.pl rfl)) rfl ?_
  refine WL.q (Y.move (.pl rfl)) rfl ?_
  refine WL.g (.pl rfl rfl rfl) (fun hg => Y.move (.pl rfl)) rfl ?_
  refine WL.g (.pl rfl rfl rfl) (fun hg => Y.neq (.gd (hg) rfl) (.pl rfl)) rfl ?_
  refine WL.q (Y.or (.pl rfl) (fun h2 => .gd (eqf h2) rfl)) rfl ?_
  refine WL.next hQ5 (.cons (i := 3) rfl (.cons (i := 4) rfl (.cons (i := 5) rfl (.cons (i := 6) rfl (.cons (i := 7) rfl (.cons (i := 24) rfl (.nil))))))) ?_
  refine W.cond (.pl rfl) (fun hC6 => ?_) (fun hC6 => ?_)
  · replace hF := cpos hC6 hF
    -- region 4: serial.go:26
    refine W.seqR fun Q7 hQ7 => ?_
    obtain ⟨r11, hr11, hF⟩ := bnd hF
    refine WL.step (WO.callP isGo34 (.nil) rfl (fun w hw => alibkeep_serialLives_ok (hr11) w ) ?_)
    refine WL.q (Y.move (.pl rfl)) rfl ?_
    refine WL.g (.pl rfl rfl rfl) (fun hg => Y.move (.pl rfl)) rfl ?_
    refine WL.g (.pl rfl rfl rfl) (fun hg => Y.move (.pl rfl)) rfl ?_
    refine WL.g (.pl rfl rfl rfl) (fun hg => Y.eql (.gd (hg) rfl) (.gd (hg) rfl)) rfl ?_
    refine WL.q (Y.and (.pl rfl) (fun h2 => .gd (eqt h2) rfl)) rfl ?_
    refine WL.q (Y.assign (.pl rfl)) rfl ?_
    refine WL.next hQ7 (.cons (i := 2) rfl (.nil)) ?_
    obtain rfl := Option.some.inj hF
    refine W.retV (fn := Try.f12) (vs := [.bool (r11 && (decide (r7.2 = r6.2.2)))]) Try.results12 ⟨.tmp rfl, trivial⟩ (fun _ _ h => h) (fun w hw => ?_)
    exact hR _ _ ⟨rfl, (hw.pick [] rfl)⟩
  · replace hF := cneg hC6 hF
    refine W.skip ?_
    refine W.go hK4 (.cons (i := 3) rfl (.cons (i := 4) rfl (.cons (i := 6) rfl (.cons (i := 7) rfl (.nil))))) ?_
    -- region 5: serial.go:28
    refine W.seqR fun Q8 hQ8 => ?_
    refine WL.q (Y.move (.pl rfl)) rfl ?_
    refine WL.q (Y.not (.pl rfl)) rfl ?_
    refine WL.q (Y.move (.pl rfl)) rfl ?_
    refine WL.g (.pl rfl rfl rfl) (fun hg => Y.move (.pl rfl)) rfl ?_
    refine WL.g (.pl rfl rfl rfl) (fun hg => Y.not (.gd (hg) rfl)) rfl ?_
    refine WL.q (Y.or (.pl rfl) (fun h2 => .gd (eqf h2) rfl)) rfl ?_
    refine WL.q (Y.move (.pl rfl)) rfl ?_
    refine WL.g (.pl rfl rfl rfl) (fun hg => Y.move (.pl rfl)) rfl ?_
    refine WL.g (.pl rfl rfl rfl) (fun hg => Y.eql (.gd (hg) rfl) (.pl rfl)) rfl ?_
    refine WL.g (.pl rfl rfl rfl) (fun hg => Y.move (.gd (hg) rfl)) rfl ?_
    refine WL.g (.gd rfl rfl rfl) (fun hg => Y.move (.pl rfl)) rfl ?_
    refine WL.g (.gd rfl rfl rfl) (fun hg => Y.len Try.underlying34 (.gd (hg) rfl)) rfl ?_
    refine WL.g (.gd rfl rfl rfl) (fun hg => Y.eql (.gd (hg) rfl) (.pl rfl)) rfl ?_
    refine WL.g (.pl rfl rfl rfl) (fun hg => Y.and (.gd (hg) rfl) (fun h2 => .gd (band hg (eqt h2)) rfl)) rfl ?_
    refine WL.q (Y.or (.pl rfl) (fun h2 => .gd (eqf h2) rfl)) rfl ?_
    refine WL.q (Y.assign (.pl rfl)) rfl ?_
    refine WL.next hQ8 (.cons (i := 2) rfl (.nil)) ?_
    obtain rfl := Option.some.inj hF
    refine W.retV (fn := Try.f12) (vs := [.bool (((!r6.1) || (!r6.2.1)) || ((decide (r7.2 = 0)) && (decide (((r7.1).length : Int) = 6))))]) Try.results12 ⟨.tmp rfl, trivial⟩ (fun _ _ h => h) (fun w hw => ?_)
    exact hR _ _ ⟨rfl, (hw.pick [] rfl)⟩

def alibkeep_SerialFront_L3 (N : Nat) (r16 : (Int × (List Int) × Int)) (r7 : (Int × (List Int) × Int)) : Int → Option (Int ⊕ (Unit ⊕ Bool))
  | v20 =>
    cond (decide (v20 < 12))
      (bd (ax 12 0 r16.2.1 v20) fun (x21 : Int) =>
      bd (ax 12 0 r7.2.1 v20) fun (x22 : Int) =>
      cond (!(decide ((bclrI .u16 x21 x22) = 0)))
        (some (.inr (.inr false)))
        (ck (ok64 (v20 + 1)) <|
        some (.inl (v20 + 1))))
      (some (.inr (.inl ())))

def alibkeep_SerialFront (N : Nat) (l1 : (List Deed)) (n6 : Int) : Option Bool :=
  bd (serial_Graph N l1) fun (r7 : (Int × (List Int) × Int)) =>
  bd (serial_Locks N l1) fun (r9 : (Bool × Bool × Int)) =>
  bd (α := Bool) (bd (alibkeep_serialLives N) fun (r11 : Bool) =>
    cond ((!r11) == false)
      (bd (alibkeep_ok N ([r7.2.2, r9.2.2] : List Int)) fun (r13 : Bool) =>
      some ((((!r11) || (!r13)) || (decide (n6 < 0))) || (decide (((l1).length : Int) < n6))))
      (some ((((!r11) || false) || (decide (n6 < 0))) || (decide (((l1).length : Int) < n6))))) <|
  fun (v10 : Bool) => 
    cond v10
      (bd (alibkeep_serialLives N) fun (r14 : Bool) =>
      some r14)
      (ck (slB (l1).length 0 n6) <|
      bd (serial_Graph N (l1.take n6.toNat)) fun (r16 : (Int × (List Int) × Int)) =>
      ck (slB (l1).length 0 n6) <|
      bd (serial_Locks N (l1.take n6.toNat)) fun (r19 : (Bool × Bool × Int)) =>
      bd (α := (Unit ⊕ Bool)) (iter (alibkeep_SerialFront_L3 N r16 r7) N 0) <|
      Sum.elim (fun _ => 
        bd (alibkeep_ok N ([r16.2.2, r19.2.2] : List Int)) fun (r25 : Bool) =>
        bd ((cond (((r25 && ((!r9.1) || r19.1)) && ((!r9.2.1) || r19.2.1)) == true) (order_Check N (Rel.mk r7.1 r7.2.1)) (some 0))) fun (r26 : Int) =>
        some (((r25 && ((!r9.1) || r19.1)) && ((!r9.2.1) || r19.2.1)) && (decide (r26 = 0)))) (fun p => some p))

theorem alibkeep_SerialFront_ok {N : Nat} {l1 : (List Deed)} {n6 : Int} {res : Bool} (hF : alibkeep_SerialFront N l1 n6 = some res) (w : World) {v5 : Value} (hs4 : SlIn encDeed 3 w v5 l1) :
    Pure Try.prog 13 [v5, .int .i64 n6] w (.bool res) := by
  obtain ⟨A2, c3, rfl, hcc3, hs4⟩ := hs4.form
  refine W.enter (n := 99) Try.func13 rfl rfl Sub.refl (by simp) (St.start w) fun R hR => ?_
  unfold alibkeep_SerialFront at hF
  -- region 0: serial.go:79
  refine W.seqR fun Q1 hQ1 => ?_
  refine WL.q (Y.assign (.pl rfl)) rfl ?_
  refine WL.next hQ1 (.cons (i := 0) rfl (.cons (i := 1) rfl (.nil))) ?_
  -- region 1: serial.go:80
  refine W.seqR fun Q2 hQ2 => ?_
  refine WL.q (Y.move (.pl rfl)) rfl ?_
  obtain ⟨r7, hr7, hF⟩ := bnd hF
  refine WL.step (WO.callP isGo35 (.cons (.pl rfl) (.nil)) rfl (fun w hw => serial_Graph_ok (hr7) w (hs4.mono hw)) ?_)
  refine WL.q (Y.move (.pl rfl)) rfl ?_
  refine WL.q (Y.extract (.pl rfl) rfl) rfl ?_
  refine WL.q (Y.extract (.pl rfl) rfl) rfl ?_
  refine WL.step (WO.alloc (cs := (encRel (Rel.mk 0 [])).toArray) zero25 rfl rfl fun b8 => ?_)
  refine WL.step (WO.storeBA (ds := (encRel (Rel.mk r7.1 r7.2.1))) (cs' := (encRel (Rel.mk r7.1 r7.2.1))) cells25 (.pl rfl) (.pl rfl) rfl (oneRel _) (i := 0) rfl (lel (o := 0) (l := 13) (m := 13) (by decide) rfl rfl) (putW rfl) ?_)
  refine WL.q (Y.assign (.pl rfl)) rfl ?_
  refine WL.next hQ2 (.cons (i := 0) rfl (.cons (i := 1) rfl (.cons (i := 5) rfl (.cons (i := 6) rfl (.nil))))) ?_
  -- region 2: serial.go:81
  refine W.seqR fun Q3 hQ3 => ?_
  refine WL.q (Y.move (.pl rfl)) rfl ?_
  obtain ⟨r9, hr9, hF⟩ := bnd hF
  refine WL.step (WO.callP isGo32 (.cons (.pl rfl) (.nil)) rfl (fun w hw => serial_Locks_ok (hr9) w (hs4.mono hw)) ?_)
  refine WL.q (Y.move (.pl rfl)) rfl ?_
  refine WL.q (Y.extract (.pl rfl) rfl) rfl ?_
  refine WL.q (Y.extract (.pl rfl) rfl) rfl ?_
  refine WL.q (Y.extract (.pl rfl) rfl) rfl ?_
  refine WL.q (Y.assign (.pl rfl)) rfl ?_
  refine WL.q (Y.assign (.pl rfl)) rfl ?_
  refine WL.q (Y.assign (.pl rfl)) rfl ?_
  refine WL.next hQ3 (.cons (i := 0) rfl (.cons (i := 1) rfl (.cons (i := 5) rfl (.cons (i := 6) rfl (.cons (i := 7) rfl (.cons (i := 8) rfl (.cons (i := 9) rfl (.nil)))))))) ?_
  refine W.seq fun K4 hK4 => ?_
  obtain ⟨o5, hF5, hF⟩ := bnd hF
  refine W.join1 (Em := fun (v10 : Bool) => [(45, .bool v10)]) (M := fun v10 => [cBx b8 25 (encRel (Rel.mk r7.1 r7.2.1))]) (I := fun v10 => v10 = o5) (.cons (i := 0) rfl (.cons (i := 1) rfl (.cons (i := 5) rfl (.cons (i := 7) rfl (.cons (i := 8) rfl (.nil)))))) (fun K6 hK6 => ?_) ?_
  · -- up to
    -- region 3: serial.go:82
    refine W.reg ?_
    obtain ⟨r11, hr11, hF5⟩ := bnd hF5
    refine WL.step (WO.callP isGo34 (.nil) rfl (fun w hw => alibkeep_serialLives_ok (hr11) w ) ?_)
    refine WL.q (Y.not (.pl rfl)) rfl ?_
    refine WL.q (Y.move (.pl rfl)) rfl ?_
    refine WL.g (.pl rfl rfl rfl) (fun hg => Y.move (.pl rfl)) rfl ?_
    refine WL.g (.pl rfl rfl rfl) (fun hg => Y.move (.pl rfl)) rfl ?_
    refine bsplit ((!r11) == false) (fun hg7 => ?_) (fun hg7 => ?_)
    · replace hF5 := cpos hg7 hF5
      refine WL.gd (.pl rfl rfl rfl) (hg7) ?_
      refine WL.step (WO.bsliceC (enc := (eI .i64)) (ys := ([r7.2.2, r9.2.2] : List Int)) Try.underlying75 bz26 (.cons (.gd (hg7) rfl) (.cons (.gd (hg7) rfl) (.nil))) rfl (fun _ => rfl) rfl rfl (by decide) (by decide) rfl fun b12 => ?_)
      refine WL.gd (.pl rfl rfl rfl) (hg7) ?_
      obtain ⟨r13, hr13, hF5⟩ := bnd hF5
      refine WL.step (WO.callP isGo20 (.cons (.pl rfl) (.nil)) rfl (fun w hw => alibkeep_ok_ok (hr13) w (SlIn.ofRow (fun _ => rfl) hw (i := 0) rfl)) ?_)
      refine WL.gd (.pl rfl rfl rfl) (hg7) ?_
      refine WL.q (Y.not (.pl rfl)) rfl ?_
      refine WL.q (Y.or (.pl rfl) (fun _ => .pl rfl)) rfl ?_
      refine WL.q (Y.move (.pl rfl)) rfl ?_
      refine WL.g (.pl rfl rfl rfl) (fun hg => Y.move (.pl rfl)) rfl ?_
      refine WL.g (.pl rfl rfl rfl) (fun hg => Y.lss (.gd (hg) rfl) (.pl rfl)) rfl ?_
      refine WL.q (Y.or (.pl rfl) (fun h2 => .gd (eqf h2) rfl)) rfl ?_
      refine WL.q (Y.move (.pl rfl)) rfl ?_
      refine WL.g (.pl rfl rfl rfl) (fun hg => Y.move (.pl rfl)) rfl ?_
      refine WL.g (.pl rfl rfl rfl) (fun hg => Y.move (.pl rfl)) rfl ?_
      refine WL.g (.pl rfl rfl rfl) (fun hg => Y.len Try.underlying52 (.gd (hg) rfl)) rfl ?_
      refine WL.g (.pl rfl rfl rfl) (fun hg => Y.gtr (.gd (hg) rfl) (.gd (hg) rfl)) rfl ?_
      refine WL.q (Y.or (.pl rfl) (fun h2 => .gd (eqf h2) rfl)) rfl ?_
      refine WL.nil ?_
      exact W.joinAt1 hK6 ((((!r11) || (!r13)) || (decide (n6 < 0))) || (decide (((l1).length : Int) < n6))) (Option.some.inj hF5) (.cons rfl (.nil)) (.cons (i := 0) rfl (.cons (i := 1) rfl (.cons (i := 5) rfl (.cons (i := 7) rfl (.cons (i := 8) rfl (.nil)))))) (fun w hw => hw.pick [1] rfl)
    · replace hF5 := cneg hg7 hF5
      refine WL.gn (.pl rfl rfl rfl) hg7 rfl ?_
      refine WL.gn (.pl rfl rfl rfl) hg7 rfl ?_
      refine WL.gn (.pl rfl rfl rfl) hg7 rfl ?_
      refine WL.q (Y.or (b := false) (.pl rfl) (fun h2 => (gabsO hg7 h2).elim)) rfl ?_
      refine WL.q (Y.move (.pl rfl)) rfl ?_
      refine WL.g (.pl rfl rfl rfl) (fun hg => Y.move (.pl rfl)) rfl ?_
      refine WL.g (.pl rfl rfl rfl) (fun hg => Y.lss (.gd (hg) rfl) (.pl rfl)) rfl ?_
      refine WL.q (Y.or (.pl rfl) (fun h2 => .gd (eqf h2) rfl)) rfl ?_
      refine WL.q (Y.move (.pl rfl)) rfl ?_
      refine WL.g (.pl rfl rfl rfl) (fun hg => Y.move (.pl rfl)) rfl ?_
      refine WL.g (.pl rfl rfl rfl) (fun hg => Y.move (.pl rfl)) rfl ?_
      refine WL.g (.pl rfl rfl rfl) (fun hg => Y.len Try.underlying52 (.gd (hg) rfl)) rfl ?_
      refine WL.g (.pl rfl rfl rfl) (fun hg => Y.gtr (.gd (hg) rfl) (.gd (hg) rfl)) rfl ?_
      refine WL.q (Y.or (.pl rfl) (fun h2 => .gd (eqf h2) rfl)) rfl ?_
      refine WL.nil ?_
      exact W.joinAt1 hK6 ((((!r11) || false) || (decide (n6 < 0))) || (decide (((l1).length : Int) < n6))) (Option.some.inj hF5) (.cons rfl (.nil)) (.cons (i := 0) rfl (.cons (i := 1) rfl (.cons (i := 5) rfl (.cons (i := 7) rfl (.cons (i := 8) rfl (.nil)))))) (fun w hw => hw.pick [0] rfl)
  · -- behind
    rintro v10 rfl
    refine W.cond (.pl rfl) (fun hC8 => ?_) (fun hC8 => ?_)
    · replace hF := cpos hC8 hF
      -- region 4: serial.go:83
      refine W.seqR fun Q9 hQ9 => ?_
      obtain ⟨r14, hr14, hF⟩ := bnd hF
      refine WL.step (WO.callP isGo34 (.nil) rfl (fun w hw => alibkeep_serialLives_ok (hr14) w ) ?_)
      refine WL.q (Y.assign (.pl rfl)) rfl ?_
      refine WL.next hQ9 (.cons (i := 4) rfl (.nil)) ?_
      obtain rfl := Option.some.inj hF
      refine W.retV (fn := Try.f13) (vs := [.bool r14]) Try.results13 ⟨.tmp rfl, trivial⟩ (fun _ _ h => h) (fun w hw => ?_)
      exact hR _ _ ⟨rfl, (hw.pick [] rfl)⟩
    · replace hF := cneg hC8 hF
      refine W.skip ?_
      refine W.go hK4 (.cons (i := 0) rfl (.cons (i := 1) rfl (.cons (i := 5) rfl (.cons (i := 7) rfl (.cons (i := 8) rfl (.nil)))))) ?_
      -- region 5: serial.go:85
      refine W.seqR fun Q10 hQ10 => ?_
      refine WL.q (Y.move (.pl rfl)) rfl ?_
      refine WL.q (Y.move (.pl rfl)) rfl ?_
      obtain ⟨hk15, hF⟩ := ckh hF
      refine WL.q (Y.slice0 (xs := l1) Try.underlying52 cells60 (.pl rfl) rfl (hs4).cap_le (.pl rfl) (hk15)) rfl ?_
      obtain ⟨r16, hr16, hF⟩ := bnd hF
      refine WL.step (WO.callP isGo35 (.cons (.pl rfl) (.nil)) rfl (fun w hw => serial_Graph_ok (hr16) w ((SlIn.sub0 hs4 (slB_nat0 (hk15))).mono hw)) ?_)
      refine WL.q (Y.move (.pl rfl)) rfl ?_
      refine WL.q (Y.extract (.pl rfl) rfl) rfl ?_
      refine WL.q (Y.extract (.pl rfl) rfl) rfl ?_
      refine WL.step (WO.alloc (cs := (encRel (Rel.mk 0 [])).toArray) zero25 rfl rfl fun b17 => ?_)
      refine WL.step (WO.storeBA (ds := (encRel (Rel.mk r16.1 r16.2.1))) (cs' := (encRel (Rel.mk r16.1 r16.2.1))) cells25 (.pl rfl) (.pl rfl) rfl (oneRel _) (i := 0) rfl (lel (o := 0) (l := 13) (m := 13) (by decide) rfl rfl) (putW rfl) ?_)
      refine WL.q (Y.assign (.pl rfl)) rfl ?_
      refine WL.next hQ10 (.cons (i := 0) rfl (.cons (i := 1) rfl (.cons (i := 5) rfl (.cons (i := 7) rfl (.cons (i := 8) rfl (.cons (i := 10) rfl (.cons (i := 11) rfl (.nil)))))))) ?_
      -- region 6: serial.go:86
      refine W.seqR fun Q11 hQ11 => ?_
      refine WL.q (Y.move (.pl rfl)) rfl ?_
      refine WL.q (Y.move (.pl rfl)) rfl ?_
      obtain ⟨hk18, hF⟩ := ckh hF
      refine WL.q (Y.slice0 (xs := l1) Try.underlying52 cells60 (.pl rfl) rfl (hs4).cap_le (.pl rfl) (hk18)) rfl ?_
      obtain ⟨r19, hr19, hF⟩ := bnd hF
      refine WL.step (WO.callP isGo32 (.cons (.pl rfl) (.nil)) rfl (fun w hw => serial_Locks_ok (hr19) w ((SlIn.sub0 hs4 (slB_nat0 (hk18))).mono hw)) ?_)
      refine WL.q (Y.move (.pl rfl)) rfl ?_
      refine WL.q (Y.extract (.pl rfl) rfl) rfl ?_
      refine WL.q (Y.extract (.pl rfl) rfl) rfl ?_
      refine WL.q (Y.extract (.pl rfl) rfl) rfl ?_
      refine WL.q (Y.assign (.pl rfl)) rfl ?_
      refine WL.q (Y.assign (.pl rfl)) rfl ?_
      refine WL.q (Y.assign (.pl rfl)) rfl ?_
      refine WL.next hQ11 (.cons (i := 5) rfl (.cons (i := 7) rfl (.cons (i := 8) rfl (.cons (i := 10) rfl (.cons (i := 11) rfl (.cons (i := 12) rfl (.cons (i := 13) rfl (.cons (i := 14) rfl (.nil))))))))) ?_
      obtain ⟨o12, hF12, hF⟩ := bnd hF
      refine W.join0 (Em := []) (M := [cBx b8 25 (encRel (Rel.mk r7.1 r7.2.1))]) (I := (.inl ()) = o12) (.cons (i := 5) rfl (.cons (i := 7) rfl (.cons (i := 8) rfl (.cons (i := 11) rfl (.cons (i := 12) rfl (.cons (i := 13) rfl (.cons (i := 14) rfl (.nil)))))))) (fun K13 hK13 => ?_) ?_
      · -- up to
        -- region 7: serial.go:87
        refine W.seqR fun Q14 hQ14 => ?_
        refine WL.q (Y.move (.pl rfl)) rfl ?_
        refine WL.next hQ14 (.cons (i := 5) rfl (.cons (i := 7) rfl (.cons (i := 8) rfl (.cons (i := 10) rfl (.cons (i := 11) rfl (.cons (i := 12) rfl (.cons (i := 13) rfl (.cons (i := 14) rfl (.cons (i := 62) rfl (.nil)))))))))) ?_
        refine W.block ?_
        refine W.loop1 (Em := fun (v20 : Int) => [(62, .int .i64 v20)]) (M := fun v20 => [cBx b8 25 (encRel (Rel.mk r7.1 r7.2.1)), cBx b17 25 (encRel (Rel.mk r16.1 r16.2.1))]) (I := fun v20 k15 => iter (alibkeep_SerialFront_L3 N r16 r7) k15 v20 = some o12) 0 N (hF12) (.cons rfl (.nil)) (.cons (i := 5) rfl (.cons (i := 7) rfl (.cons (i := 8) rfl (.cons (i := 10) rfl (.cons (i := 11) rfl (.cons (i := 12) rfl (.cons (i := 13) rfl (.cons (i := 14) rfl (.nil))))))))) (fun w hw => hw.pick [1, 0] rfl) (fun v20 k15 hI K16 hK16 => ?_)
        obtain ⟨k15, t15, rfl, hF15, hN15⟩ := iter_step hI
        -- region 8: serial.go:87
        refine W.seqR fun Q17 hQ17 => ?_
        refine WL.q (Y.lss (.pl rfl) (.pl rfl)) rfl ?_
        refine WL.next hQ17 (.cons (i := 5) rfl (.cons (i := 7) rfl (.cons (i := 8) rfl (.cons (i := 10) rfl (.cons (i := 11) rfl (.cons (i := 12) rfl (.cons (i := 13) rfl (.cons (i := 14) rfl (.cons (i := 62) rfl (.cons (i := 63) rfl (.nil))))))))))) ?_
        refine W.seq fun K18 hK18 => ?_
        refine W.cond (.pl rfl) (fun hC19 => ?_) (fun hC19 => ?_)
        · replace hF15 := cpos hC19 hF15
          refine W.skip ?_
          refine W.go hK18 (.cons (i := 5) rfl (.cons (i := 7) rfl (.cons (i := 8) rfl (.cons (i := 10) rfl (.cons (i := 11) rfl (.cons (i := 12) rfl (.cons (i := 13) rfl (.cons (i := 14) rfl (.cons (i := 62) rfl (.nil)))))))))) ?_
          refine W.seq fun K20 hK20 => ?_
          refine W.block ?_
          -- region 9: serial.go:87
          refine W.seqR fun Q21 hQ21 => ?_
          refine WL.q (Y.move (.pl rfl)) rfl ?_
          refine WL.q (Y.assign (.pl rfl)) rfl ?_
          refine WL.next hQ21 (.cons (i := 5) rfl (.cons (i := 7) rfl (.cons (i := 8) rfl (.cons (i := 10) rfl (.cons (i := 11) rfl (.cons (i := 12) rfl (.cons (i := 13) rfl (.cons (i := 14) rfl (.cons (i := 15) rfl (.cons (i := 62) rfl (.nil))))))))))) ?_
          -- region 10: serial.go:88
          refine W.seqD (by kernel_rfl) (by kernel_rfl) fun R22 hR22 => ?_
          refine WD.q (Y.move (.pl rfl)) rfl ?_
          refine WD.q (Y.fieldAddr0 (off := 1) (ft := 23) Try.underlying25 rfl cells23 (.pl rfl)) rfl ?_
          obtain ⟨x21, hx21, hF15⟩ := bnd hF15
          refine WD.q (Y.arrZ Try.underlying23 cells22 (.pl rfl) (.pl rfl) (ax_lt (hx21))) rfl ?_
          refine WD.q (Y.loadB (v := .int .u16 x21) Try.underlying22 rfl (.pl rfl) (i := 1) rfl (cellsA (pre := (Value.int .i64 r16.1 :: [])) (off := 1) (post := []) (a := r16.2.1) (enc := (eI .u16)) (d := 0) (n := 12) (sz := 1) (j := 0) (fun _ => rfl) rfl (ax_nat (hx21)) (ax_get (hx21)) rfl)) rfl ?_
          refine WD.q (Y.move (.pl rfl)) rfl ?_
          refine WD.q (Y.fieldAddr0 (off := 1) (ft := 23) Try.underlying25 rfl cells23 (.pl rfl)) rfl ?_
          obtain ⟨x22, hx22, hF15⟩ := bnd hF15
          refine WD.q (Y.arrZ Try.underlying23 cells22 (.pl rfl) (.pl rfl) (ax_lt (hx22))) rfl ?_
          refine WD.q (Y.loadB (v := .int .u16 x22) Try.underlying22 rfl (.pl rfl) (i := 0) rfl (cellsA (pre := (Value.int .i64 r7.1 :: [])) (off := 1) (post := []) (a := r7.2.1) (enc := (eI .u16)) (d := 0) (n := 12) (sz := 1) (j := 0) (fun _ => rfl) rfl (ax_nat (hx22)) (ax_get (hx22)) rfl)) rfl ?_
          refine WD.q (Y.bclr (.pl rfl) (.pl rfl)) rfl ?_
          refine WD.q (Y.neq (.pl rfl) (.pl rfl)) rfl ?_
          refine WD.next hR22 (.cons (i := 5) rfl (.cons (i := 7) rfl (.cons (i := 8) rfl (.cons (i := 10) rfl (.cons (i := 11) rfl (.cons (i := 12) rfl (.cons (i := 13) rfl (.cons (i := 14) rfl (.cons (i := 62) rfl (.cons (i := 74) rfl (.nil))))))))))) ?_
          refine W.cond (.pl rfl) (fun hC23 => ?_) (fun hC23 => ?_)
          · replace hF15 := cpos hC23 hF15
            -- region 11: serial.go:89
            refine W.seqR fun Q24 hQ24 => ?_
            refine WL.q (Y.assign (.pl rfl)) rfl ?_
            refine WL.next hQ24 (.cons (i := 4) rfl (.nil)) ?_
            obtain rfl := Option.some.inj hF15
            obtain rfl := einr hN15
            obtain rfl := Option.some.inj hF
            refine W.retV (fn := Try.f13) (vs := [.bool false]) Try.results13 ⟨.tmp rfl, trivial⟩ (fun _ _ h => h) (fun w hw => ?_)
            exact hR _ _ ⟨rfl, (hw.pick [] rfl)⟩
          · replace hF15 := cneg hC23 hF15
            refine W.skip ?_
            refine W.go hK20 (.cons (i := 5) rfl (.cons (i := 7) rfl (.cons (i := 8) rfl (.cons (i := 10) rfl (.cons (i := 11) rfl (.cons (i := 12) rfl (.cons (i := 13) rfl (.cons (i := 14) rfl (.cons (i := 62) rfl (.nil)))))))))) ?_
            -- region 12: serial.go:87
            refine W.reg ?_
            obtain ⟨hk23, hF15⟩ := ckh hF15
            refine WL.q (Y.add (.pl rfl) (.pl rfl) (ok64_lt (hk23))) rfl ?_
            refine WL.q (Y.move (.pl rfl)) rfl ?_
            refine WL.nil ?_
            obtain rfl := Option.some.inj hF15
            exact W.again1 hK16 (v20 + 1) k15 hN15 (Nat.lt_succ_self _) (.cons rfl (.nil)) (.cons (i := 5) rfl (.cons (i := 7) rfl (.cons (i := 8) rfl (.cons (i := 10) rfl (.cons (i := 11) rfl (.cons (i := 12) rfl (.cons (i := 13) rfl (.cons (i := 14) rfl (.nil))))))))) (fun w hw => hw.pick [0, 1] rfl)
        · replace hF15 := cneg hC19 hF15
          refine W.exit ?_
          obtain rfl := Option.some.inj hF15
          exact W.joinAt0 hK13  (einr hN15) (.nil) (.cons (i := 5) rfl (.cons (i := 7) rfl (.cons (i := 8) rfl (.cons (i := 11) rfl (.cons (i := 12) rfl (.cons (i := 13) rfl (.cons (i := 14) rfl (.nil)))))))) (fun w hw => hw.pick [0] rfl)
      · -- behind
        rintro  rfl
        -- region 13: serial.go:92
        refine W.seqR fun Q26 hQ26 => ?_
        refine WL.q (Y.move (.pl rfl)) rfl ?_
        refine WL.q (Y.move (.pl rfl)) rfl ?_
        refine WL.step (WO.bsliceC (enc := (eI .i64)) (ys := ([r16.2.2, r19.2.2] : List Int)) Try.underlying75 bz26 (.cons (.pl rfl) (.cons (.pl rfl) (.nil))) rfl (fun _ => rfl) rfl rfl (by decide) (by decide) rfl fun b24 => ?_)
        obtain ⟨r25, hr25, hF⟩ := bnd hF
        refine WL.step (WO.callP isGo20 (.cons (.pl rfl) (.nil)) rfl (fun w hw => alibkeep_ok_ok (hr25) w (SlIn.ofRow (fun _ => rfl) hw (i := 0) rfl)) ?_)
        refine WL.q (Y.move (.pl rfl)) rfl ?_
        refine WL.g (.pl rfl rfl rfl) (fun hg => Y.move (.pl rfl)) rfl ?_
        refine WL.g (.pl rfl rfl rfl) (fun hg => Y.not (.gd (hg) rfl)) rfl ?_
        refine WL.g (.pl rfl rfl rfl) (fun hg => Y.move (.gd (hg) rfl)) rfl ?_
        refine WL.g (.gd rfl rfl rfl) (fun hg => Y.move (.pl rfl)) rfl ?_
        refine WL.g (.pl rfl rfl rfl) (fun hg => Y.or (.gd (hg) rfl) (fun h2 => .gd (band hg (eqf h2)) rfl)) rfl ?_
        refine WL.q (Y.and (.pl rfl) (fun h2 => .gd (eqt h2) rfl)) rfl ?_
        refine WL.q (Y.move (.pl rfl)) rfl ?_
        refine WL.g (.pl rfl rfl rfl) (fun hg => Y.move (.pl rfl)) rfl ?_
        refine WL.g (.pl rfl rfl rfl) (fun hg => Y.not (.gd (hg) rfl)) rfl ?_
        refine WL.g (.pl rfl rfl rfl) (fun hg => Y.move (.gd (hg) rfl)) rfl ?_
        refine WL.g (.gd rfl rfl rfl) (fun hg => Y.move (.pl rfl)) rfl ?_
        refine WL.g (.pl rfl rfl rfl) (fun hg => Y.or (.gd (hg) rfl) (fun h2 => .gd (band hg (eqf h2)) rfl)) rfl ?_
        refine WL.q (Y.and (.pl rfl) (fun h2 => .gd (eqt h2) rfl)) rfl ?_
        refine WL.q (Y.move (.pl rfl)) rfl ?_
        refine WL.g (.pl rfl rfl rfl) (fun hg => Y.loadBA (ds := (encRel (Rel.mk r7.1 r7.2.1))) Try.underlying25 rfl cells25 (.pl rfl) (i := 1) rfl rfl subW) rfl ?_
        obtain ⟨r26, hr26, hF⟩ := bnd hF
        refine WL.gP (.pl rfl rfl rfl) isGo29 (fun hg => (.cons (.gd (hg) rfl) (.nil))) rfl (fun hg w hw => order_Check_ok (gpos hg hr26) w ) ?_
        refine WL.g (.pl rfl rfl rfl) (fun hg => Y.eql (.gd (hg) rfl) (.pl rfl)) rfl ?_
        refine WL.q (Y.and (.pl rfl) (fun h2 => .gd (eqt h2) rfl)) rfl ?_
        refine WL.q (Y.assign (.pl rfl)) rfl ?_
        refine WL.next hQ26 (.cons (i := 4) rfl (.nil)) ?_
        obtain rfl := Option.some.inj hF
        refine W.retV (fn := Try.f13) (vs := [.bool (((r25 && ((!r9.1) || r19.1)) && ((!r9.2.1) || r19.2.1)) && (decide (r26 = 0)))]) Try.results13 ⟨.tmp rfl, trivial⟩ (fun _ _ h => h) (fun w hw => ?_)
        exact hR _ _ ⟨rfl, (hw.pick [] rfl)⟩

/-- slices.Clone -/
theorem slices_Clone_api_Deed_api_Deed_ok {xs : List Deed} (hb : limB 24 xs.length = true) (w : World) {v : Value} (h : SlIn encDeed 3 w v xs) :
    Made Try.prog 36 [v] w (fun g : Option Addr × Nat => .slice g.1 xs.length g.2) (fun g => [cR encDeed 3 g.1 g.2 60 xs]) (fun _ => True) := by
  obtain ⟨A1, c1, rfl, hc1, hs⟩ := h.form
  refine W.enter (n := 8) Try.func36 rfl rfl Sub.refl (by simp) (St.start w) fun R hR => ?_
  refine W.seqR fun Q1 hQ1 => ?_
  refine WL.q (Y.assign (.pl rfl)) rfl ?_
  refine WL.next hQ1 (.cons (i := 0) rfl (.nil)) ?_
  refine W.seq fun K2 hK2 => ?_
  refine W.seqR fun Q3 hQ3 => ?_
  refine WL.q (Y.move (.pl rfl)) rfl ?_
  refine WL.q (Y.eqNil Try.underlying52 (.pl rfl)) rfl ?_
  refine WL.next hQ3 (.cons (i := 0) rfl (.cons (i := 4) rfl (.nil))) ?_
  refine W.cond (.pl rfl) (fun hC => ?_) (fun hC => ?_)
  · refine W.seqR fun Q4 hQ4 => ?_
    refine WL.q (Y.assign (.pl rfl)) rfl ?_
    refine WL.next hQ4 (.cons (i := 2) rfl (.nil)) ?_
    have hx : xs = [] := by
      cases xs with
      | nil => rfl
      | cons a r =>
        have := (hs.okA' (idx := 0) ⟨Int.le_refl _, by simp⟩).1
        rw [Option.isNone_iff_eq_none] at hC
        rw [hC] at this; cases this
    subst hx
    refine W.retV (fn := Try.f36) (vs := [.slice none 0 0]) Try.results36 ⟨.tmp rfl, trivial⟩ (fun _ _ h => h) (fun w hw => ?_)
    exact hR _ _ ⟨(none, 0), trivial, rfl, St.nilR hw encDeed 3 60⟩
  · refine W.skip ?_
    refine W.go hK2 (.cons (i := 0) rfl (.nil)) ?_
    obtain ⟨a1, rfl⟩ : ∃ a, A1 = some a := by cases A1 with
      | none => cases hC
      | some a => exact ⟨a, rfl⟩
    refine W.seqR fun Q5 hQ5 => ?_
    refine WL.step (WO.bsliceC (enc := encDeed) (ys := []) Try.underlying52 bz60 (.nil) rfl lenDeed rfl rfl (by decide) (by decide) rfl fun b => ?_)
    refine WL.q (Y.move (.pl rfl)) rfl ?_
    refine WL.step (WO.appendS (enc := encDeed) (ys := xs) (xs := []) Try.underlying52 ap60 lenDeed oneDeed (.pl rfl) rfl (.pl rfl) (i := 0) rfl (fun w hw => hs.mono hw) (by simpa using hb) rfl fun A c => ?_)
    refine WL.q (Y.assign (.pl rfl)) rfl ?_
    refine WL.next hQ5 (.cons (i := 2) rfl (.nil)) ?_
    refine W.retV (fn := Try.f36) (vs := [.slice A xs.length c]) Try.results36 ⟨.tmp rfl, trivial⟩ (fun _ _ h => h) (fun w hw => ?_)
    exact hR _ _ ⟨(A, c), trivial, rfl, hw⟩

def alibkeep_SerialSwap (N : Nat) (l1 : (List Deed)) (k6 : Int) : Option Bool :=
  bd (serial_Graph N l1) fun (r7 : (Int × (List Int) × Int)) =>
  bd (alibkeep_serialLives N) fun (r9 : Bool) =>
  ck (!((((!r9) || (!(decide (r7.2.2 = 0)))) || (decide (k6 < 0))) == false) || (ok64 (((l1).length : Int) - 1))) <|
  bd ((cond (((((!r9) || (!(decide (r7.2.2 = 0)))) || (decide (k6 < 0))) || (decide ((((l1).length : Int) - 1) ≤ k6))) == false) (ix l1 k6) (some Deed.z))) fun (x11 : Deed) =>
  ck (!(((((!r9) || (!(decide (r7.2.2 = 0)))) || (decide (k6 < 0))) || (decide ((((l1).length : Int) - 1) ≤ k6))) == false) || (ok64 (k6 + 1))) <|
  bd ((cond (((((!r9) || (!(decide (r7.2.2 = 0)))) || (decide (k6 < 0))) || (decide ((((l1).length : Int) - 1) ≤ k6))) == false) (ix l1 (k6 + 1)) (some Deed.z))) fun (x13 : Deed) =>
  cond (((((!r9) || (!(decide (r7.2.2 = 0)))) || (decide (k6 < 0))) || (decide ((((l1).length : Int) - 1) ≤ k6))) || (decide (x11.who = x13.who)))
    (bd (alibkeep_serialLives N) fun (r14 : Bool) =>
    some r14)
    (bd (α := (Int × Int × Int × Int × Int × Int)) (bd (ix l1 k6) fun (x23 : Deed) =>
      ck (ok64 (k6 + 1)) <|
      bd (ix l1 (k6 + 1)) fun (x25 : Deed) =>
      some (x23.who, x23.kind, x23.item, x25.who, x25.kind, x25.item)) <|
    fun (Who16, Kind17, Item18, Who20, Kind21, Item22) => 
      cond ((((decide (Item18 = Item22)) && (decide (Kind17 ≤ 1))) && (decide (Kind21 ≤ 1))) && ((decide (Kind17 = 1)) || (decide (Kind21 = 1))))
        (some true)
        (ck (limB 24 (l1).length) <|
        ck (ok64 (k6 + 1)) <|
        bd (ix l1 k6) fun (x34 : Deed) =>
        bd (ix (l1.set k6.toNat (Deed.mk Who20 Kind21 Item22)) (k6 + 1)) fun (x35 : Deed) =>
        bd (serial_Graph N ((l1.set k6.toNat (Deed.mk Who20 Kind21 Item22)).set (k6 + 1).toNat (Deed.mk Who16 Kind17 Item18))) fun (r36 : (Int × (List Int) × Int)) =>
        some ((decide (r36.2.2 = 0)) && (decide (r36.1 = r7.1) && eqA 12 r36.2.1 r7.2.1))))

theorem alibkeep_SerialSwap_ok {N : Nat} {l1 : (List Deed)} {k6 : Int} {res : Bool} (hF : alibkeep_SerialSwap N l1 k6 = some res) (w : World) {v5 : Value} (hs4 : SlIn encDeed 3 w v5 l1) :
    Pure Try.prog 14 [v5, .int .i64 k6] w (.bool res) := by
  obtain ⟨A2, c3, rfl, hcc3, hs4⟩ := hs4.form
  refine W.enter (n := 106) Try.func14 rfl rfl Sub.refl (by simp) (St.start w) fun R hR => ?_
  unfold alibkeep_SerialSwap at hF
  -- region 0: serial.go:63
  refine W.seqR fun Q1 hQ1 => ?_
  refine WL.q (Y.assign (.pl rfl)) rfl ?_
  refine WL.next hQ1 (.cons (i := 0) rfl (.cons (i := 1) rfl (.nil))) ?_
  -- region 1: serial.go:64
  refine W.seqR fun Q2 hQ2 => ?_
  refine WL.q (Y.move (.pl rfl)) rfl ?_
  obtain ⟨r7, hr7, hF⟩ := bnd hF
  refine WL.step (WO.callP isGo35 (.cons (.pl rfl) (.nil)) rfl (fun w hw => serial_Graph_ok (hr7) w (hs4.mono hw)) ?_)
  refine WL.q (Y.move (.pl rfl)) rfl ?_
  refine WL.q (Y.extract (.pl rfl) rfl) rfl ?_
  refine WL.q (Y.extract (.pl rfl) rfl) rfl ?_
  refine WL.step (WO.alloc (cs := (encRel (Rel.mk 0 [])).toArray) zero25 rfl rfl fun b8 => ?_)
  refine WL.step (WO.storeBA (ds := (encRel (Rel.mk r7.1 r7.2.1))) (cs' := (encRel (Rel.mk r7.1 r7.2.1))) cells25 (.pl rfl) (.pl rfl) rfl (oneRel _) (i := 0) rfl (lel (o := 0) (l := 13) (m := 13) (by decide) rfl rfl) (putW rfl) ?_)
  refine WL.q (Y.assign (.pl rfl)) rfl ?_
  refine WL.next hQ2 (.cons (i := 0) rfl (.cons (i := 1) rfl (.cons (i := 5) rfl (.cons (i := 6) rfl (.nil))))) ?_
  refine W.seq fun K3 hK3 => ?_
  -- region 2: serial.go:65
  refine W.seqD (by kernel_rfl) (by kernel_rfl) fun R4 hR4 => ?_
  obtain ⟨r9, hr9, hF⟩ := bnd hF
  refine WD.callP isGo34 (.nil) rfl (fun w hw => alibkeep_serialLives_ok (hr9) w ) ?_
  refine WD.q (Y.not (.pl rfl)) rfl ?_
  refine WD.q (Y.move (.pl rfl)) rfl ?_
  refine WD.g (.pl rfl rfl rfl) (fun hg => Y.move (.pl rfl)) rfl ?_
  refine WD.g (.pl rfl rfl rfl) (fun hg => Y.neq (.gd (hg) rfl) (.pl rfl)) rfl ?_
  refine WD.q (Y.or (.pl rfl) (fun h2 => .gd (eqf h2) rfl)) rfl ?_
  refine WD.q (Y.move (.pl rfl)) rfl ?_
  refine WD.g (.pl rfl rfl rfl) (fun hg => Y.move (.pl rfl)) rfl ?_
  refine WD.g (.pl rfl rfl rfl) (fun hg => Y.lss (.gd (hg) rfl) (.pl rfl)) rfl ?_
  refine WD.q (Y.or (.pl rfl) (fun h2 => .gd (eqf h2) rfl)) rfl ?_
  refine WD.q (Y.move (.pl rfl)) rfl ?_
  refine WD.g (.pl rfl rfl rfl) (fun hg => Y.move (.pl rfl)) rfl ?_
  refine WD.g (.pl rfl rfl rfl) (fun hg => Y.move (.pl rfl)) rfl ?_
  refine WD.g (.pl rfl rfl rfl) (fun hg => Y.len Try.underlying52 (.gd (hg) rfl)) rfl ?_
  obtain ⟨hk10, hF⟩ := ckh hF
  refine WD.g (.pl rfl rfl rfl) (fun hg => Y.sub (.gd (hg) rfl) (.pl rfl) (ok64_lt (gor hg hk10))) rfl ?_
  refine WD.g (.pl rfl rfl rfl) (fun hg => Y.geq (.gd (hg) rfl) (.gd (hg) rfl)) rfl ?_
  refine WD.q (Y.or (.pl rfl) (fun h2 => .gd (eqf h2) rfl)) rfl ?_
  refine WD.q (Y.move (.pl rfl)) rfl ?_
  refine WD.g (.pl rfl rfl rfl) (fun hg => Y.move (.pl rfl)) rfl ?_
  refine WD.g (.pl rfl rfl rfl) (fun hg => Y.move (.pl rfl)) rfl ?_
  obtain ⟨x11, hx11, hF⟩ := bnd hF
  refine WD.g (.pl rfl rfl rfl) (fun hg => Y.slEl Try.underlying52 cells60 hs4 (.gd (hg) rfl) (.gd (hg) rfl) (ix_lt (gpos hg hx11))) rfl ?_
  refine WD.g (.pl rfl rfl rfl) (fun hg => Y.slField (off := 0) (ft := 3) Try.underlying60 rfl cells3 (hs4) (ix_lt (gpos hg hx11)) (.gd (hg) rfl)) rfl ?_
  refine WD.g (.pl rfl rfl rfl) (fun hg => Y.loadS (enc := encDeed) (v := .int .i64 x11.who) (j := 0) Try.underlying3 rfl hs4 (.gd (hg) rfl) (gpos hg hx11) rfl rfl) rfl ?_
  refine WD.g (.pl rfl rfl rfl) (fun hg => Y.move (.pl rfl)) rfl ?_
  refine WD.g (.pl rfl rfl rfl) (fun hg => Y.move (.pl rfl)) rfl ?_
  obtain ⟨hk12, hF⟩ := ckh hF
  refine WD.g (.pl rfl rfl rfl) (fun hg => Y.add (.gd (hg) rfl) (.pl rfl) (ok64_lt (gor hg hk12))) rfl ?_
  obtain ⟨x13, hx13, hF⟩ := bnd hF
  refine WD.g (.pl rfl rfl rfl) (fun hg => Y.slEl Try.underlying52 cells60 hs4 (.gd (hg) rfl) (.gd (hg) rfl) (ix_lt (gpos hg hx13))) rfl ?_
  refine WD.g (.pl rfl rfl rfl) (fun hg => Y.slField (off := 0) (ft := 3) Try.underlying60 rfl cells3 (hs4) (ix_lt (gpos hg hx13)) (.gd (hg) rfl)) rfl ?_
  refine WD.g (.pl rfl rfl rfl) (fun hg => Y.loadS (enc := encDeed) (v := .int .i64 x13.who) (j := 0) Try.underlying3 rfl hs4 (.gd (hg) rfl) (gpos hg hx13) rfl rfl) rfl ?_
  refine WD.g (.pl rfl rfl rfl) (fun hg => Y.eql (.gd (hg) rfl) (.gd (hg) rfl)) rfl ?_
  refine WD.q (Y.or (.pl rfl) (fun h2 => .gd (eqf h2) rfl)) rfl ?_
  refine WD.next hR4 (.cons (i := 0) rfl (.cons (i := 1) rfl (.cons (i := 5) rfl (.cons (i := 47) rfl (.nil))))) ?_
  refine W.cond (.pl rfl) (fun hC5 => ?_) (fun hC5 => ?_)
  · replace hF := cpos hC5 hF
    -- region 3: serial.go:66
    refine W.seqR fun Q6 hQ6 => ?_
    obtain ⟨r14, hr14, hF⟩ := bnd hF
    refine WL.step (WO.callP isGo34 (.nil) rfl (fun w hw => alibkeep_serialLives_ok (hr14) w ) ?_)
    refine WL.q (Y.assign (.pl rfl)) rfl ?_
    refine WL.next hQ6 (.cons (i := 4) rfl (.nil)) ?_
    obtain rfl := Option.some.inj hF
    refine W.retV (fn := Try.f14) (vs := [.bool r14]) Try.results14 ⟨.tmp rfl, trivial⟩ (fun _ _ h => h) (fun w hw => ?_)
    exact hR _ _ ⟨rfl, (hw.pick [] rfl)⟩
  · replace hF := cneg hC5 hF
    refine W.skip ?_
    refine W.go hK3 (.cons (i := 0) rfl (.cons (i := 1) rfl (.cons (i := 5) rfl (.nil)))) ?_
    obtain ⟨o7, hF7, hF⟩ := bnd hF
    refine W.join8 (Em := fun (Who16 : Int) (Kind17 : Int) (Item18 : Int) (Who20 : Int) (Kind21 : Int) (Item22 : Int) (b15 : Nat) (b19 : Nat) => [(7, .pointer (some ⟨b15, 0, none⟩)), (8, .pointer (some ⟨b19, 0, none⟩))]) (M := fun Who16 Kind17 Item18 Who20 Kind21 Item22 b15 b19 => [cBx b8 25 (encRel (Rel.mk r7.1 r7.2.1)), cBx b15 60 (encDeed (Deed.mk Who16 Kind17 Item18)), cBx b19 60 (encDeed (Deed.mk Who20 Kind21 Item22))]) (I := fun Who16 Kind17 Item18 Who20 Kind21 Item22 b15 b19 => (Who16, Kind17, Item18, Who20, Kind21, Item22) = o7) (.cons (i := 0) rfl (.cons (i := 1) rfl (.cons (i := 5) rfl (.nil)))) (fun K8 hK8 => ?_) ?_
    · -- up to
      -- region 4: serial.go:68
      refine W.regX 12 (by kernel_rfl) ?_
      refine WX.pure 0 #[true, false, false, false, false, false, false, false, false, false, false, false, false] rfl (by kernel_rfl) (fun _ _ => Y.move (.pl rfl)) rfl ?_
      refine WX.pure 1 #[true, true, false, false, false, false, false, false, false, false, false, false, false] rfl (by kernel_rfl) (fun _ _ => Y.move (.pl rfl)) rfl ?_
      obtain ⟨x23, hx23, hF7⟩ := bnd hF7
      refine WX.take 2 #[true, true, true, false, false, false, false, false, false, false, false, false, false] (fun w hw => St.tail [] hw) rfl (by kernel_rfl) (Y.slEl Try.underlying52 cells60 hs4 (.pl rfl) (.pl rfl) (ix_lt (hx23))) rfl ?_
      refine WX.take 3 #[true, true, true, true, false, false, false, false, false, false, false, false, false] (fun w hw => St.tail [] hw) rfl (by kernel_rfl) (Y.loadSA (enc := encDeed) (ds := (encDeed x23)) (j := 0) Try.underlying60 rfl cells60 hs4 (.pl rfl) (hx23) rfl rfl subW) rfl ?_
      refine WX.pure 4 #[true, true, true, true, true, false, false, false, false, false, false, false, false] rfl (by kernel_rfl) (fun _ _ => Y.move (.pl rfl)) rfl ?_
      refine WX.pure 5 #[true, true, true, true, true, true, false, false, false, false, false, false, false] rfl (by kernel_rfl) (fun _ _ => Y.move (.pl rfl)) rfl ?_
      obtain ⟨hk24, hF7⟩ := ckh hF7
      refine WX.pure 6 #[true, true, true, true, true, true, true, false, false, false, false, false, false] rfl (by kernel_rfl) (fun _ _ => Y.add (.pl rfl) (.pl rfl) (ok64_lt (hk24))) rfl ?_
      obtain ⟨x25, hx25, hF7⟩ := bnd hF7
      refine WX.take 7 #[true, true, true, true, true, true, true, true, false, false, false, false, false] (fun w hw => St.tail [] hw) rfl (by kernel_rfl) (Y.slEl Try.underlying52 cells60 hs4 (.pl rfl) (.pl rfl) (ix_lt (hx25))) rfl ?_
      refine WX.take 8 #[true, true, true, true, true, true, true, true, true, false, false, false, false] (fun w hw => St.tail [] hw) rfl (by kernel_rfl) (Y.loadSA (enc := encDeed) (ds := (encDeed x25)) (j := 0) Try.underlying60 rfl cells60 hs4 (.pl rfl) (hx25) rfl rfl subW) rfl ?_
      refine WX.branch [9, 10] (fun w hw => St.tail [] hw) (by kernel_rfl) ⟨?_, ?_, trivial⟩
      · skip
        refine WXI.step #[true, true, true, true, true, true, true, true, true, true, false, false, false] rfl rfl (WO.alloc (cs := (encDeed (Deed.mk 0 0 0)).toArray) zero60 rfl rfl fun b26 => ?_)
        refine WX.one 10 #[true, true, true, true, true, true, true, true, true, true, true, false, false] (fun w hw => St.tail [_] hw) rfl (by kernel_rfl) (WO.alloc (cs := (encDeed (Deed.mk 0 0 0)).toArray) zero60 rfl rfl fun b27 => ?_)
        refine WX.one 11 #[true, true, true, true, true, true, true, true, true, true, true, true, false] (fun w hw => St.tail [_, _] hw) rfl (by kernel_rfl) (WO.storeBA (ds := (encDeed x23)) (cs' := (encDeed x23)) cells60 (.pl rfl) (.pl rfl) rfl (oneDeed _) (i := 1) rfl (lel (o := 0) (l := 3) (m := 3) (by decide) rfl rfl) (putW rfl) ?_)
        refine WX.stop #[true, true, true, true, true, true, true, true, true, true, true, true, true] (fun w hw => St.tail [_, _] hw) rfl (by kernel_rfl) (WO.storeBA (ds := (encDeed x25)) (cs' := (encDeed x25)) cells60 (.pl rfl) (.pl rfl) rfl (oneDeed _) (i := 0) rfl (lel (o := 0) (l := 3) (m := 3) (by decide) rfl rfl) (putW rfl) ?_)
        refine WA.done (by kernel_rfl) ?_
        exact W.joinAt8 hK8 x23.who x23.kind x23.item x25.who x25.kind x25.item b26 b27 (Option.some.inj hF7) (.cons rfl (.cons rfl (.nil))) (.cons (i := 0) rfl (.cons (i := 1) rfl (.cons (i := 5) rfl (.nil)))) (fun w hw => hw.pick [2, 1, 0] rfl)
      · skip
        refine WXI.step #[true, true, true, true, true, true, true, true, true, false, true, false, false] rfl rfl (WO.alloc (cs := (encDeed (Deed.mk 0 0 0)).toArray) zero60 rfl rfl fun b28 => ?_)
        refine WX.one 9 #[true, true, true, true, true, true, true, true, true, true, true, false, false] (fun w hw => St.tail [_] hw) rfl (by kernel_rfl) (WO.alloc (cs := (encDeed (Deed.mk 0 0 0)).toArray) zero60 rfl rfl fun b29 => ?_)
        refine WX.one 11 #[true, true, true, true, true, true, true, true, true, true, true, true, false] (fun w hw => St.tail [_, _] hw) rfl (by kernel_rfl) (WO.storeBA (ds := (encDeed x23)) (cs' := (encDeed x23)) cells60 (.pl rfl) (.pl rfl) rfl (oneDeed _) (i := 0) rfl (lel (o := 0) (l := 3) (m := 3) (by decide) rfl rfl) (putW rfl) ?_)
        refine WX.stop #[true, true, true, true, true, true, true, true, true, true, true, true, true] (fun w hw => St.tail [_, _] hw) rfl (by kernel_rfl) (WO.storeBA (ds := (encDeed x25)) (cs' := (encDeed x25)) cells60 (.pl rfl) (.pl rfl) rfl (oneDeed _) (i := 1) rfl (lel (o := 0) (l := 3) (m := 3) (by decide) rfl rfl) (putW rfl) ?_)
        refine WA.done (by kernel_rfl) ?_
        exact W.joinAt8 hK8 x23.who x23.kind x23.item x25.who x25.kind x25.item b29 b28 (Option.some.inj hF7) (.cons rfl (.cons rfl (.nil))) (.cons (i := 0) rfl (.cons (i := 1) rfl (.cons (i := 5) rfl (.nil)))) (fun w hw => hw.pick [2, 0, 1] rfl)
    · -- behind
      rintro Who16 Kind17 Item18 Who20 Kind21 Item22 b15 b19 rfl
      refine W.seq fun K10 hK10 => ?_
      -- region 5: serial.go:69
      refine W.seqR fun Q11 hQ11 => ?_
      refine WL.q (Y.fieldAddr0 (off := 2) (ft := 3) Try.underlying60 rfl cells3 (.pl rfl)) rfl ?_
      refine WL.q (Y.loadB (v := .int .i64 Item18) Try.underlying3 rfl (.pl rfl) (i := 1) rfl (rfl)) rfl ?_
      refine WL.q (Y.fieldAddr0 (off := 2) (ft := 3) Try.underlying60 rfl cells3 (.pl rfl)) rfl ?_
      refine WL.q (Y.loadB (v := .int .i64 Item22) Try.underlying3 rfl (.pl rfl) (i := 2) rfl (rfl)) rfl ?_
      refine WL.q (Y.eql (.pl rfl) (.pl rfl)) rfl ?_
      refine WL.q (Y.move (.pl rfl)) rfl ?_
      refine WL.g (.pl rfl rfl rfl) (fun hg => Y.fieldAddr0 (off := 1) (ft := 3) Try.underlying60 rfl cells3 (.pl rfl)) rfl ?_
      refine WL.g (.pl rfl rfl rfl) (fun hg => Y.loadB (v := .int .i64 Kind17) Try.underlying3 rfl (.gd (hg) rfl) (i := 1) rfl (rfl)) rfl ?_
      refine WL.g (.pl rfl rfl rfl) (fun hg => Y.leq (.gd (hg) rfl) (.pl rfl)) rfl ?_
      refine WL.q (Y.and (.pl rfl) (fun h2 => .gd (eqt h2) rfl)) rfl ?_
      refine WL.q (Y.move (.pl rfl)) rfl ?_
      refine WL.g (.pl rfl rfl rfl) (fun hg => Y.fieldAddr0 (off := 1) (ft := 3) Try.underlying60 rfl cells3 (.pl rfl)) rfl ?_
      refine WL.g (.pl rfl rfl rfl) (fun hg => Y.loadB (v := .int .i64 Kind21) Try.underlying3 rfl (.gd (hg) rfl) (i := 2) rfl (rfl)) rfl ?_
      refine WL.g (.pl rfl rfl rfl) (fun hg => Y.leq (.gd (hg) rfl) (.pl rfl)) rfl ?_
      refine WL.q (Y.and (.pl rfl) (fun h2 => .gd (eqt h2) rfl)) rfl ?_
      refine WL.q (Y.move (.pl rfl)) rfl ?_
      refine WL.g (.pl rfl rfl rfl) (fun hg => Y.fieldAddr0 (off := 1) (ft := 3) Try.underlying60 rfl cells3 (.pl rfl)) rfl ?_
      refine WL.g (.pl rfl rfl rfl) (fun hg => Y.loadB (v := .int .i64 Kind17) Try.underlying3 rfl (.gd (hg) rfl) (i := 1) rfl (rfl)) rfl ?_
      refine WL.g (.pl rfl rfl rfl) (fun hg => Y.eql (.gd (hg) rfl) (.pl rfl)) rfl ?_
      refine WL.g (.pl rfl rfl rfl) (fun hg => Y.move (.gd (hg) rfl)) rfl ?_
      refine WL.g (.gd rfl rfl rfl) (fun hg => Y.fieldAddr0 (off := 1) (ft := 3) Try.underlying60 rfl cells3 (.pl rfl)) rfl ?_
      refine WL.g (.gd rfl rfl rfl) (fun hg => Y.loadB (v := .int .i64 Kind21) Try.underlying3 rfl (.gd (hg) rfl) (i := 2) rfl (rfl)) rfl ?_
      refine WL.g (.gd rfl rfl rfl) (fun hg => Y.eql (.gd (hg) rfl) (.pl rfl)) rfl ?_
      refine WL.g (.pl rfl rfl rfl) (fun hg => Y.or (.gd (hg) rfl) (fun h2 => .gd (band hg (eqf h2)) rfl)) rfl ?_
      refine WL.q (Y.and (.pl rfl) (fun h2 => .gd (eqt h2) rfl)) rfl ?_
      refine WL.next hQ11 (.cons (i := 0) rfl (.cons (i := 1) rfl (.cons (i := 5) rfl (.cons (i := 7) rfl (.cons (i := 8) rfl (.cons (i := 82) rfl (.nil))))))) ?_
      refine W.cond (.pl rfl) (fun hC12 => ?_) (fun hC12 => ?_)
      · replace hF := cpos hC12 hF
        -- region 6: serial.go:70
        refine W.seqR fun Q13 hQ13 => ?_
        refine WL.q (Y.assign (.pl rfl)) rfl ?_
        refine WL.next hQ13 (.cons (i := 4) rfl (.nil)) ?_
        obtain rfl := Option.some.inj hF
        refine W.retV (fn := Try.f14) (vs := [.bool true]) Try.results14 ⟨.tmp rfl, trivial⟩ (fun _ _ h => h) (fun w hw => ?_)
        exact hR _ _ ⟨rfl, (hw.pick [] rfl)⟩
      · replace hF := cneg hC12 hF
        refine W.skip ?_
        refine W.go hK10 (.cons (i := 0) rfl (.cons (i := 1) rfl (.cons (i := 5) rfl (.cons (i := 7) rfl (.cons (i := 8) rfl (.nil)))))) ?_
        -- region 7: serial.go:72
        refine W.seqR fun Q14 hQ14 => ?_
        refine WL.q (Y.move (.pl rfl)) rfl ?_
        obtain ⟨hk30, hF⟩ := ckh hF
        refine WL.step (WO.callM isGo36 (.cons (.pl rfl) (.nil)) rfl (fun w hw => slices_Clone_api_Deed_api_Deed_ok (hk30) w (hs4.mono hw)) ?_)
        rintro ⟨A31, c32⟩ -
        refine WL.q (Y.assign (.pl rfl)) rfl ?_
        refine WL.next hQ14 (.cons (i := 1) rfl (.cons (i := 5) rfl (.cons (i := 7) rfl (.cons (i := 8) rfl (.cons (i := 9) rfl (.nil)))))) ?_
        -- region 8: serial.go:73
        refine W.know (fun w hw => (hw.row_lim (i := 0) rfl).2.2) (fun hok16 => ?_)
        refine W.seqXK 10 [1, 2, 3] (by kernel_rfl) fun K15 hK15 => ?_
        refine WX.pure 0 #[true, false, false, false, false, false, false, false, false, false, false] rfl (by kernel_rfl) (fun _ _ => Y.move (.pl rfl)) rfl ?_
        refine WX.pure 1 #[true, true, false, false, false, false, false, false, false, false, false] rfl (by kernel_rfl) (fun _ _ => Y.move (.pl rfl)) rfl ?_
        refine WX.pure 2 #[true, true, true, false, false, false, false, false, false, false, false] rfl (by kernel_rfl) (fun _ _ => Y.move (.pl rfl)) rfl ?_
        refine WX.pure 3 #[true, true, true, true, false, false, false, false, false, false, false] rfl (by kernel_rfl) (fun _ _ => Y.move (.pl rfl)) rfl ?_
        obtain ⟨hk33, hF⟩ := ckh hF
        refine WX.pure 4 #[true, true, true, true, true, false, false, false, false, false, false] rfl (by kernel_rfl) (fun _ _ => Y.add (.pl rfl) (.pl rfl) (ok64_lt (hk33))) rfl ?_
        refine WX.take 5 #[true, true, true, true, true, true, false, false, false, false, false] (fun w hw => hw.pick [1, 2, 3] rfl) rfl (by kernel_rfl) (Y.loadBA (ds := (encDeed (Deed.mk Who20 Kind21 Item22))) Try.underlying60 rfl cells60 (.pl rfl) (i := 2) rfl rfl subW) rfl ?_
        refine WX.take 6 #[true, true, true, true, true, true, true, false, false, false, false] (fun w hw => hw.pick [1, 2, 3] rfl) rfl (by kernel_rfl) (Y.loadBA (ds := (encDeed (Deed.mk Who16 Kind17 Item18))) Try.underlying60 rfl cells60 (.pl rfl) (i := 1) rfl rfl subW) rfl ?_
        obtain ⟨x34, hx34, hF⟩ := bnd hF
        refine WX.pure 7 #[true, true, true, true, true, true, true, true, false, false, false] rfl (by kernel_rfl) (fun _ _ => Y.okEl (xs := l1) Try.underlying52 cells60 hok16 (.pl rfl) rfl (.pl rfl) (ix_lt (hx34))) rfl ?_
        refine WX.one 8 #[true, true, true, true, true, true, true, true, true, false, false] (fun w hw => hw.pick [1, 2, 3] rfl) rfl (by kernel_rfl) (WO.storeSA (enc := encDeed) (a' := (Deed.mk Who20 Kind21 Item22)) (idx := k6) cells60 (.pl rfl) (.pl rfl) lenDeed rfl (oneDeed _) (i := 0) rfl (ix_lt (hx34)) rfl ?_)
        obtain ⟨x35, hx35, hF⟩ := bnd hF
        refine WX.pure 9 #[true, true, true, true, true, true, true, true, true, true, false] rfl (by kernel_rfl) (fun _ _ => Y.okEl (xs := (l1.set k6.toNat (Deed.mk Who20 Kind21 Item22))) Try.underlying52 cells60 (by simpa only [List.length_set] using hok16) (.pl rfl) (by simp) (.pl rfl) (ix_lt (hx35))) rfl ?_
        refine WX.stop #[true, true, true, true, true, true, true, true, true, true, true] (fun w hw => hw.pick [1, 2, 3] rfl) rfl (by kernel_rfl) (WO.storeSA (enc := encDeed) (a' := (Deed.mk Who16 Kind17 Item18)) (idx := (k6 + 1)) cells60 (.pl rfl) (.pl rfl) lenDeed rfl (oneDeed _) (i := 0) rfl (ix_lt (hx35)) rfl ?_)
        refine WA.done (by kernel_rfl) ?_
        refine KK.next hK15 (.cons (i := 5) rfl (.cons (i := 9) rfl (.nil))) ?_
        -- region 9: serial.go:74
        refine W.seqR fun Q17 hQ17 => ?_
        refine WL.q (Y.move (.pl rfl)) rfl ?_
        obtain ⟨r36, hr36, hF⟩ := bnd hF
        refine WL.step (WO.callP isGo35 (.cons (.pl rfl) (.nil)) rfl (fun w hw => serial_Graph_ok (hr36) w (SlIn.ofRow lenDeed hw (i := 0) rfl (by simp))) ?_)
        refine WL.q (Y.move (.pl rfl)) rfl ?_
        refine WL.q (Y.extract (.pl rfl) rfl) rfl ?_
        refine WL.q (Y.extract (.pl rfl) rfl) rfl ?_
        refine WL.step (WO.alloc (cs := (encRel (Rel.mk 0 [])).toArray) zero25 rfl rfl fun b37 => ?_)
        refine WL.step (WO.storeBA (ds := (encRel (Rel.mk r36.1 r36.2.1))) (cs' := (encRel (Rel.mk r36.1 r36.2.1))) cells25 (.pl rfl) (.pl rfl) rfl (oneRel _) (i := 0) rfl (lel (o := 0) (l := 13) (m := 13) (by decide) rfl rfl) (putW rfl) ?_)
        refine WL.q (Y.assign (.pl rfl)) rfl ?_
        refine WL.next hQ17 (.cons (i := 5) rfl (.cons (i := 10) rfl (.cons (i := 11) rfl (.nil)))) ?_
        -- region 10: serial.go:75
        refine W.seqR fun Q18 hQ18 => ?_
        refine WL.q (Y.move (.pl rfl)) rfl ?_
        refine WL.q (Y.eql (.pl rfl) (.pl rfl)) rfl ?_
        refine WL.q (Y.move (.pl rfl)) rfl ?_
        refine WL.g (.pl rfl rfl rfl) (fun hg => Y.loadBA (ds := (encRel (Rel.mk r36.1 r36.2.1))) Try.underlying25 rfl cells25 (.pl rfl) (i := 0) rfl rfl subW) rfl ?_
        refine WL.g (.pl rfl rfl rfl) (fun hg => Y.loadBA (ds := (encRel (Rel.mk r7.1 r7.2.1))) Try.underlying25 rfl cells25 (.pl rfl) (i := 2) rfl rfl subW) rfl ?_
        refine WL.g (.pl rfl rfl rfl) (fun hg => Y.eqlG eqg25 (.gd (hg) rfl) (.gd (hg) rfl)) rfl ?_
        refine WL.q (Y.and (.pl rfl) (fun h2 => .gd (eqt h2) rfl)) rfl ?_
        refine WL.q (Y.assign (.pl rfl)) rfl ?_
        refine WL.next hQ18 (.cons (i := 4) rfl (.nil)) ?_
        obtain rfl := Option.some.inj hF
        refine W.retV (fn := Try.f14) (vs := [.bool ((decide (r36.2.2 = 0)) && (decide (r36.1 = r7.1) && eqA 12 r36.2.1 r7.2.1))]) Try.results14 ⟨.tmp rfl, trivial⟩ (fun _ _ h => h) (fun w hw => ?_)
        exact hR _ _ ⟨rfl, (hw.pick [] rfl)⟩

end Go.Proofs.Ytemckhkicfpgeaa
