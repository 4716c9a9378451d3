/- The laws of objects: what their code computes, and the walks. -/
import Derived.Test.YtpakplmpihhmbaaA1
set_option linter.unusedVariables false
set_option linter.unusedSimpArgs false
set_option linter.unusedSectionVars false
set_option maxRecDepth 100000
namespace Go.Proofs.Ytpakplmpihhmbaa
open Go.RowKit
theorem isGo24 : IsGo Try.prog 24 := ⟨_, Try.func24, by kernel_rfl, rfl⟩
theorem isGo29 : IsGo Try.prog 29 := ⟨_, Try.func29, by kernel_rfl, rfl⟩
theorem isGo31 : IsGo Try.prog 31 := ⟨_, Try.func31, by kernel_rfl, rfl⟩
theorem ap28 : ∃ i z, Try.prog.info? 28 = some i ∧ i.zero = some z ∧ i.size = 3 ∧ i.bytes = 24 ∧ z.cells.size = 3 ∧ 0 < 3 := ⟨_, (Value.agg #[(Value.int .i64 0), (Value.int .i64 0), (Value.int .i64 0)]), rfl, by kernel_rfl, by kernel_rfl, by kernel_rfl, by kernel_rfl, by decide⟩
def slices_Equal_int_int_L3 (N : Nat) (s11 : (List Int)) (s26 : (List Int)) : Int → Option (Int ⊕ (Unit ⊕ Bool))
  | v11 =>
    cond (decide (v11 < ((s11).length : Int)))
      (bd (ix s11 v11) fun (x12 : Int) =>
      bd (ix s26 v11) fun (x13 : Int) =>
      cond (!(decide (x12 = x13)))
        (some (.inr (.inr false)))
        (ck (ok64 (v11 + 1)) <|
        some (.inl (v11 + 1))))
      (some (.inr (.inl ())))

def slices_Equal_int_int (N : Nat) (s11 : (List Int)) (s26 : (List Int)) : Option Bool :=
  cond (!(decide (((s11).length : Int) = ((s26).length : Int))))
    (some false)
    (bd (α := (Unit ⊕ Bool)) (iter (slices_Equal_int_int_L3 N s11 s26) N 0) <|
    Sum.elim (fun _ => 
      some true) (fun p => some p))

theorem slices_Equal_int_int_ok {N : Nat} {s11 : (List Int)} {s26 : (List Int)} {res : Bool} (hF : slices_Equal_int_int N s11 s26 = some res) (w : World) {v5 : Value} (hs4 : SlIn (eI .i64) 1 w v5 s11) {v10 : Value} (hs9 : SlIn (eI .i64) 1 w v10 s26) :
    Pure Try.prog 31 [v5, v10] w (.bool res) := by
  obtain ⟨A2, c3, rfl, hcc3, hs4⟩ := hs4.form
  obtain ⟨A7, c8, rfl, hcc8, hs9⟩ := hs9.form
  refine W.enter (n := 26) Try.func31 rfl rfl Sub.refl (by simp) (St.start w) fun R hR => ?_
  unfold slices_Equal_int_int at hF
  -- region 0: slices.go:20
  refine W.seqR fun Q1 hQ1 => ?_
  refine WL.q (Y.assign (.pl rfl)) rfl ?_
  refine WL.next hQ1 (.cons (i := 0) rfl (.cons (i := 1) rfl (.nil))) ?_
  refine W.seq fun K2 hK2 => ?_
  -- region 1: slices.go:21
  refine W.seqR fun Q3 hQ3 => ?_
  refine WL.q (Y.move (.pl rfl)) rfl ?_
  refine WL.q (Y.len Try.underlying22 (.pl rfl)) rfl ?_
  refine WL.q (Y.move (.pl rfl)) rfl ?_
  refine WL.q (Y.len Try.underlying22 (.pl rfl)) rfl ?_
  refine WL.q (Y.neq (.pl rfl) (.pl rfl)) rfl ?_
  refine WL.next hQ3 (.cons (i := 0) rfl (.cons (i := 1) rfl (.cons (i := 10) rfl (.nil)))) ?_
  refine W.cond (.pl rfl) (fun hC4 => ?_) (fun hC4 => ?_)
  · replace hF := cpos hC4 hF
    -- region 2: slices.go:22
    refine W.seqR fun Q5 hQ5 => ?_
    refine WL.q (Y.assign (.pl rfl)) rfl ?_
    refine WL.next hQ5 (.cons (i := 4) rfl (.nil)) ?_
    obtain rfl := Option.some.inj hF
    refine W.retV (fn := Try.f31) (vs := [.bool false]) Try.results31 ⟨.tmp rfl, trivial⟩ (fun _ _ h => h) (fun w hw => ?_)
    exact hR _ _ ⟨rfl, (hw.pick [] rfl)⟩
  · replace hF := cneg hC4 hF
    refine W.skip ?_
    refine W.go hK2 (.cons (i := 0) rfl (.cons (i := 1) rfl (.nil))) ?_
    obtain ⟨o6, hF6, hF⟩ := bnd hF
    refine W.join0 (Em := []) (M := []) (I := (.inl ()) = o6) (.nil) (fun K7 hK7 => ?_) ?_
    · -- up to
      -- region 3: slices.go:24
      refine W.seqR fun Q8 hQ8 => ?_
      refine WL.q (Y.move (.pl rfl)) rfl ?_
      refine WL.q (Y.len Try.underlying22 (.pl rfl)) rfl ?_
      refine WL.q (Y.move (.pl rfl)) rfl ?_
      refine WL.next hQ8 (.cons (i := 0) rfl (.cons (i := 1) rfl (.cons (i := 12) rfl (.cons (i := 13) rfl (.nil))))) ?_
      refine W.block ?_
      refine W.loop1 (Em := fun (v11 : Int) => [(13, .int .i64 v11)]) (M := fun v11 => []) (I := fun v11 k9 => iter (slices_Equal_int_int_L3 N s11 s26) k9 v11 = some o6) 0 N (hF6) (.cons rfl (.nil)) (.cons (i := 0) rfl (.cons (i := 1) rfl (.cons (i := 12) rfl (.nil)))) (fun w hw => hw.pick [] rfl) (fun v11 k9 hI K10 hK10 => ?_)
      obtain ⟨k9, t9, rfl, hF9, hN9⟩ := iter_step hI
      -- region 4: slices.go:24
      refine W.seqR fun Q11 hQ11 => ?_
      refine WL.q (Y.lss (.pl rfl) (.pl rfl)) rfl ?_
      refine WL.next hQ11 (.cons (i := 0) rfl (.cons (i := 1) rfl (.cons (i := 12) rfl (.cons (i := 13) rfl (.cons (i := 14) rfl (.nil)))))) ?_
      refine W.seq fun K12 hK12 => ?_
      refine W.cond (.pl rfl) (fun hC13 => ?_) (fun hC13 => ?_)
      · replace hF9 := cpos hC13 hF9
        refine W.skip ?_
        refine W.go hK12 (.cons (i := 0) rfl (.cons (i := 1) rfl (.cons (i := 12) rfl (.cons (i := 13) rfl (.nil))))) ?_
        refine W.seq fun K14 hK14 => ?_
        refine W.block ?_
        -- region 5: slices.go:24
        refine W.seqR fun Q15 hQ15 => ?_
        refine WL.q (Y.move (.pl rfl)) rfl ?_
        refine WL.q (Y.assign (.pl rfl)) rfl ?_
        refine WL.next hQ15 (.cons (i := 0) rfl (.cons (i := 1) rfl (.cons (i := 5) rfl (.cons (i := 12) rfl (.cons (i := 13) rfl (.nil)))))) ?_
        -- region 6: slices.go:25
        refine W.seqD (by kernel_rfl) (by kernel_rfl) fun R16 hR16 => ?_
        refine WD.q (Y.move (.pl rfl)) rfl ?_
        refine WD.q (Y.move (.pl rfl)) rfl ?_
        obtain ⟨x12, hx12, hF9⟩ := bnd hF9
        refine WD.q (Y.slEl Try.underlying22 cells3 hs4 (.pl rfl) (.pl rfl) (ix_lt (hx12))) rfl ?_
        refine WD.q (Y.loadS (enc := (eI .i64)) (v := .int .i64 x12) (j := 0) Try.underlying3 rfl hs4 (.pl rfl) (hx12) rfl rfl) rfl ?_
        refine WD.q (Y.move (.pl rfl)) rfl ?_
        refine WD.q (Y.move (.pl rfl)) rfl ?_
        obtain ⟨x13, hx13, hF9⟩ := bnd hF9
        refine WD.q (Y.slEl Try.underlying22 cells3 hs9 (.pl rfl) (.pl rfl) (ix_lt (hx13))) rfl ?_
        refine WD.q (Y.loadS (enc := (eI .i64)) (v := .int .i64 x13) (j := 0) Try.underlying3 rfl hs9 (.pl rfl) (hx13) rfl rfl) rfl ?_
        refine WD.q (Y.neq (.pl rfl) (.pl rfl)) rfl ?_
        refine WD.next hR16 (.cons (i := 0) rfl (.cons (i := 1) rfl (.cons (i := 12) rfl (.cons (i := 13) rfl (.cons (i := 24) rfl (.nil)))))) ?_
        refine W.cond (.pl rfl) (fun hC17 => ?_) (fun hC17 => ?_)
        · replace hF9 := cpos hC17 hF9
          -- region 7: slices.go:26
          refine W.seqR fun Q18 hQ18 => ?_
          refine WL.q (Y.assign (.pl rfl)) rfl ?_
          refine WL.next hQ18 (.cons (i := 4) rfl (.nil)) ?_
          obtain rfl := Option.some.inj hF9
          obtain rfl := einr hN9
          obtain rfl := Option.some.inj hF
          refine W.retV (fn := Try.f31) (vs := [.bool false]) Try.results31 ⟨.tmp rfl, trivial⟩ (fun _ _ h => h) (fun w hw => ?_)
          exact hR _ _ ⟨rfl, (hw.pick [] rfl)⟩
        · replace hF9 := cneg hC17 hF9
          refine W.skip ?_
          refine W.go hK14 (.cons (i := 0) rfl (.cons (i := 1) rfl (.cons (i := 12) rfl (.cons (i := 13) rfl (.nil))))) ?_
          -- region 8: slices.go:24
          refine W.reg ?_
          obtain ⟨hk14, hF9⟩ := ckh hF9
          refine WL.q (Y.add (.pl rfl) (.pl rfl) (ok64_lt (hk14))) rfl ?_
          refine WL.q (Y.move (.pl rfl)) rfl ?_
          refine WL.nil ?_
          obtain rfl := Option.some.inj hF9
          exact W.again1 hK10 (v11 + 1) k9 hN9 (Nat.lt_succ_self _) (.cons rfl (.nil)) (.cons (i := 0) rfl (.cons (i := 1) rfl (.cons (i := 12) rfl (.nil)))) (fun w hw => hw.pick [] rfl)
      · replace hF9 := cneg hC13 hF9
        refine W.exit ?_
        obtain rfl := Option.some.inj hF9
        exact W.joinAt0 hK7  (einr hN9) (.nil) (.nil) (fun w hw => hw.pick [] rfl)
    · -- behind
      rintro  rfl
      -- region 9: slices.go:29
      refine W.seqR fun Q20 hQ20 => ?_
      refine WL.q (Y.assign (.pl rfl)) rfl ?_
      refine WL.next hQ20 (.cons (i := 4) rfl (.nil)) ?_
      obtain rfl := Option.some.inj hF
      refine W.retV (fn := Try.f31) (vs := [.bool true]) Try.results31 ⟨.tmp rfl, trivial⟩ (fun _ _ h => h) (fun w hw => ?_)
      exact hR _ _ ⟨rfl, (hw.pick [] rfl)⟩

def alibkeep_ObjectOne (N : Nat) (typ1 : Int) (s2 : (List Int)) (kind7 : Int) (arg8 : Int) : Option Bool :=
  bd (object_Step N typ1 s2 kind7 arg8) fun (r9 : ((List Int) × Int × Int)) =>
  bd (object_Step N typ1 s2 kind7 arg8) fun (r12 : ((List Int) × Int × Int)) =>
  bd (alibkeep_objectLives N) fun (r15 : Bool) =>
  bd ((cond (((!r15) || (!(decide (r9.2.2 = r12.2.2)))) == false) (slices_Equal_int_int N r9.1 r12.1) (some false))) fun (r16 : Bool) =>
  cond ((((!r15) || (!(decide (r9.2.2 = r12.2.2)))) || (!r16)) || (!(decide (r9.2.1 = r12.2.1))))
    (some false)
    (cond (!(decide (r9.2.2 = 0)))
      (some ((decide (((r9.1).length : Int) = 0)) && (decide (r9.2.1 = 0))))
      (bd (object_Check N typ1 r9.1) fun (r17 : Int) =>
      ck (!((!(decide (r17 = 0))) == false) || (ok64 (((s2).length : Int) + 1))) <|
      ck (!(((!(decide (r17 = 0))) || (decide ((((s2).length : Int) + 1) < ((r9.1).length : Int)))) == false) || (ok64 (((r9.1).length : Int) + 1))) <|
      cond (((!(decide (r17 = 0))) || (decide ((((s2).length : Int) + 1) < ((r9.1).length : Int)))) || (decide ((((r9.1).length : Int) + 1) < ((s2).length : Int))))
        (some false)
        (bd ((cond (((!(decide (kind7 = 2))) && (!(decide (kind7 = 9)))) == false) (slices_Equal_int_int N r9.1 s2) (some false))) fun (r20 : Bool) =>
        some (((!(decide (kind7 = 2))) && (!(decide (kind7 = 9)))) || r20))))

theorem alibkeep_ObjectOne_ok {N : Nat} {typ1 : Int} {s2 : (List Int)} {kind7 : Int} {arg8 : Int} {res : Bool} (hF : alibkeep_ObjectOne N typ1 s2 kind7 arg8 = some res) (w : World) {v6 : Value} (hs5 : SlIn (eI .i64) 1 w v6 s2) :
    Pure Try.prog 5 [.int .i64 typ1, v6, .int .i64 kind7, .int .i64 arg8] w (.bool res) := by
  obtain ⟨A3, c4, rfl, hcc4, hs5⟩ := hs5.form
  refine W.enter (n := 91) Try.func5 rfl rfl Sub.refl (by simp) (St.start w) fun R hR => ?_
  unfold alibkeep_ObjectOne at hF
  -- region 0: object.go:18
  refine W.seqR fun Q1 hQ1 => ?_
  refine WL.q (Y.assign (.pl rfl)) rfl ?_
  refine WL.next hQ1 (.cons (i := 0) rfl (.cons (i := 1) rfl (.cons (i := 2) rfl (.cons (i := 3) rfl (.nil))))) ?_
  -- region 1: object.go:19
  refine W.seqR fun Q2 hQ2 => ?_
  refine WL.q (Y.move (.pl rfl)) rfl ?_
  refine WL.q (Y.move (.pl rfl)) rfl ?_
  refine WL.q (Y.move (.pl rfl)) rfl ?_
  refine WL.q (Y.move (.pl rfl)) rfl ?_
  obtain ⟨r9, hr9, hF⟩ := bnd hF
  refine WL.step (WO.callM isGo30 (.cons (.pl rfl) (.cons (.pl rfl) (.cons (.pl rfl) (.cons (.pl rfl) (.nil))))) rfl (fun w hw => object_Step_ok (hr9) w (hs5.mono hw)) ?_)
  rintro ⟨A10, c11⟩ -
  refine WL.q (Y.move (.pl rfl)) rfl ?_
  refine WL.q (Y.extract (.pl rfl) rfl) rfl ?_
  refine WL.q (Y.extract (.pl rfl) rfl) rfl ?_
  refine WL.q (Y.extract (.pl rfl) rfl) rfl ?_
  refine WL.q (Y.assign (.pl rfl)) rfl ?_
  refine WL.q (Y.assign (.pl rfl)) rfl ?_
  refine WL.q (Y.assign (.pl rfl)) rfl ?_
  refine WL.next hQ2 (.cons (i := 0) rfl (.cons (i := 1) rfl (.cons (i := 2) rfl (.cons (i := 3) rfl (.cons (i := 9) rfl (.cons (i := 10) rfl (.cons (i := 11) rfl (.nil)))))))) ?_
  -- region 2: object.go:20
  refine W.seqR fun Q3 hQ3 => ?_
  refine WL.q (Y.move (.pl rfl)) rfl ?_
  refine WL.q (Y.move (.pl rfl)) rfl ?_
  refine WL.q (Y.move (.pl rfl)) rfl ?_
  refine WL.q (Y.move (.pl rfl)) rfl ?_
  obtain ⟨r12, hr12, hF⟩ := bnd hF
  refine WL.step (WO.callM isGo30 (.cons (.pl rfl) (.cons (.pl rfl) (.cons (.pl rfl) (.cons (.pl rfl) (.nil))))) rfl (fun w hw => object_Step_ok (hr12) w (hs5.mono hw)) ?_)
  rintro ⟨A13, c14⟩ -
  refine WL.q (Y.move (.pl rfl)) rfl ?_
  refine WL.q (Y.extract (.pl rfl) rfl) rfl ?_
  refine WL.q (Y.extract (.pl rfl) rfl) rfl ?_
  refine WL.q (Y.extract (.pl rfl) rfl) rfl ?_
  refine WL.q (Y.assign (.pl rfl)) rfl ?_
  refine WL.q (Y.assign (.pl rfl)) rfl ?_
  refine WL.q (Y.assign (.pl rfl)) rfl ?_
  refine WL.next hQ3 (.cons (i := 0) rfl (.cons (i := 1) rfl (.cons (i := 2) rfl (.cons (i := 9) rfl (.cons (i := 10) rfl (.cons (i := 11) rfl (.cons (i := 12) rfl (.cons (i := 13) rfl (.cons (i := 14) rfl (.nil)))))))))) ?_
  refine W.seq fun K4 hK4 => ?_
  -- region 3: object.go:21
  refine W.seqR fun Q5 hQ5 => ?_
  obtain ⟨r15, hr15, hF⟩ := bnd hF
  refine WL.step (WO.callP isGo24 (.nil) rfl (fun w hw => alibkeep_objectLives_ok (hr15) w ) ?_)
  refine WL.q (Y.not (.pl rfl)) rfl ?_
  refine WL.q (Y.move (.pl rfl)) rfl ?_
  refine WL.g (.pl rfl rfl rfl) (fun hg => Y.move (.pl rfl)) rfl ?_
  refine WL.g (.pl rfl rfl rfl) (fun hg => Y.move (.pl rfl)) rfl ?_
  refine WL.g (.pl rfl rfl rfl) (fun hg => Y.neq (.gd (hg) rfl) (.gd (hg) rfl)) rfl ?_
  refine WL.q (Y.or (.pl rfl) (fun h2 => .gd (eqf h2) rfl)) rfl ?_
  refine WL.q (Y.move (.pl rfl)) rfl ?_
  refine WL.g (.pl rfl rfl rfl) (fun hg => Y.move (.pl rfl)) rfl ?_
  refine WL.g (.pl rfl rfl rfl) (fun hg => Y.move (.pl rfl)) rfl ?_
  obtain ⟨r16, hr16, hF⟩ := bnd hF
  refine WL.gP (.pl rfl rfl rfl) isGo31 (fun hg => (.cons (.gd (hg) rfl) (.cons (.gd (hg) rfl) (.nil)))) rfl (fun hg w hw => slices_Equal_int_int_ok (gpos hg hr16) w (SlIn.ofRow (fun _ => rfl) hw (i := 1) rfl) (SlIn.ofRow (fun _ => rfl) hw (i := 0) rfl)) ?_
  refine WL.g (.pl rfl rfl rfl) (fun hg => Y.not (.gd (hg) rfl)) rfl ?_
  refine WL.q (Y.or (.pl rfl) (fun h2 => .gd (eqf h2) rfl)) rfl ?_
  refine WL.q (Y.move (.pl rfl)) rfl ?_
  refine WL.g (.pl rfl rfl rfl) (fun hg => Y.move (.pl rfl)) rfl ?_
  refine WL.g (.pl rfl rfl rfl) (fun hg => Y.move (.pl rfl)) rfl ?_
  refine WL.g (.pl rfl rfl rfl) (fun hg => Y.neq (.gd (hg) rfl) (.gd (hg) rfl)) rfl ?_
  refine WL.q (Y.or (.pl rfl) (fun h2 => .gd (eqf h2) rfl)) rfl ?_
  refine WL.next hQ5 (.cons (i := 0) rfl (.cons (i := 1) rfl (.cons (i := 2) rfl (.cons (i := 9) rfl (.cons (i := 10) rfl (.cons (i := 11) rfl (.cons (i := 50) rfl (.nil)))))))) ?_
  refine W.cond (.pl rfl) (fun hC6 => ?_) (fun hC6 => ?_)
  · replace hF := cpos hC6 hF
    -- region 4: object.go:22
    refine W.seqR fun Q7 hQ7 => ?_
    refine WL.q (Y.assign (.pl rfl)) rfl ?_
    refine WL.next hQ7 (.cons (i := 8) rfl (.nil)) ?_
    obtain rfl := Option.some.inj hF
    refine W.retV (fn := Try.f5) (vs := [.bool false]) Try.results5 ⟨.tmp rfl, trivial⟩ (fun _ _ h => h) (fun w hw => ?_)
    exact hR _ _ ⟨rfl, (hw.pick [] rfl)⟩
  · replace hF := cneg hC6 hF
    refine W.skip ?_
    refine W.go hK4 (.cons (i := 0) rfl (.cons (i := 1) rfl (.cons (i := 2) rfl (.cons (i := 9) rfl (.cons (i := 10) rfl (.cons (i := 11) rfl (.nil))))))) ?_
    refine W.seq fun K8 hK8 => ?_
    -- region 5: object.go:24
    refine W.seqR fun Q9 hQ9 => ?_
    refine WL.q (Y.move (.pl rfl)) rfl ?_
    refine WL.q (Y.neq (.pl rfl) (.pl rfl)) rfl ?_
    refine WL.next hQ9 (.cons (i := 0) rfl (.cons (i := 1) rfl (.cons (i := 2) rfl (.cons (i := 9) rfl (.cons (i := 10) rfl (.cons (i := 52) rfl (.nil))))))) ?_
    refine W.cond (.pl rfl) (fun hC10 => ?_) (fun hC10 => ?_)
    · replace hF := cpos hC10 hF
      -- region 6: object.go:25
      refine W.seqR fun Q11 hQ11 => ?_
      refine WL.q (Y.move (.pl rfl)) rfl ?_
      refine WL.q (Y.len Try.underlying22 (.pl rfl)) rfl ?_
      refine WL.q (Y.eql (.pl rfl) (.pl rfl)) rfl ?_
      refine WL.q (Y.move (.pl rfl)) rfl ?_
      refine WL.g (.pl rfl rfl rfl) (fun hg => Y.move (.pl rfl)) rfl ?_
      refine WL.g (.pl rfl rfl rfl) (fun hg => Y.eql (.gd (hg) rfl) (.pl rfl)) rfl ?_
      refine WL.q (Y.and (.pl rfl) (fun h2 => .gd (eqt h2) rfl)) rfl ?_
      refine WL.q (Y.assign (.pl rfl)) rfl ?_
      refine WL.next hQ11 (.cons (i := 8) rfl (.nil)) ?_
      obtain rfl := Option.some.inj hF
      refine W.retV (fn := Try.f5) (vs := [.bool ((decide (((r9.1).length : Int) = 0)) && (decide (r9.2.1 = 0)))]) Try.results5 ⟨.tmp rfl, trivial⟩ (fun _ _ h => h) (fun w hw => ?_)
      exact hR _ _ ⟨rfl, (hw.pick [] rfl)⟩
    · replace hF := cneg hC10 hF
      refine W.skip ?_
      refine W.go hK8 (.cons (i := 0) rfl (.cons (i := 1) rfl (.cons (i := 2) rfl (.cons (i := 9) rfl (.nil))))) ?_
      refine W.seq fun K12 hK12 => ?_
      -- region 7: object.go:27
      refine W.seqR fun Q13 hQ13 => ?_
      refine WL.q (Y.move (.pl rfl)) rfl ?_
      refine WL.q (Y.move (.pl rfl)) rfl ?_
      obtain ⟨r17, hr17, hF⟩ := bnd hF
      refine WL.step (WO.callP isGo32 (.cons (.pl rfl) (.cons (.pl rfl) (.nil))) rfl (fun w hw => object_Check_ok (hr17) w (SlIn.ofRow (fun _ => rfl) hw (i := 1) rfl)) ?_)
      refine WL.q (Y.neq (.pl rfl) (.pl rfl)) rfl ?_
      refine WL.q (Y.move (.pl rfl)) rfl ?_
      refine WL.g (.pl rfl rfl rfl) (fun hg => Y.move (.pl rfl)) rfl ?_
      refine WL.g (.pl rfl rfl rfl) (fun hg => Y.len Try.underlying22 (.gd (hg) rfl)) rfl ?_
      refine WL.g (.pl rfl rfl rfl) (fun hg => Y.move (.pl rfl)) rfl ?_
      refine WL.g (.pl rfl rfl rfl) (fun hg => Y.len Try.underlying22 (.gd (hg) rfl)) rfl ?_
      obtain ⟨hk18, hF⟩ := ckh hF
      refine WL.g (.pl rfl rfl rfl) (fun hg => Y.add (.gd (hg) rfl) (.pl rfl) (ok64_lt (gor hg hk18))) rfl ?_
      refine WL.g (.pl rfl rfl rfl) (fun hg => Y.gtr (.gd (hg) rfl) (.gd (hg) rfl)) rfl ?_
      refine WL.q (Y.or (.pl rfl) (fun h2 => .gd (eqf h2) rfl)) rfl ?_
      refine WL.q (Y.move (.pl rfl)) rfl ?_
      refine WL.g (.pl rfl rfl rfl) (fun hg => Y.move (.pl rfl)) rfl ?_
      refine WL.g (.pl rfl rfl rfl) (fun hg => Y.len Try.underlying22 (.gd (hg) rfl)) rfl ?_
      refine WL.g (.pl rfl rfl rfl) (fun hg => Y.move (.pl rfl)) rfl ?_
      refine WL.g (.pl rfl rfl rfl) (fun hg => Y.len Try.underlying22 (.gd (hg) rfl)) rfl ?_
      obtain ⟨hk19, hF⟩ := ckh hF
      refine WL.g (.pl rfl rfl rfl) (fun hg => Y.add (.gd (hg) rfl) (.pl rfl) (ok64_lt (gor hg hk19))) rfl ?_
      refine WL.g (.pl rfl rfl rfl) (fun hg => Y.gtr (.gd (hg) rfl) (.gd (hg) rfl)) rfl ?_
      refine WL.q (Y.or (.pl rfl) (fun h2 => .gd (eqf h2) rfl)) rfl ?_
      refine WL.next hQ13 (.cons (i := 1) rfl (.cons (i := 2) rfl (.cons (i := 9) rfl (.cons (i := 79) rfl (.nil))))) ?_
      refine W.cond (.pl rfl) (fun hC14 => ?_) (fun hC14 => ?_)
      · replace hF := cpos hC14 hF
        -- region 8: object.go:28
        refine W.seqR fun Q15 hQ15 => ?_
        refine WL.q (Y.assign (.pl rfl)) rfl ?_
        refine WL.next hQ15 (.cons (i := 8) rfl (.nil)) ?_
        obtain rfl := Option.some.inj hF
        refine W.retV (fn := Try.f5) (vs := [.bool false]) Try.results5 ⟨.tmp rfl, trivial⟩ (fun _ _ h => h) (fun w hw => ?_)
        exact hR _ _ ⟨rfl, (hw.pick [] rfl)⟩
      · replace hF := cneg hC14 hF
        refine W.skip ?_
        refine W.go hK12 (.cons (i := 1) rfl (.cons (i := 2) rfl (.cons (i := 9) rfl (.nil)))) ?_
        -- region 9: object.go:30
        refine W.seqR fun Q16 hQ16 => ?_
        refine WL.q (Y.move (.pl rfl)) rfl ?_
        refine WL.q (Y.neq (.pl rfl) (.pl rfl)) rfl ?_
        refine WL.q (Y.move (.pl rfl)) rfl ?_
        refine WL.g (.pl rfl rfl rfl) (fun hg => Y.move (.pl rfl)) rfl ?_
        refine WL.g (.pl rfl rfl rfl) (fun hg => Y.neq (.gd (hg) rfl) (.pl rfl)) rfl ?_
        refine WL.q (Y.and (.pl rfl) (fun h2 => .gd (eqt h2) rfl)) rfl ?_
        refine WL.q (Y.move (.pl rfl)) rfl ?_
        refine WL.g (.pl rfl rfl rfl) (fun hg => Y.move (.pl rfl)) rfl ?_
        refine WL.g (.pl rfl rfl rfl) (fun hg => Y.move (.pl rfl)) rfl ?_
        obtain ⟨r20, hr20, hF⟩ := bnd hF
        refine WL.gP (.pl rfl rfl rfl) isGo31 (fun hg => (.cons (.gd (hg) rfl) (.cons (.gd (hg) rfl) (.nil)))) rfl (fun hg w hw => slices_Equal_int_int_ok (gpos hg hr20) w (SlIn.ofRow (fun _ => rfl) hw (i := 1) rfl) (hs5.mono hw)) ?_
        refine WL.q (Y.or (.pl rfl) (fun h2 => .gd (eqf h2) rfl)) rfl ?_
        refine WL.q (Y.assign (.pl rfl)) rfl ?_
        refine WL.next hQ16 (.cons (i := 8) rfl (.nil)) ?_
        obtain rfl := Option.some.inj hF
        refine W.retV (fn := Try.f5) (vs := [.bool (((!(decide (kind7 = 2))) && (!(decide (kind7 = 9)))) || r20)]) Try.results5 ⟨.tmp rfl, trivial⟩ (fun _ _ h => h) (fun w hw => ?_)
        exact hR _ _ ⟨rfl, (hw.pick [] rfl)⟩

/-- slices.Clone -/
theorem slices_Clone_api_Do_api_Do_ok {xs : List Do} (hb : limB 24 xs.length = true) (w : World) {v : Value} (h : SlIn encDo 3 w v xs) :
    Made Try.prog 29 [v] w (fun g : Option Addr × Nat => .slice g.1 xs.length g.2) (fun g => [cR encDo 3 g.1 g.2 28 xs]) (fun _ => True) := by
  obtain ⟨A1, c1, rfl, hc1, hs⟩ := h.form
  refine W.enter (n := 8) Try.func29 rfl rfl Sub.refl (by simp) (St.start w) fun R hR => ?_
  refine W.seqR fun Q1 hQ1 => ?_
  refine WL.q (Y.assign (.pl rfl)) rfl ?_
  refine WL.next hQ1 (.cons (i := 0) rfl (.nil)) ?_
  refine W.seq fun K2 hK2 => ?_
  refine W.seqR fun Q3 hQ3 => ?_
  refine WL.q (Y.move (.pl rfl)) rfl ?_
  refine WL.q (Y.eqNil Try.underlying26 (.pl rfl)) rfl ?_
  refine WL.next hQ3 (.cons (i := 0) rfl (.cons (i := 4) rfl (.nil))) ?_
  refine W.cond (.pl rfl) (fun hC => ?_) (fun hC => ?_)
  · refine W.seqR fun Q4 hQ4 => ?_
    refine WL.q (Y.assign (.pl rfl)) rfl ?_
    refine WL.next hQ4 (.cons (i := 2) rfl (.nil)) ?_
    have hx : xs = [] := by
      cases xs with
      | nil => rfl
      | cons a r =>
        have := (hs.okA' (idx := 0) ⟨Int.le_refl _, by simp⟩).1
        rw [Option.isNone_iff_eq_none] at hC
        rw [hC] at this; cases this
    subst hx
    refine W.retV (fn := Try.f29) (vs := [.slice none 0 0]) Try.results29 ⟨.tmp rfl, trivial⟩ (fun _ _ h => h) (fun w hw => ?_)
    exact hR _ _ ⟨(none, 0), trivial, rfl, St.nilR hw encDo 3 28⟩
  · refine W.skip ?_
    refine W.go hK2 (.cons (i := 0) rfl (.nil)) ?_
    obtain ⟨a1, rfl⟩ : ∃ a, A1 = some a := by cases A1 with
      | none => cases hC
      | some a => exact ⟨a, rfl⟩
    refine W.seqR fun Q5 hQ5 => ?_
    refine WL.step (WO.bsliceC (enc := encDo) (ys := []) Try.underlying26 bz28 (.nil) rfl lenDo rfl rfl (by decide) (by decide) rfl fun b => ?_)
    refine WL.q (Y.move (.pl rfl)) rfl ?_
    refine WL.step (WO.appendS (enc := encDo) (ys := xs) (xs := []) Try.underlying26 ap28 lenDo oneDo (.pl rfl) rfl (.pl rfl) (i := 0) rfl (fun w hw => hs.mono hw) (by simpa using hb) rfl fun A c => ?_)
    refine WL.q (Y.assign (.pl rfl)) rfl ?_
    refine WL.next hQ5 (.cons (i := 2) rfl (.nil)) ?_
    refine W.retV (fn := Try.f29) (vs := [.slice A xs.length c]) Try.results29 ⟨.tmp rfl, trivial⟩ (fun _ _ h => h) (fun w hw => ?_)
    exact hR _ _ ⟨(A, c), trivial, rfl, hw⟩

def alibkeep_ObjectFront (N : Nat) (typ1 : Int) (l2 : (List Do)) (more7 : Do) : Option Bool :=
  bd (object_Play N typ1 l2) fun (r9 : (Int × Int)) =>
  bd (alibkeep_objectLives N) fun (r10 : Bool) =>
  cond ((!r10) || (!(decide (r9.2 = 0))))
    (bd (alibkeep_objectLives N) fun (r11 : Bool) =>
    some (r11 && (decide (r9.1 = 0))))
    (bd (α := (Int × Int)) (ck (limB 24 (l2).length) <|
      ck (limB 24 ((l2).length + (([more7] : List Do)).length)) <|
      bd (object_Play N typ1 (l2 ++ ([more7] : List Do))) fun (r21 : (Int × Int)) =>
      some (r21.1, r21.2)) <|
    fun (m12, f13) => 
      ck (!((((((!(decide (f13 = 0))) || (decide (r9.1 < 0))) || (decide (((l2).length : Int) < r9.1))) || ((decide (r9.1 < ((l2).length : Int))) && (!(decide (m12 = r9.1))))) == false) && (((decide (r9.1 = ((l2).length : Int))) && (!(decide (m12 = r9.1)))) == true)) || (ok64 (r9.1 + 1))) <|
      cond (((((!(decide (f13 = 0))) || (decide (r9.1 < 0))) || (decide (((l2).length : Int) < r9.1))) || ((decide (r9.1 < ((l2).length : Int))) && (!(decide (m12 = r9.1))))) || (((decide (r9.1 = ((l2).length : Int))) && (!(decide (m12 = r9.1)))) && (!(decide (m12 = (r9.1 + 1))))))
        (some false)
        (cond (decide (m12 ≤ ((l2).length : Int)))
          (some true)
          (ck (ok64 (more7.res + 1)) <|
          bd (α := (Int × Int)) (ck (limB 24 (l2).length) <|
            ck (limB 24 ((l2).length + (([(Do.mk more7.kind more7.arg (more7.res + 1))] : List Do)).length)) <|
            bd (object_Play N typ1 (l2 ++ ([(Do.mk more7.kind more7.arg (more7.res + 1))] : List Do))) fun (r38 : (Int × Int)) =>
            some (r38.1, r38.2)) <|
          fun (k29, g30) => 
            some ((decide (g30 = 0)) && (decide (k29 = ((l2).length : Int)))))))

theorem alibkeep_ObjectFront_ok {N : Nat} {typ1 : Int} {l2 : (List Do)} {more7 : Do} {res : Bool} (hF : alibkeep_ObjectFront N typ1 l2 more7 = some res) (w : World) {v6 : Value} (hs5 : SlIn encDo 3 w v6 l2) :
    Pure Try.prog 4 [.int .i64 typ1, v6, .agg (encDo more7).toArray] w (.bool res) := by
  obtain ⟨A3, c4, rfl, hcc4, hs5⟩ := hs5.form
  refine W.enter (n := 106) Try.func4 rfl rfl Sub.refl (by simp) (St.start w) fun R hR => ?_
  unfold alibkeep_ObjectFront at hF
  -- region 0: object.go:67
  refine W.seqR fun Q1 hQ1 => ?_
  refine WL.step (WO.boxA (.pl rfl) rfl fun b8 => ?_)
  refine WL.q (Y.assign (.pl rfl)) rfl ?_
  refine WL.next hQ1 (.cons (i := 0) rfl (.cons (i := 1) rfl (.cons (i := 5) rfl (.nil)))) ?_
  -- region 1: object.go:68
  refine W.seqR fun Q2 hQ2 => ?_
  refine WL.q (Y.move (.pl rfl)) rfl ?_
  refine WL.q (Y.move (.pl rfl)) rfl ?_
  obtain ⟨r9, hr9, hF⟩ := bnd hF
  refine WL.step (WO.callP isGo27 (.cons (.pl rfl) (.cons (.pl rfl) (.nil))) rfl (fun w hw => object_Play_ok (hr9) w (hs5.mono hw)) ?_)
  refine WL.q (Y.move (.pl rfl)) rfl ?_
  refine WL.q (Y.extract (.pl rfl) rfl) rfl ?_
  refine WL.q (Y.extract (.pl rfl) rfl) rfl ?_
  refine WL.q (Y.assign (.pl rfl)) rfl ?_
  refine WL.q (Y.assign (.pl rfl)) rfl ?_
  refine WL.next hQ2 (.cons (i := 0) rfl (.cons (i := 1) rfl (.cons (i := 5) rfl (.cons (i := 7) rfl (.cons (i := 8) rfl (.nil)))))) ?_
  refine W.seq fun K3 hK3 => ?_
  -- region 2: object.go:69
  refine W.seqR fun Q4 hQ4 => ?_
  obtain ⟨r10, hr10, hF⟩ := bnd hF
  refine WL.step (WO.callP isGo24 (.nil) rfl (fun w hw => alibkeep_objectLives_ok (hr10) w ) ?_)
  refine WL.q (Y.not (.pl rfl)) rfl ?_
  refine WL.q (Y.move (.pl rfl)) rfl ?_
  refine WL.g (.pl rfl rfl rfl) (fun hg => Y.move (.pl rfl)) rfl ?_
  refine WL.g (.pl rfl rfl rfl) (fun hg => Y.neq (.gd (hg) rfl) (.pl rfl)) rfl ?_
  refine WL.q (Y.or (.pl rfl) (fun h2 => .gd (eqf h2) rfl)) rfl ?_
  refine WL.next hQ4 (.cons (i := 0) rfl (.cons (i := 1) rfl (.cons (i := 5) rfl (.cons (i := 7) rfl (.cons (i := 24) rfl (.nil)))))) ?_
  refine W.cond (.pl rfl) (fun hC5 => ?_) (fun hC5 => ?_)
  · replace hF := cpos hC5 hF
    -- region 3: object.go:70
    refine W.seqR fun Q6 hQ6 => ?_
    obtain ⟨r11, hr11, hF⟩ := bnd hF
    refine WL.step (WO.callP isGo24 (.nil) rfl (fun w hw => alibkeep_objectLives_ok (hr11) w ) ?_)
    refine WL.q (Y.move (.pl rfl)) rfl ?_
    refine WL.g (.pl rfl rfl rfl) (fun hg => Y.move (.pl rfl)) rfl ?_
    refine WL.g (.pl rfl rfl rfl) (fun hg => Y.eql (.gd (hg) rfl) (.pl rfl)) rfl ?_
    refine WL.q (Y.and (.pl rfl) (fun h2 => .gd (eqt h2) rfl)) rfl ?_
    refine WL.q (Y.assign (.pl rfl)) rfl ?_
    refine WL.next hQ6 (.cons (i := 6) rfl (.nil)) ?_
    obtain rfl := Option.some.inj hF
    refine W.retV (fn := Try.f4) (vs := [.bool (r11 && (decide (r9.1 = 0)))]) Try.results4 ⟨.tmp rfl, trivial⟩ (fun _ _ h => h) (fun w hw => ?_)
    exact hR _ _ ⟨rfl, (hw.pick [] rfl)⟩
  · replace hF := cneg hC5 hF
    refine W.skip ?_
    refine W.go hK3 (.cons (i := 0) rfl (.cons (i := 1) rfl (.cons (i := 5) rfl (.cons (i := 7) rfl (.nil))))) ?_
    obtain ⟨o7, hF7, hF⟩ := bnd hF
    refine W.join2 (Em := fun (m12 : Int) (f13 : Int) => [(9, .int .i64 m12), (10, .int .i64 f13)]) (M := fun m12 f13 => [cBx b8 28 (encDo more7)]) (I := fun m12 f13 => (m12, f13) = o7) (.cons (i := 0) rfl (.cons (i := 1) rfl (.cons (i := 5) rfl (.cons (i := 7) rfl (.nil))))) (fun K8 hK8 => ?_) ?_
    · -- up to
      -- region 4: object.go:72
      refine W.regX 5 (by kernel_rfl) ?_
      refine WX.pure 0 #[true, false, false, false, false, false, false, false, false, false, false, false] rfl (by kernel_rfl) (fun _ _ => Y.move (.pl rfl)) rfl ?_
      refine WX.pure 1 #[true, true, false, false, false, false, false, false, false, false, false, false] rfl (by kernel_rfl) (fun _ _ => Y.move (.pl rfl)) rfl ?_
      refine WX.take 3 #[true, true, false, true, false, false, false, false, false, false, false, false] (fun w hw => St.tail [] hw) rfl (by kernel_rfl) (Y.loadBA (ds := (encDo more7)) Try.underlying28 rfl cells28 (.pl rfl) (i := 0) rfl rfl subW) rfl ?_
      obtain ⟨hk14, hF7⟩ := ckh hF7
      obtain ⟨hk20, hF7⟩ := ckh hF7
      obtain ⟨r21, hr21, hF7⟩ := bnd hF7
      refine WX.branch [2, 4] (fun w hw => St.tail [] hw) (by kernel_rfl) ⟨?_, ?_, trivial⟩
      · skip
        refine WXI.step #[true, true, true, true, false, false, false, false, false, false, false, false] rfl rfl (WO.callM isGo29 (.cons (.pl rfl) (.nil)) rfl (fun w hw => slices_Clone_api_Do_api_Do_ok (hk14) w (hs5.mono hw)) ?_)
        rintro ⟨A15, c16⟩ -
        refine WX.one 4 #[true, true, true, true, true, false, false, false, false, false, false, false] (fun w hw => St.tail [_] hw) rfl (by kernel_rfl) (WO.bsliceC (enc := encDo) (ys := ([more7] : List Do)) Try.underlying26 bz28 (.cons (.pl rfl) (.nil)) rfl lenDo rfl rfl (by decide) (by decide) rfl fun b17 => ?_)
        refine WX.stop #[true, true, true, true, true, true, false, false, false, false, false, false] (fun w hw => St.tail [_, _] hw) rfl (by kernel_rfl) (WO.appendC (enc := encDo) Try.underlying26 ap28 lenDo oneDo (.pl rfl) rfl (.pl rfl) (i := 1) rfl (m2 := 0) rfl (hk20) rfl fun A18 c19 => ?_)
        refine WA.branch [6] (by kernel_rfl) ⟨?_, trivial⟩
        refine WI.step #[true, true, true, true, true, true, true, false, false, false, false, false] rfl rfl (WO.callP isGo27 (.cons (.pl rfl) (.cons (.pl rfl) (.nil))) rfl (fun w hw => object_Play_ok (hr21) w (SlIn.ofRow lenDo hw (i := 1) rfl)) ?_)
        refine WA.take 7 #[true, true, true, true, true, true, true, true, false, false, false, false] rfl (by kernel_rfl) (fun _ _ => Y.move (.pl rfl)) rfl ?_
        refine WA.take 8 #[true, true, true, true, true, true, true, true, true, false, false, false] rfl (by kernel_rfl) (fun _ _ => Y.extract (.pl rfl) rfl) rfl ?_
        refine WA.take 9 #[true, true, true, true, true, true, true, true, true, true, false, false] rfl (by kernel_rfl) (fun _ _ => Y.extract (.pl rfl) rfl) rfl ?_
        refine WA.take 10 #[true, true, true, true, true, true, true, true, true, true, true, false] rfl (by kernel_rfl) (fun _ _ => Y.assign (.pl rfl)) rfl ?_
        refine WA.take 11 #[true, true, true, true, true, true, true, true, true, true, true, true] rfl (by kernel_rfl) (fun _ _ => Y.assign (.pl rfl)) rfl ?_
        refine WA.done (by kernel_rfl) ?_
        exact W.joinAt2 hK8 r21.1 r21.2 (Option.some.inj hF7) (.cons rfl (.cons rfl (.nil))) (.cons (i := 0) rfl (.cons (i := 1) rfl (.cons (i := 5) rfl (.cons (i := 7) rfl (.nil))))) (fun w hw => hw.pick [2] rfl)
      · skip
        refine WXI.step #[true, true, false, true, true, false, false, false, false, false, false, false] rfl rfl (WO.bsliceC (enc := encDo) (ys := ([more7] : List Do)) Try.underlying26 bz28 (.cons (.pl rfl) (.nil)) rfl lenDo rfl rfl (by decide) (by decide) rfl fun b22 => ?_)
        refine WX.one 2 #[true, true, true, true, true, false, false, false, false, false, false, false] (fun w hw => St.tail [_] hw) rfl (by kernel_rfl) (WO.callM isGo29 (.cons (.pl rfl) (.nil)) rfl (fun w hw => slices_Clone_api_Do_api_Do_ok (hk14) w (hs5.mono hw)) ?_)
        rintro ⟨A23, c24⟩ -
        refine WX.stop #[true, true, true, true, true, true, false, false, false, false, false, false] (fun w hw => St.tail [_, _] hw) rfl (by kernel_rfl) (WO.appendC (enc := encDo) Try.underlying26 ap28 lenDo oneDo (.pl rfl) rfl (.pl rfl) (i := 0) rfl (m2 := 1) rfl (hk20) rfl fun A25 c26 => ?_)
        refine WA.branch [6] (by kernel_rfl) ⟨?_, trivial⟩
        refine WI.step #[true, true, true, true, true, true, true, false, false, false, false, false] rfl rfl (WO.callP isGo27 (.cons (.pl rfl) (.cons (.pl rfl) (.nil))) rfl (fun w hw => object_Play_ok (hr21) w (SlIn.ofRow lenDo hw (i := 0) rfl)) ?_)
        refine WA.take 7 #[true, true, true, true, true, true, true, true, false, false, false, false] rfl (by kernel_rfl) (fun _ _ => Y.move (.pl rfl)) rfl ?_
        refine WA.take 8 #[true, true, true, true, true, true, true, true, true, false, false, false] rfl (by kernel_rfl) (fun _ _ => Y.extract (.pl rfl) rfl) rfl ?_
        refine WA.take 9 #[true, true, true, true, true, true, true, true, true, true, false, false] rfl (by kernel_rfl) (fun _ _ => Y.extract (.pl rfl) rfl) rfl ?_
        refine WA.take 10 #[true, true, true, true, true, true, true, true, true, true, true, false] rfl (by kernel_rfl) (fun _ _ => Y.assign (.pl rfl)) rfl ?_
        refine WA.take 11 #[true, true, true, true, true, true, true, true, true, true, true, true] rfl (by kernel_rfl) (fun _ _ => Y.assign (.pl rfl)) rfl ?_
        refine WA.done (by kernel_rfl) ?_
        exact W.joinAt2 hK8 r21.1 r21.2 (Option.some.inj hF7) (.cons rfl (.cons rfl (.nil))) (.cons (i := 0) rfl (.cons (i := 1) rfl (.cons (i := 5) rfl (.cons (i := 7) rfl (.nil))))) (fun w hw => hw.pick [2] rfl)
    · -- behind
      rintro m12 f13 rfl
      refine W.seq fun K10 hK10 => ?_
      -- region 5: object.go:73
      refine W.seqR fun Q11 hQ11 => ?_
      refine WL.q (Y.move (.pl rfl)) rfl ?_
      refine WL.q (Y.neq (.pl rfl) (.pl rfl)) rfl ?_
      refine WL.q (Y.move (.pl rfl)) rfl ?_
      refine WL.g (.pl rfl rfl rfl) (fun hg => Y.move (.pl rfl)) rfl ?_
      refine WL.g (.pl rfl rfl rfl) (fun hg => Y.lss (.gd (hg) rfl) (.pl rfl)) rfl ?_
      refine WL.q (Y.or (.pl rfl) (fun h2 => .gd (eqf h2) rfl)) rfl ?_
      refine WL.q (Y.move (.pl rfl)) rfl ?_
      refine WL.g (.pl rfl rfl rfl) (fun hg => Y.move (.pl rfl)) rfl ?_
      refine WL.g (.pl rfl rfl rfl) (fun hg => Y.move (.pl rfl)) rfl ?_
      refine WL.g (.pl rfl rfl rfl) (fun hg => Y.len Try.underlying26 (.gd (hg) rfl)) rfl ?_
      refine WL.g (.pl rfl rfl rfl) (fun hg => Y.gtr (.gd (hg) rfl) (.gd (hg) rfl)) rfl ?_
      refine WL.q (Y.or (.pl rfl) (fun h2 => .gd (eqf h2) rfl)) rfl ?_
      refine WL.q (Y.move (.pl rfl)) rfl ?_
      refine WL.g (.pl rfl rfl rfl) (fun hg => Y.move (.pl rfl)) rfl ?_
      refine WL.g (.pl rfl rfl rfl) (fun hg => Y.move (.pl rfl)) rfl ?_
      refine WL.g (.pl rfl rfl rfl) (fun hg => Y.len Try.underlying26 (.gd (hg) rfl)) rfl ?_
      refine WL.g (.pl rfl rfl rfl) (fun hg => Y.lss (.gd (hg) rfl) (.gd (hg) rfl)) rfl ?_
      refine WL.g (.pl rfl rfl rfl) (fun hg => Y.move (.gd (hg) rfl)) rfl ?_
      refine WL.g (.gd rfl rfl rfl) (fun hg => Y.move (.pl rfl)) rfl ?_
      refine WL.g (.gd rfl rfl rfl) (fun hg => Y.move (.pl rfl)) rfl ?_
      refine WL.g (.gd rfl rfl rfl) (fun hg => Y.neq (.gd (hg) rfl) (.gd (hg) rfl)) rfl ?_
      refine WL.g (.pl rfl rfl rfl) (fun hg => Y.and (.gd (hg) rfl) (fun h2 => .gd (band hg (eqt h2)) rfl)) rfl ?_
      refine WL.q (Y.or (.pl rfl) (fun h2 => .gd (eqf h2) rfl)) rfl ?_
      refine WL.q (Y.move (.pl rfl)) rfl ?_
      refine WL.g (.pl rfl rfl rfl) (fun hg => Y.move (.pl rfl)) rfl ?_
      refine WL.g (.pl rfl rfl rfl) (fun hg => Y.move (.pl rfl)) rfl ?_
      refine WL.g (.pl rfl rfl rfl) (fun hg => Y.len Try.underlying26 (.gd (hg) rfl)) rfl ?_
      refine WL.g (.pl rfl rfl rfl) (fun hg => Y.eql (.gd (hg) rfl) (.gd (hg) rfl)) rfl ?_
      refine WL.g (.pl rfl rfl rfl) (fun hg => Y.move (.gd (hg) rfl)) rfl ?_
      refine WL.g (.gd rfl rfl rfl) (fun hg => Y.move (.pl rfl)) rfl ?_
      refine WL.g (.gd rfl rfl rfl) (fun hg => Y.move (.pl rfl)) rfl ?_
      refine WL.g (.gd rfl rfl rfl) (fun hg => Y.neq (.gd (hg) rfl) (.gd (hg) rfl)) rfl ?_
      refine WL.g (.pl rfl rfl rfl) (fun hg => Y.and (.gd (hg) rfl) (fun h2 => .gd (band hg (eqt h2)) rfl)) rfl ?_
      refine WL.g (.pl rfl rfl rfl) (fun hg => Y.move (.gd (hg) rfl)) rfl ?_
      refine WL.g (.gd rfl rfl rfl) (fun hg => Y.move (.pl rfl)) rfl ?_
      refine WL.g (.gd rfl rfl rfl) (fun hg => Y.move (.pl rfl)) rfl ?_
      obtain ⟨hk27, hF⟩ := ckh hF
      refine WL.g (.gd rfl rfl rfl) (fun hg => Y.add (.gd (hg) rfl) (.pl rfl) (ok64_lt (gor hg hk27))) rfl ?_
      refine WL.g (.gd rfl rfl rfl) (fun hg => Y.neq (.gd (hg) rfl) (.gd (hg) rfl)) rfl ?_
      refine WL.g (.pl rfl rfl rfl) (fun hg => Y.and (.gd (hg) rfl) (fun h2 => .gd (band hg (eqt h2)) rfl)) rfl ?_
      refine WL.q (Y.or (.pl rfl) (fun h2 => .gd (eqf h2) rfl)) rfl ?_
      refine WL.next hQ11 (.cons (i := 0) rfl (.cons (i := 1) rfl (.cons (i := 5) rfl (.cons (i := 9) rfl (.cons (i := 79) rfl (.nil)))))) ?_
      refine W.cond (.pl rfl) (fun hC12 => ?_) (fun hC12 => ?_)
      · replace hF := cpos hC12 hF
        -- region 6: object.go:74
        refine W.seqR fun Q13 hQ13 => ?_
        refine WL.q (Y.assign (.pl rfl)) rfl ?_
        refine WL.next hQ13 (.cons (i := 6) rfl (.nil)) ?_
        obtain rfl := Option.some.inj hF
        refine W.retV (fn := Try.f4) (vs := [.bool false]) Try.results4 ⟨.tmp rfl, trivial⟩ (fun _ _ h => h) (fun w hw => ?_)
        exact hR _ _ ⟨rfl, (hw.pick [] rfl)⟩
      · replace hF := cneg hC12 hF
        refine W.skip ?_
        refine W.go hK10 (.cons (i := 0) rfl (.cons (i := 1) rfl (.cons (i := 5) rfl (.cons (i := 9) rfl (.nil))))) ?_
        refine W.seq fun K14 hK14 => ?_
        -- region 7: object.go:76
        refine W.seqR fun Q15 hQ15 => ?_
        refine WL.q (Y.move (.pl rfl)) rfl ?_
        refine WL.q (Y.move (.pl rfl)) rfl ?_
        refine WL.q (Y.len Try.underlying26 (.pl rfl)) rfl ?_
        refine WL.q (Y.leq (.pl rfl) (.pl rfl)) rfl ?_
        refine WL.next hQ15 (.cons (i := 0) rfl (.cons (i := 1) rfl (.cons (i := 5) rfl (.cons (i := 83) rfl (.nil))))) ?_
        refine W.cond (.pl rfl) (fun hC16 => ?_) (fun hC16 => ?_)
        · replace hF := cpos hC16 hF
          -- region 8: object.go:77
          refine W.seqR fun Q17 hQ17 => ?_
          refine WL.q (Y.assign (.pl rfl)) rfl ?_
          refine WL.next hQ17 (.cons (i := 6) rfl (.nil)) ?_
          obtain rfl := Option.some.inj hF
          refine W.retV (fn := Try.f4) (vs := [.bool true]) Try.results4 ⟨.tmp rfl, trivial⟩ (fun _ _ h => h) (fun w hw => ?_)
          exact hR _ _ ⟨rfl, (hw.pick [] rfl)⟩
        · replace hF := cneg hC16 hF
          refine W.skip ?_
          refine W.go hK14 (.cons (i := 0) rfl (.cons (i := 1) rfl (.cons (i := 5) rfl (.nil)))) ?_
          -- region 9: object.go:79
          refine W.seqR fun Q18 hQ18 => ?_
          refine WL.q (Y.fieldAddr0 (off := 2) (ft := 3) Try.underlying28 rfl cells3 (.pl rfl)) rfl ?_
          refine WL.q (Y.loadB (v := .int .i64 more7.res) Try.underlying3 rfl (.pl rfl) (i := 0) rfl (rfl)) rfl ?_
          obtain ⟨hk28, hF⟩ := ckh hF
          refine WL.q (Y.add (.pl rfl) (.pl rfl) (ok64_lt (hk28))) rfl ?_
          refine WL.q (Y.fieldAddr0 (off := 2) (ft := 3) Try.underlying28 rfl cells3 (.pl rfl)) rfl ?_
          refine WL.step (WO.storeB (cs' := (encDo (Do.mk more7.kind more7.arg (more7.res + 1)))) cells3 (.pl rfl) (.pl rfl) rfl (i := 0) rfl (ltl (m := 3) (by decide) rfl) (rfl) ?_)
          refine WL.next hQ18 (.cons (i := 0) rfl (.cons (i := 1) rfl (.cons (i := 5) rfl (.nil)))) ?_
          obtain ⟨o19, hF19, hF⟩ := bnd hF
          refine W.join2 (Em := fun (k29 : Int) (g30 : Int) => [(11, .int .i64 k29), (12, .int .i64 g30)]) (M := fun k29 g30 => []) (I := fun k29 g30 => (k29, g30) = o19) (.cons (i := 1) rfl (.nil)) (fun K20 hK20 => ?_) ?_
          · -- up to
            -- region 10: object.go:80
            refine W.regX 5 (by kernel_rfl) ?_
            refine WX.pure 0 #[true, false, false, false, false, false, false, false, false, false, false, false] rfl (by kernel_rfl) (fun _ _ => Y.move (.pl rfl)) rfl ?_
            refine WX.pure 1 #[true, true, false, false, false, false, false, false, false, false, false, false] rfl (by kernel_rfl) (fun _ _ => Y.move (.pl rfl)) rfl ?_
            refine WX.take 3 #[true, true, false, true, false, false, false, false, false, false, false, false] (fun w hw => St.tail [] hw) rfl (by kernel_rfl) (Y.loadBA (ds := (encDo (Do.mk more7.kind more7.arg (more7.res + 1)))) Try.underlying28 rfl cells28 (.pl rfl) (i := 0) rfl rfl subW) rfl ?_
            obtain ⟨hk31, hF19⟩ := ckh hF19
            obtain ⟨hk37, hF19⟩ := ckh hF19
            obtain ⟨r38, hr38, hF19⟩ := bnd hF19
            refine WX.branch [2, 4] (fun w hw => St.tail [] hw) (by kernel_rfl) ⟨?_, ?_, trivial⟩
            · skip
              refine WXI.step #[true, true, true, true, false, false, false, false, false, false, false, false] rfl rfl (WO.callM isGo29 (.cons (.pl rfl) (.nil)) rfl (fun w hw => slices_Clone_api_Do_api_Do_ok (hk31) w (hs5.mono hw)) ?_)
              rintro ⟨A32, c33⟩ -
              refine WX.one 4 #[true, true, true, true, true, false, false, false, false, false, false, false] (fun w hw => St.tail [_] hw) rfl (by kernel_rfl) (WO.bsliceC (enc := encDo) (ys := ([(Do.mk more7.kind more7.arg (more7.res + 1))] : List Do)) Try.underlying26 bz28 (.cons (.pl rfl) (.nil)) rfl lenDo rfl rfl (by decide) (by decide) rfl fun b34 => ?_)
              refine WX.stop #[true, true, true, true, true, true, false, false, false, false, false, false] (fun w hw => St.tail [_, _] hw) rfl (by kernel_rfl) (WO.appendC (enc := encDo) Try.underlying26 ap28 lenDo oneDo (.pl rfl) rfl (.pl rfl) (i := 1) rfl (m2 := 0) rfl (hk37) rfl fun A35 c36 => ?_)
              refine WA.branch [6] (by kernel_rfl) ⟨?_, trivial⟩
              refine WI.step #[true, true, true, true, true, true, true, false, false, false, false, false] rfl rfl (WO.callP isGo27 (.cons (.pl rfl) (.cons (.pl rfl) (.nil))) rfl (fun w hw => object_Play_ok (hr38) w (SlIn.ofRow lenDo hw (i := 1) rfl)) ?_)
              refine WA.take 7 #[true, true, true, true, true, true, true, true, false, false, false, false] rfl (by kernel_rfl) (fun _ _ => Y.move (.pl rfl)) rfl ?_
              refine WA.take 8 #[true, true, true, true, true, true, true, true, true, false, false, false] rfl (by kernel_rfl) (fun _ _ => Y.extract (.pl rfl) rfl) rfl ?_
              refine WA.take 9 #[true, true, true, true, true, true, true, true, true, true, false, false] rfl (by kernel_rfl) (fun _ _ => Y.extract (.pl rfl) rfl) rfl ?_
              refine WA.take 10 #[true, true, true, true, true, true, true, true, true, true, true, false] rfl (by kernel_rfl) (fun _ _ => Y.assign (.pl rfl)) rfl ?_
              refine WA.take 11 #[true, true, true, true, true, true, true, true, true, true, true, true] rfl (by kernel_rfl) (fun _ _ => Y.assign (.pl rfl)) rfl ?_
              refine WA.done (by kernel_rfl) ?_
              exact W.joinAt2 hK20 r38.1 r38.2 (Option.some.inj hF19) (.cons rfl (.cons rfl (.nil))) (.cons (i := 1) rfl (.nil)) (fun w hw => hw.pick [] rfl)
            · skip
              refine WXI.step #[true, true, false, true, true, false, false, false, false, false, false, false] rfl rfl (WO.bsliceC (enc := encDo) (ys := ([(Do.mk more7.kind more7.arg (more7.res + 1))] : List Do)) Try.underlying26 bz28 (.cons (.pl rfl) (.nil)) rfl lenDo rfl rfl (by decide) (by decide) rfl fun b39 => ?_)
              refine WX.one 2 #[true, true, true, true, true, false, false, false, false, false, false, false] (fun w hw => St.tail [_] hw) rfl (by kernel_rfl) (WO.callM isGo29 (.cons (.pl rfl) (.nil)) rfl (fun w hw => slices_Clone_api_Do_api_Do_ok (hk31) w (hs5.mono hw)) ?_)
              rintro ⟨A40, c41⟩ -
              refine WX.stop #[true, true, true, true, true, true, false, false, false, false, false, false] (fun w hw => St.tail [_, _] hw) rfl (by kernel_rfl) (WO.appendC (enc := encDo) Try.underlying26 ap28 lenDo oneDo (.pl rfl) rfl (.pl rfl) (i := 0) rfl (m2 := 1) rfl (hk37) rfl fun A42 c43 => ?_)
              refine WA.branch [6] (by kernel_rfl) ⟨?_, trivial⟩
              refine WI.step #[true, true, true, true, true, true, true, false, false, false, false, false] rfl rfl (WO.callP isGo27 (.cons (.pl rfl) (.cons (.pl rfl) (.nil))) rfl (fun w hw => object_Play_ok (hr38) w (SlIn.ofRow lenDo hw (i := 0) rfl)) ?_)
              refine WA.take 7 #[true, true, true, true, true, true, true, true, false, false, false, false] rfl (by kernel_rfl) (fun _ _ => Y.move (.pl rfl)) rfl ?_
              refine WA.take 8 #[true, true, true, true, true, true, true, true, true, false, false, false] rfl (by kernel_rfl) (fun _ _ => Y.extract (.pl rfl) rfl) rfl ?_
              refine WA.take 9 #[true, true, true, true, true, true, true, true, true, true, false, false] rfl (by kernel_rfl) (fun _ _ => Y.extract (.pl rfl) rfl) rfl ?_
              refine WA.take 10 #[true, true, true, true, true, true, true, true, true, true, true, false] rfl (by kernel_rfl) (fun _ _ => Y.assign (.pl rfl)) rfl ?_
              refine WA.take 11 #[true, true, true, true, true, true, true, true, true, true, true, true] rfl (by kernel_rfl) (fun _ _ => Y.assign (.pl rfl)) rfl ?_
              refine WA.done (by kernel_rfl) ?_
              exact W.joinAt2 hK20 r38.1 r38.2 (Option.some.inj hF19) (.cons rfl (.cons rfl (.nil))) (.cons (i := 1) rfl (.nil)) (fun w hw => hw.pick [] rfl)
          · -- behind
            rintro k29 g30 rfl
            -- region 11: object.go:81
            refine W.seqR fun Q22 hQ22 => ?_
            refine WL.q (Y.move (.pl rfl)) rfl ?_
            refine WL.q (Y.eql (.pl rfl) (.pl rfl)) rfl ?_
            refine WL.q (Y.move (.pl rfl)) rfl ?_
            refine WL.g (.pl rfl rfl rfl) (fun hg => Y.move (.pl rfl)) rfl ?_
            refine WL.g (.pl rfl rfl rfl) (fun hg => Y.move (.pl rfl)) rfl ?_
            refine WL.g (.pl rfl rfl rfl) (fun hg => Y.len Try.underlying26 (.gd (hg) rfl)) rfl ?_
            refine WL.g (.pl rfl rfl rfl) (fun hg => Y.eql (.gd (hg) rfl) (.gd (hg) rfl)) rfl ?_
            refine WL.q (Y.and (.pl rfl) (fun h2 => .gd (eqt h2) rfl)) rfl ?_
            refine WL.q (Y.assign (.pl rfl)) rfl ?_
            refine WL.next hQ22 (.cons (i := 6) rfl (.nil)) ?_
            obtain rfl := Option.some.inj hF
            refine W.retV (fn := Try.f4) (vs := [.bool ((decide (g30 = 0)) && (decide (k29 = ((l2).length : Int))))]) Try.results4 ⟨.tmp rfl, trivial⟩ (fun _ _ h => h) (fun w hw => ?_)
            exact hR _ _ ⟨rfl, (hw.pick [] rfl)⟩

def alibkeep_ObjectTurns (N : Nat) (s1 : (List Int)) (a6 : Do) (b7 : Do) : Option Bool :=
  bd (alibkeep_objectLives N) fun (r10 : Bool) =>
  bd ((cond (((!r10) || ((decide (a6.arg = b7.arg)) && ((!(decide (a6.kind = 9))) || (!(decide (b7.kind = 9)))))) == false) (object_Check N 4 s1) (some 0))) fun (r11 : Int) =>
  cond ((((!r10) || ((decide (a6.arg = b7.arg)) && ((!(decide (a6.kind = 9))) || (!(decide (b7.kind = 9)))))) || (!(decide (r11 = 0)))) || (decide (45 < ((s1).length : Int))))
    (bd (alibkeep_objectLives N) fun (r12 : Bool) =>
    some r12)
    (bd (object_Step N 4 s1 a6.kind a6.arg) fun (r13 : ((List Int) × Int × Int)) =>
    bd (object_Step N 4 r13.1 b7.kind b7.arg) fun (r16 : ((List Int) × Int × Int)) =>
    bd (object_Step N 4 s1 b7.kind b7.arg) fun (r19 : ((List Int) × Int × Int)) =>
    bd (object_Step N 4 r19.1 a6.kind a6.arg) fun (r22 : ((List Int) × Int × Int)) =>
    bd (α := Bool) (bd (alibkeep_ok N ([r13.2.2, r16.2.2] : List Int)) fun (r27 : Bool) =>
      cond ((!r27) == false)
        (bd (alibkeep_ok N ([r19.2.2, r22.2.2] : List Int)) fun (r29 : Bool) =>
        some ((!r27) || (!r29)))
        (some ((!r27) || false))) <|
    fun (v25 : Bool) => 
      cond v25
        (some true)
        (bd (slices_Equal_int_int N r16.1 r22.1) fun (r30 : Bool) =>
        some ((r30 && (decide (r13.2.1 = r22.2.1))) && (decide (r16.2.1 = r19.2.1)))))

theorem alibkeep_ObjectTurns_ok {N : Nat} {s1 : (List Int)} {a6 : Do} {b7 : Do} {res : Bool} (hF : alibkeep_ObjectTurns N s1 a6 b7 = some res) (w : World) {v5 : Value} (hs4 : SlIn (eI .i64) 1 w v5 s1) :
    Pure Try.prog 6 [v5, .agg (encDo a6).toArray, .agg (encDo b7).toArray] w (.bool res) := by
  obtain ⟨A2, c3, rfl, hcc3, hs4⟩ := hs4.form
  refine W.enter (n := 114) Try.func6 rfl rfl Sub.refl (by simp) (St.start w) fun R hR => ?_
  unfold alibkeep_ObjectTurns at hF
  -- region 0: object.go:34
  refine W.seqR fun Q1 hQ1 => ?_
  refine WL.step (WO.boxA (.pl rfl) rfl fun b8 => ?_)
  refine WL.step (WO.boxA (.pl rfl) rfl fun b9 => ?_)
  refine WL.q (Y.assign (.pl rfl)) rfl ?_
  refine WL.next hQ1 (.cons (i := 0) rfl (.cons (i := 4) rfl (.cons (i := 5) rfl (.nil)))) ?_
  refine W.seq fun K2 hK2 => ?_
  -- region 1: object.go:35
  refine W.seqR fun Q3 hQ3 => ?_
  obtain ⟨r10, hr10, hF⟩ := bnd hF
  refine WL.step (WO.callP isGo24 (.nil) rfl (fun w hw => alibkeep_objectLives_ok (hr10) w ) ?_)
  refine WL.q (Y.not (.pl rfl)) rfl ?_
  refine WL.q (Y.move (.pl rfl)) rfl ?_
  refine WL.g (.pl rfl rfl rfl) (fun hg => Y.fieldAddr0 (off := 1) (ft := 3) Try.underlying28 rfl cells3 (.pl rfl)) rfl ?_
  refine WL.g (.pl rfl rfl rfl) (fun hg => Y.loadB (v := .int .i64 a6.arg) Try.underlying3 rfl (.gd (hg) rfl) (i := 1) rfl (rfl)) rfl ?_
  refine WL.g (.pl rfl rfl rfl) (fun hg => Y.fieldAddr0 (off := 1) (ft := 3) Try.underlying28 rfl cells3 (.pl rfl)) rfl ?_
  refine WL.g (.pl rfl rfl rfl) (fun hg => Y.loadB (v := .int .i64 b7.arg) Try.underlying3 rfl (.gd (hg) rfl) (i := 0) rfl (rfl)) rfl ?_
  refine WL.g (.pl rfl rfl rfl) (fun hg => Y.eql (.gd (hg) rfl) (.gd (hg) rfl)) rfl ?_
  refine WL.g (.pl rfl rfl rfl) (fun hg => Y.move (.gd (hg) rfl)) rfl ?_
  refine WL.g (.gd rfl rfl rfl) (fun hg => Y.fieldAddr0 (off := 0) (ft := 3) Try.underlying28 rfl cells3 (.pl rfl)) rfl ?_
  refine WL.g (.gd rfl rfl rfl) (fun hg => Y.loadB (v := .int .i64 a6.kind) Try.underlying3 rfl (.gd (hg) rfl) (i := 1) rfl (rfl)) rfl ?_
  refine WL.g (.gd rfl rfl rfl) (fun hg => Y.neq (.gd (hg) rfl) (.pl rfl)) rfl ?_
  refine WL.g (.gd rfl rfl rfl) (fun hg => Y.move (.gd (hg) rfl)) rfl ?_
  refine WL.g (.gd rfl rfl rfl) (fun hg => Y.fieldAddr0 (off := 0) (ft := 3) Try.underlying28 rfl cells3 (.pl rfl)) rfl ?_
  refine WL.g (.gd rfl rfl rfl) (fun hg => Y.loadB (v := .int .i64 b7.kind) Try.underlying3 rfl (.gd (hg) rfl) (i := 0) rfl (rfl)) rfl ?_
  refine WL.g (.gd rfl rfl rfl) (fun hg => Y.neq (.gd (hg) rfl) (.pl rfl)) rfl ?_
  refine WL.g (.gd rfl rfl rfl) (fun hg => Y.or (.gd (hg) rfl) (fun h2 => .gd (band hg (eqf h2)) rfl)) rfl ?_
  refine WL.g (.pl rfl rfl rfl) (fun hg => Y.and (.gd (hg) rfl) (fun h2 => .gd (band hg (eqt h2)) rfl)) rfl ?_
  refine WL.q (Y.or (.pl rfl) (fun h2 => .gd (eqf h2) rfl)) rfl ?_
  refine WL.q (Y.move (.pl rfl)) rfl ?_
  refine WL.g (.pl rfl rfl rfl) (fun hg => Y.move (.pl rfl)) rfl ?_
  obtain ⟨r11, hr11, hF⟩ := bnd hF
  refine WL.gP (.pl rfl rfl rfl) isGo32 (fun hg => (.cons (.pl rfl) (.cons (.gd (hg) rfl) (.nil)))) rfl (fun hg w hw => object_Check_ok (gpos hg hr11) w (hs4.mono hw)) ?_
  refine WL.g (.pl rfl rfl rfl) (fun hg => Y.neq (.gd (hg) rfl) (.pl rfl)) rfl ?_
  refine WL.q (Y.or (.pl rfl) (fun h2 => .gd (eqf h2) rfl)) rfl ?_
  refine WL.q (Y.move (.pl rfl)) rfl ?_
  refine WL.g (.pl rfl rfl rfl) (fun hg => Y.move (.pl rfl)) rfl ?_
  refine WL.g (.pl rfl rfl rfl) (fun hg => Y.len Try.underlying22 (.gd (hg) rfl)) rfl ?_
  refine WL.g (.pl rfl rfl rfl) (fun hg => Y.gtr (.gd (hg) rfl) (.pl rfl)) rfl ?_
  refine WL.q (Y.or (.pl rfl) (fun h2 => .gd (eqf h2) rfl)) rfl ?_
  refine WL.next hQ3 (.cons (i := 0) rfl (.cons (i := 4) rfl (.cons (i := 5) rfl (.cons (i := 47) rfl (.nil))))) ?_
  refine W.cond (.pl rfl) (fun hC4 => ?_) (fun hC4 => ?_)
  · replace hF := cpos hC4 hF
    -- region 2: object.go:36
    refine W.seqR fun Q5 hQ5 => ?_
    obtain ⟨r12, hr12, hF⟩ := bnd hF
    refine WL.step (WO.callP isGo24 (.nil) rfl (fun w hw => alibkeep_objectLives_ok (hr12) w ) ?_)
    refine WL.q (Y.assign (.pl rfl)) rfl ?_
    refine WL.next hQ5 (.cons (i := 6) rfl (.nil)) ?_
    obtain rfl := Option.some.inj hF
    refine W.retV (fn := Try.f6) (vs := [.bool r12]) Try.results6 ⟨.tmp rfl, trivial⟩ (fun _ _ h => h) (fun w hw => ?_)
    exact hR _ _ ⟨rfl, (hw.pick [] rfl)⟩
  · replace hF := cneg hC4 hF
    refine W.skip ?_
    refine W.go hK2 (.cons (i := 0) rfl (.cons (i := 4) rfl (.cons (i := 5) rfl (.nil)))) ?_
    -- region 3: object.go:38
    refine W.seqR fun Q6 hQ6 => ?_
    refine WL.q (Y.move (.pl rfl)) rfl ?_
    refine WL.q (Y.fieldAddr0 (off := 0) (ft := 3) Try.underlying28 rfl cells3 (.pl rfl)) rfl ?_
    refine WL.q (Y.loadB (v := .int .i64 a6.kind) Try.underlying3 rfl (.pl rfl) (i := 1) rfl (rfl)) rfl ?_
    refine WL.q (Y.fieldAddr0 (off := 1) (ft := 3) Try.underlying28 rfl cells3 (.pl rfl)) rfl ?_
    refine WL.q (Y.loadB (v := .int .i64 a6.arg) Try.underlying3 rfl (.pl rfl) (i := 1) rfl (rfl)) rfl ?_
    obtain ⟨r13, hr13, hF⟩ := bnd hF
    refine WL.step (WO.callM isGo30 (.cons (.pl rfl) (.cons (.pl rfl) (.cons (.pl rfl) (.cons (.pl rfl) (.nil))))) rfl (fun w hw => object_Step_ok (hr13) w (hs4.mono hw)) ?_)
    rintro ⟨A14, c15⟩ -
    refine WL.q (Y.move (.pl rfl)) rfl ?_
    refine WL.q (Y.extract (.pl rfl) rfl) rfl ?_
    refine WL.q (Y.extract (.pl rfl) rfl) rfl ?_
    refine WL.q (Y.extract (.pl rfl) rfl) rfl ?_
    refine WL.q (Y.assign (.pl rfl)) rfl ?_
    refine WL.q (Y.assign (.pl rfl)) rfl ?_
    refine WL.q (Y.assign (.pl rfl)) rfl ?_
    refine WL.next hQ6 (.cons (i := 0) rfl (.cons (i := 4) rfl (.cons (i := 5) rfl (.cons (i := 7) rfl (.cons (i := 8) rfl (.cons (i := 9) rfl (.nil))))))) ?_
    -- region 4: object.go:39
    refine W.seqR fun Q7 hQ7 => ?_
    refine WL.q (Y.move (.pl rfl)) rfl ?_
    refine WL.q (Y.fieldAddr0 (off := 0) (ft := 3) Try.underlying28 rfl cells3 (.pl rfl)) rfl ?_
    refine WL.q (Y.loadB (v := .int .i64 b7.kind) Try.underlying3 rfl (.pl rfl) (i := 1) rfl (rfl)) rfl ?_
    refine WL.q (Y.fieldAddr0 (off := 1) (ft := 3) Try.underlying28 rfl cells3 (.pl rfl)) rfl ?_
    refine WL.q (Y.loadB (v := .int .i64 b7.arg) Try.underlying3 rfl (.pl rfl) (i := 1) rfl (rfl)) rfl ?_
    obtain ⟨r16, hr16, hF⟩ := bnd hF
    refine WL.step (WO.callM isGo30 (.cons (.pl rfl) (.cons (.pl rfl) (.cons (.pl rfl) (.cons (.pl rfl) (.nil))))) rfl (fun w hw => object_Step_ok (hr16) w (SlIn.ofRow (fun _ => rfl) hw (i := 0) rfl)) ?_)
    rintro ⟨A17, c18⟩ -
    refine WL.q (Y.move (.pl rfl)) rfl ?_
    refine WL.q (Y.extract (.pl rfl) rfl) rfl ?_
    refine WL.q (Y.extract (.pl rfl) rfl) rfl ?_
    refine WL.q (Y.extract (.pl rfl) rfl) rfl ?_
    refine WL.q (Y.assign (.pl rfl)) rfl ?_
    refine WL.q (Y.assign (.pl rfl)) rfl ?_
    refine WL.q (Y.assign (.pl rfl)) rfl ?_
    refine WL.next hQ7 (.cons (i := 0) rfl (.cons (i := 4) rfl (.cons (i := 5) rfl (.cons (i := 8) rfl (.cons (i := 9) rfl (.cons (i := 10) rfl (.cons (i := 11) rfl (.cons (i := 12) rfl (.nil))))))))) ?_
    -- region 5: object.go:40
    refine W.seqR fun Q8 hQ8 => ?_
    refine WL.q (Y.move (.pl rfl)) rfl ?_
    refine WL.q (Y.fieldAddr0 (off := 0) (ft := 3) Try.underlying28 rfl cells3 (.pl rfl)) rfl ?_
    refine WL.q (Y.loadB (v := .int .i64 b7.kind) Try.underlying3 rfl (.pl rfl) (i := 2) rfl (rfl)) rfl ?_
    refine WL.q (Y.fieldAddr0 (off := 1) (ft := 3) Try.underlying28 rfl cells3 (.pl rfl)) rfl ?_
    refine WL.q (Y.loadB (v := .int .i64 b7.arg) Try.underlying3 rfl (.pl rfl) (i := 2) rfl (rfl)) rfl ?_
    obtain ⟨r19, hr19, hF⟩ := bnd hF
    refine WL.step (WO.callM isGo30 (.cons (.pl rfl) (.cons (.pl rfl) (.cons (.pl rfl) (.cons (.pl rfl) (.nil))))) rfl (fun w hw => object_Step_ok (hr19) w (hs4.mono hw)) ?_)
    rintro ⟨A20, c21⟩ -
    refine WL.q (Y.move (.pl rfl)) rfl ?_
    refine WL.q (Y.extract (.pl rfl) rfl) rfl ?_
    refine WL.q (Y.extract (.pl rfl) rfl) rfl ?_
    refine WL.q (Y.extract (.pl rfl) rfl) rfl ?_
    refine WL.q (Y.assign (.pl rfl)) rfl ?_
    refine WL.q (Y.assign (.pl rfl)) rfl ?_
    refine WL.q (Y.assign (.pl rfl)) rfl ?_
    refine WL.next hQ8 (.cons (i := 4) rfl (.cons (i := 8) rfl (.cons (i := 9) rfl (.cons (i := 10) rfl (.cons (i := 11) rfl (.cons (i := 12) rfl (.cons (i := 13) rfl (.cons (i := 14) rfl (.cons (i := 15) rfl (.nil)))))))))) ?_
    -- region 6: object.go:41
    refine W.seqR fun Q9 hQ9 => ?_
    refine WL.q (Y.move (.pl rfl)) rfl ?_
    refine WL.q (Y.fieldAddr0 (off := 0) (ft := 3) Try.underlying28 rfl cells3 (.pl rfl)) rfl ?_
    refine WL.q (Y.loadB (v := .int .i64 a6.kind) Try.underlying3 rfl (.pl rfl) (i := 4) rfl (rfl)) rfl ?_
    refine WL.q (Y.fieldAddr0 (off := 1) (ft := 3) Try.underlying28 rfl cells3 (.pl rfl)) rfl ?_
    refine WL.q (Y.loadB (v := .int .i64 a6.arg) Try.underlying3 rfl (.pl rfl) (i := 4) rfl (rfl)) rfl ?_
    obtain ⟨r22, hr22, hF⟩ := bnd hF
    refine WL.step (WO.callM isGo30 (.cons (.pl rfl) (.cons (.pl rfl) (.cons (.pl rfl) (.cons (.pl rfl) (.nil))))) rfl (fun w hw => object_Step_ok (hr22) w (SlIn.ofRow (fun _ => rfl) hw (i := 0) rfl)) ?_)
    rintro ⟨A23, c24⟩ -
    refine WL.q (Y.move (.pl rfl)) rfl ?_
    refine WL.q (Y.extract (.pl rfl) rfl) rfl ?_
    refine WL.q (Y.extract (.pl rfl) rfl) rfl ?_
    refine WL.q (Y.extract (.pl rfl) rfl) rfl ?_
    refine WL.q (Y.assign (.pl rfl)) rfl ?_
    refine WL.q (Y.assign (.pl rfl)) rfl ?_
    refine WL.q (Y.assign (.pl rfl)) rfl ?_
    refine WL.next hQ9 (.cons (i := 8) rfl (.cons (i := 9) rfl (.cons (i := 10) rfl (.cons (i := 11) rfl (.cons (i := 12) rfl (.cons (i := 14) rfl (.cons (i := 15) rfl (.cons (i := 16) rfl (.cons (i := 17) rfl (.cons (i := 18) rfl (.nil))))))))))) ?_
    refine W.seq fun K10 hK10 => ?_
    obtain ⟨o11, hF11, hF⟩ := bnd hF
    refine W.join1 (Em := fun (v25 : Bool) => [(100, .bool v25)]) (M := fun v25 => [cR (eI .i64) 1 A17 c18 3 r16.1, cR (eI .i64) 1 A23 c24 3 r22.1]) (I := fun v25 => v25 = o11) (.cons (i := 8) rfl (.cons (i := 10) rfl (.cons (i := 11) rfl (.cons (i := 14) rfl (.cons (i := 16) rfl (.cons (i := 17) rfl (.nil))))))) (fun K12 hK12 => ?_) ?_
    · -- up to
      -- region 7: object.go:42
      refine W.reg ?_
      refine WL.q (Y.move (.pl rfl)) rfl ?_
      refine WL.q (Y.move (.pl rfl)) rfl ?_
      refine WL.step (WO.bsliceC (enc := (eI .i64)) (ys := ([r13.2.2, r16.2.2] : List Int)) Try.underlying88 bz29 (.cons (.pl rfl) (.cons (.pl rfl) (.nil))) rfl (fun _ => rfl) rfl rfl (by decide) (by decide) rfl fun b26 => ?_)
      obtain ⟨r27, hr27, hF11⟩ := bnd hF11
      refine WL.step (WO.callP isGo28 (.cons (.pl rfl) (.nil)) rfl (fun w hw => alibkeep_ok_ok (hr27) w (SlIn.ofRow (fun _ => rfl) hw (i := 0) rfl)) ?_)
      refine WL.q (Y.not (.pl rfl)) rfl ?_
      refine WL.q (Y.move (.pl rfl)) rfl ?_
      refine WL.g (.pl rfl rfl rfl) (fun hg => Y.move (.pl rfl)) rfl ?_
      refine WL.g (.pl rfl rfl rfl) (fun hg => Y.move (.pl rfl)) rfl ?_
      refine bsplit ((!r27) == false) (fun hg13 => ?_) (fun hg13 => ?_)
      · replace hF11 := cpos hg13 hF11
        refine WL.gd (.pl rfl rfl rfl) (hg13) ?_
        refine WL.step (WO.bsliceC (enc := (eI .i64)) (ys := ([r19.2.2, r22.2.2] : List Int)) Try.underlying88 bz29 (.cons (.gd (hg13) rfl) (.cons (.gd (hg13) rfl) (.nil))) rfl (fun _ => rfl) rfl rfl (by decide) (by decide) rfl fun b28 => ?_)
        refine WL.gd (.pl rfl rfl rfl) (hg13) ?_
        obtain ⟨r29, hr29, hF11⟩ := bnd hF11
        refine WL.step (WO.callP isGo28 (.cons (.pl rfl) (.nil)) rfl (fun w hw => alibkeep_ok_ok (hr29) w (SlIn.ofRow (fun _ => rfl) hw (i := 0) rfl)) ?_)
        refine WL.gd (.pl rfl rfl rfl) (hg13) ?_
        refine WL.q (Y.not (.pl rfl)) rfl ?_
        refine WL.q (Y.or (.pl rfl) (fun _ => .pl rfl)) rfl ?_
        refine WL.nil ?_
        exact W.joinAt1 hK12 ((!r27) || (!r29)) (Option.some.inj hF11) (.cons rfl (.nil)) (.cons (i := 8) rfl (.cons (i := 10) rfl (.cons (i := 11) rfl (.cons (i := 14) rfl (.cons (i := 16) rfl (.cons (i := 17) rfl (.nil))))))) (fun w hw => hw.pick [4, 2] rfl)
      · replace hF11 := cneg hg13 hF11
        refine WL.gn (.pl rfl rfl rfl) hg13 rfl ?_
        refine WL.gn (.pl rfl rfl rfl) hg13 rfl ?_
        refine WL.gn (.pl rfl rfl rfl) hg13 rfl ?_
        refine WL.q (Y.or (b := false) (.pl rfl) (fun h2 => (gabsO hg13 h2).elim)) rfl ?_
        refine WL.nil ?_
        exact W.joinAt1 hK12 ((!r27) || false) (Option.some.inj hF11) (.cons rfl (.nil)) (.cons (i := 8) rfl (.cons (i := 10) rfl (.cons (i := 11) rfl (.cons (i := 14) rfl (.cons (i := 16) rfl (.cons (i := 17) rfl (.nil))))))) (fun w hw => hw.pick [3, 1] rfl)
    · -- behind
      rintro v25 rfl
      refine W.cond (.pl rfl) (fun hC14 => ?_) (fun hC14 => ?_)
      · replace hF := cpos hC14 hF
        -- region 8: object.go:43
        refine W.seqR fun Q15 hQ15 => ?_
        refine WL.q (Y.assign (.pl rfl)) rfl ?_
        refine WL.next hQ15 (.cons (i := 6) rfl (.nil)) ?_
        obtain rfl := Option.some.inj hF
        refine W.retV (fn := Try.f6) (vs := [.bool true]) Try.results6 ⟨.tmp rfl, trivial⟩ (fun _ _ h => h) (fun w hw => ?_)
        exact hR _ _ ⟨rfl, (hw.pick [] rfl)⟩
      · replace hF := cneg hC14 hF
        refine W.skip ?_
        refine W.go hK10 (.cons (i := 8) rfl (.cons (i := 10) rfl (.cons (i := 11) rfl (.cons (i := 14) rfl (.cons (i := 16) rfl (.cons (i := 17) rfl (.nil))))))) ?_
        -- region 9: object.go:45
        refine W.seqR fun Q16 hQ16 => ?_
        refine WL.q (Y.move (.pl rfl)) rfl ?_
        refine WL.q (Y.move (.pl rfl)) rfl ?_
        obtain ⟨r30, hr30, hF⟩ := bnd hF
        refine WL.step (WO.callP isGo31 (.cons (.pl rfl) (.cons (.pl rfl) (.nil))) rfl (fun w hw => slices_Equal_int_int_ok (hr30) w (SlIn.ofRow (fun _ => rfl) hw (i := 0) rfl) (SlIn.ofRow (fun _ => rfl) hw (i := 1) rfl)) ?_)
        refine WL.q (Y.move (.pl rfl)) rfl ?_
        refine WL.g (.pl rfl rfl rfl) (fun hg => Y.move (.pl rfl)) rfl ?_
        refine WL.g (.pl rfl rfl rfl) (fun hg => Y.move (.pl rfl)) rfl ?_
        refine WL.g (.pl rfl rfl rfl) (fun hg => Y.eql (.gd (hg) rfl) (.gd (hg) rfl)) rfl ?_
        refine WL.q (Y.and (.pl rfl) (fun h2 => .gd (eqt h2) rfl)) rfl ?_
        refine WL.q (Y.move (.pl rfl)) rfl ?_
        refine WL.g (.pl rfl rfl rfl) (fun hg => Y.move (.pl rfl)) rfl ?_
        refine WL.g (.pl rfl rfl rfl) (fun hg => Y.move (.pl rfl)) rfl ?_
        refine WL.g (.pl rfl rfl rfl) (fun hg => Y.eql (.gd (hg) rfl) (.gd (hg) rfl)) rfl ?_
        refine WL.q (Y.and (.pl rfl) (fun h2 => .gd (eqt h2) rfl)) rfl ?_
        refine WL.q (Y.assign (.pl rfl)) rfl ?_
        refine WL.next hQ16 (.cons (i := 6) rfl (.nil)) ?_
        obtain rfl := Option.some.inj hF
        refine W.retV (fn := Try.f6) (vs := [.bool ((r30 && (decide (r13.2.1 = r22.2.1))) && (decide (r16.2.1 = r19.2.1)))]) Try.results6 ⟨.tmp rfl, trivial⟩ (fun _ _ h => h) (fun w hw => ?_)
        exact hR _ _ ⟨rfl, (hw.pick [] rfl)⟩

end Go.Proofs.Ytpakplmpihhmbaa
