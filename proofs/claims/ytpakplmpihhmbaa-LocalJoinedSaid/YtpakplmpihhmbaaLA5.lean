/- LocalJoined: what the code computes, and the walk. -/
import Derived.Test.YtpakplmpihhmbaaLA3
set_option linter.unusedVariables false
set_option linter.unusedSimpArgs false
set_option linter.unusedSectionVars false
set_option maxRecDepth 100000
namespace Go.Proofs.Ytpakplmpihhmbaa
open Go.RowKit
theorem isGo43 : IsGo Try.prog 43 := ⟨_, Try.func43, by kernel_rfl, rfl⟩
theorem isGo55 : IsGo Try.prog 55 := ⟨_, Try.func55, by kernel_rfl, rfl⟩
theorem isGo58 : IsGo Try.prog 58 := ⟨_, Try.func58, by kernel_rfl, rfl⟩
theorem isGo59 : IsGo Try.prog 59 := ⟨_, Try.func59, by kernel_rfl, rfl⟩
theorem eqs58 : EqShape Try.prog 58 [true, true] := ⟨_, Try.underlying58, by kernel_rfl, by kernel_rfl, by kernel_rfl⟩
def slices_Equal_api_Step_api_Step_L3 (N : Nat) (s11 : (List Step)) (s26 : (List Step)) : Int → Option (Int ⊕ (Unit ⊕ Bool))
  | v11 =>
    cond (decide (v11 < ((s11).length : Int)))
      (bd (ix s11 v11) fun (x12 : Step) =>
      bd (ix s26 v11) fun (x13 : Step) =>
      cond (!(decide (x12 = x13)))
        (some (.inr (.inr false)))
        (ck (ok64 (v11 + 1)) <|
        some (.inl (v11 + 1))))
      (some (.inr (.inl ())))

def slices_Equal_api_Step_api_Step (N : Nat) (s11 : (List Step)) (s26 : (List Step)) : Option Bool :=
  cond (!(decide (((s11).length : Int) = ((s26).length : Int))))
    (some false)
    (bd (α := (Unit ⊕ Bool)) (iter (slices_Equal_api_Step_api_Step_L3 N s11 s26) N 0) <|
    Sum.elim (fun _ => 
      some true) (fun p => some p))

theorem slices_Equal_api_Step_api_Step_ok {N : Nat} {s11 : (List Step)} {s26 : (List Step)} {res : Bool} (hF : slices_Equal_api_Step_api_Step N s11 s26 = some res) (w : World) {v5 : Value} (hs4 : SlIn encStep 2 w v5 s11) {v10 : Value} (hs9 : SlIn encStep 2 w v10 s26) :
    Pure Try.prog 59 [v5, v10] w (.bool res) := by
  obtain ⟨A2, c3, rfl, hcc3, hs4⟩ := hs4.form
  obtain ⟨A7, c8, rfl, hcc8, hs9⟩ := hs9.form
  refine W.enter (n := 26) Try.func59 rfl rfl Sub.refl (by simp) (St.start w) fun R hR => ?_
  unfold slices_Equal_api_Step_api_Step at hF
  refine W.seqR fun Q1 hQ1 => ?_
  refine WL.q (Y.assign (.pl rfl)) rfl ?_
  refine WL.next hQ1 (.cons (i := 0) rfl (.cons (i := 1) rfl (.nil))) ?_
  refine W.seq fun K2 hK2 => ?_
  refine W.seqR fun Q3 hQ3 => ?_
  refine WL.q (Y.move (.pl rfl)) rfl ?_
  refine WL.q (Y.len Try.underlying44 (.pl rfl)) rfl ?_
  refine WL.q (Y.move (.pl rfl)) rfl ?_
  refine WL.q (Y.len Try.underlying44 (.pl rfl)) rfl ?_
  refine WL.q (Y.neq (.pl rfl) (.pl rfl)) rfl ?_
  refine WL.next hQ3 (.cons (i := 0) rfl (.cons (i := 1) rfl (.cons (i := 10) rfl (.nil)))) ?_
  refine W.cond (.pl rfl) (fun hC4 => ?_) (fun hC4 => ?_)
  · replace hF := cpos hC4 hF
    refine W.seqR fun Q5 hQ5 => ?_
    refine WL.q (Y.assign (.pl rfl)) rfl ?_
    refine WL.next hQ5 (.cons (i := 4) rfl (.nil)) ?_
    obtain rfl := Option.some.inj hF
    refine W.retV (fn := Try.f59) (vs := [.bool false]) Try.results59 ⟨.tmp rfl, trivial⟩ (fun _ _ h => h) (fun wz hw => ?_)
    exact hR _ _ ⟨rfl, (hw.pick [] rfl)⟩
  · replace hF := cneg hC4 hF
    refine W.skip ?_
    refine W.go hK2 (.cons (i := 0) rfl (.cons (i := 1) rfl (.nil))) ?_
    obtain ⟨o6, hF6, hF⟩ := bnd hF
    refine W.join0 (Em := []) (M := []) (I := (.inl ()) = o6) (.nil) (fun K7 hK7 => ?_) ?_
    · -- up to
      refine W.seqR fun Q8 hQ8 => ?_
      refine WL.q (Y.move (.pl rfl)) rfl ?_
      refine WL.q (Y.len Try.underlying44 (.pl rfl)) rfl ?_
      refine WL.q (Y.move (.pl rfl)) rfl ?_
      refine WL.next hQ8 (.cons (i := 0) rfl (.cons (i := 1) rfl (.cons (i := 12) rfl (.cons (i := 13) rfl (.nil))))) ?_
      refine W.block ?_
      refine W.loop1 (Em := fun (v11 : Int) => [(13, .int .i64 v11)]) (M := fun v11 => []) (I := fun v11 k9 => iter (slices_Equal_api_Step_api_Step_L3 N s11 s26) k9 v11 = some o6) 0 N (hF6) (.cons rfl (.nil)) (.cons (i := 0) rfl (.cons (i := 1) rfl (.cons (i := 12) rfl (.nil)))) (fun wz hw => hw.pick [] rfl) (fun v11 k9 hI K10 hK10 => ?_)
      obtain ⟨k9, t9, rfl, hF9, hN9⟩ := iter_step hI
      refine W.seqR fun Q11 hQ11 => ?_
      refine WL.q (Y.lss (.pl rfl) (.pl rfl)) rfl ?_
      refine WL.next hQ11 (.cons (i := 0) rfl (.cons (i := 1) rfl (.cons (i := 12) rfl (.cons (i := 13) rfl (.cons (i := 14) rfl (.nil)))))) ?_
      refine W.seq fun K12 hK12 => ?_
      refine W.cond (.pl rfl) (fun hC13 => ?_) (fun hC13 => ?_)
      · replace hF9 := cpos hC13 hF9
        refine W.skip ?_
        refine W.go hK12 (.cons (i := 0) rfl (.cons (i := 1) rfl (.cons (i := 12) rfl (.cons (i := 13) rfl (.nil))))) ?_
        refine W.seq fun K14 hK14 => ?_
        refine W.block ?_
        refine W.seqR fun Q15 hQ15 => ?_
        refine WL.q (Y.move (.pl rfl)) rfl ?_
        refine WL.q (Y.assign (.pl rfl)) rfl ?_
        refine WL.next hQ15 (.cons (i := 0) rfl (.cons (i := 1) rfl (.cons (i := 5) rfl (.cons (i := 12) rfl (.cons (i := 13) rfl (.nil)))))) ?_
        refine W.seqD (by kernel_rfl) (by kernel_rfl) fun R16 hR16 => ?_
        refine WD.q (Y.move (.pl rfl)) rfl ?_
        refine WD.q (Y.move (.pl rfl)) rfl ?_
        obtain ⟨x12, hx12, hF9⟩ := bnd hF9
        refine WD.q (Y.slEl Try.underlying44 cells58 hs4 (.pl rfl) (.pl rfl) (ix_lt (hx12))) rfl ?_
        refine WD.q (Y.loadSA (enc := encStep) (ds := (encStep x12)) (j := 0) Try.underlying58 rfl cells58 hs4 (.pl rfl) (hx12) rfl rfl subW) rfl ?_
        refine WD.q (Y.move (.pl rfl)) rfl ?_
        refine WD.q (Y.move (.pl rfl)) rfl ?_
        obtain ⟨x13, hx13, hF9⟩ := bnd hF9
        refine WD.q (Y.slEl Try.underlying44 cells58 hs9 (.pl rfl) (.pl rfl) (ix_lt (hx13))) rfl ?_
        refine WD.q (Y.loadSA (enc := encStep) (ds := (encStep x13)) (j := 0) Try.underlying58 rfl cells58 hs9 (.pl rfl) (hx13) rfl rfl subW) rfl ?_
        refine WD.q (Y.neqS eqs58 (.pl rfl) (.pl rfl) (eqStep x12 x13)) rfl ?_
        refine WD.next hR16 (.cons (i := 0) rfl (.cons (i := 1) rfl (.cons (i := 12) rfl (.cons (i := 13) rfl (.cons (i := 24) rfl (.nil)))))) ?_
        refine W.cond (.pl rfl) (fun hC17 => ?_) (fun hC17 => ?_)
        · replace hF9 := cpos hC17 hF9
          refine W.seqR fun Q18 hQ18 => ?_
          refine WL.q (Y.assign (.pl rfl)) rfl ?_
          refine WL.next hQ18 (.cons (i := 4) rfl (.nil)) ?_
          obtain rfl := Option.some.inj hF9
          obtain rfl := einr hN9
          obtain rfl := Option.some.inj hF
          refine W.retV (fn := Try.f59) (vs := [.bool false]) Try.results59 ⟨.tmp rfl, trivial⟩ (fun _ _ h => h) (fun wz hw => ?_)
          exact hR _ _ ⟨rfl, (hw.pick [] rfl)⟩
        · replace hF9 := cneg hC17 hF9
          refine W.skip ?_
          refine W.go hK14 (.cons (i := 0) rfl (.cons (i := 1) rfl (.cons (i := 12) rfl (.cons (i := 13) rfl (.nil))))) ?_
          refine W.reg ?_
          obtain ⟨hk14, hF9⟩ := ckh hF9
          refine WL.q (Y.add (.pl rfl) (.pl rfl) (ok64_lt (hk14))) rfl ?_
          refine WL.q (Y.move (.pl rfl)) rfl ?_
          refine WL.nil ?_
          obtain rfl := Option.some.inj hF9
          exact W.again1 hK10 (v11 + 1) k9 hN9 (Nat.lt_succ_self _) (.cons rfl (.nil)) (.cons (i := 0) rfl (.cons (i := 1) rfl (.cons (i := 12) rfl (.nil)))) (fun wz hw => hw.pick [] rfl)
      · replace hF9 := cneg hC13 hF9
        refine W.exit ?_
        obtain rfl := Option.some.inj hF9
        exact W.joinAt0 hK7  (einr hN9) (.nil) (.nil) (fun wz hw => hw.pick [] rfl)
    · -- behind
      rintro  rfl
      refine W.seqR fun Q20 hQ20 => ?_
      refine WL.q (Y.assign (.pl rfl)) rfl ?_
      refine WL.next hQ20 (.cons (i := 4) rfl (.nil)) ?_
      obtain rfl := Option.some.inj hF
      refine W.retV (fn := Try.f59) (vs := [.bool true]) Try.results59 ⟨.tmp rfl, trivial⟩ (fun _ _ h => h) (fun wz hw => ?_)
      exact hR _ _ ⟨rfl, (hw.pick [] rfl)⟩

def alibkeep_LocalJoined_L51 (N : Nat) (r17 : ((List Step) × Bool × Int)) (r20 : ((List Call) × Int × Int)) (v25 : Int) : ((List Step) × Int) → Option (((List Step) × Int) ⊕ ((List Step) ⊕ Bool))
  | (own31, v32) =>
    cond (decide (v32 < ((r17.1).length : Int)))
      (bd (ix r17.1 v32) fun (x33 : Step) =>
      cond ((decide (x33.call < 0)) || (decide (((r20.1).length : Int) ≤ x33.call)))
        (some (.inr (.inr false)))
        (bd (ix r20.1 x33.call) fun (x35 : Call) =>
        cond (decide (x35.thing = v25))
          (ck (limB 16 ((own31).length + (([x33] : List Step)).length)) <|
          ck (ok64 (v32 + 1)) <|
          some (.inl ((own31 ++ ([x33] : List Step)), (v32 + 1))))
          (ck (ok64 (v32 + 1)) <|
          some (.inl (own31, (v32 + 1))))))
      (some (.inr (.inl own31)))

def alibkeep_LocalJoined_L47 (N : Nat) (r11 : ((List (List Step)) × Int)) (r17 : ((List Step) × Bool × Int)) (r20 : ((List Call) × Int × Int)) : Int → Option (Int ⊕ (Unit ⊕ Bool))
  | v25 =>
    cond (decide (v25 < ((r11.1).length : Int)))
      (bd (α := (Unit ⊕ Bool)) (bd (α := ((List Step) ⊕ Bool)) (iter (alibkeep_LocalJoined_L51 N r17 r20 v25) N ([], 0)) <|
        Sum.elim (fun (own28 : (List Step)) => 
          bd (ix r11.1 v25) fun (x42 : (List Step)) =>
          bd (slices_Equal_api_Step_api_Step N own28 x42) fun (r43 : Bool) =>
          cond (!r43)
            (some (.inr false))
            (some (.inl ()))) (fun p => some (.inr p))) <|
      Sum.elim (fun _ => 
        ck (ok64 (v25 + 1)) <|
        some (.inl (v25 + 1))) (fun p => some (.inr (.inr p))))
      (some (.inr (.inl ())))

def alibkeep_LocalJoined (N : Nat) (types1 : (List Int)) (l6 : (List Event)) : Option Bool :=
  bd (local_Orders N types1 l6) fun (r11 : ((List (List Step)) × Int)) =>
  bd (alibkeep_localLives N) fun (r15 : Bool) =>
  cond ((!r15) || (!(decide (r11.2 = 0))))
    (bd (alibkeep_localLives N) fun (r16 : Bool) =>
    some (r16 && (decide (((r11.1).length : Int) = 0))))
    (bd (local_Join N types1 l6 r11.1) fun (r17 : ((List Step) × Bool × Int)) =>
    bd (history_Calls N types1 l6) fun (r20 : ((List Call) × Int × Int)) =>
    bd (alibkeep_ok N ([r17.2.2, r20.2.2] : List Int)) fun (r24 : Bool) =>
    cond ((!r24) || (!r17.2.1))
      (some false)
      (bd (α := (Unit ⊕ Bool)) (iter (alibkeep_LocalJoined_L47 N r11 r17 r20) N 0) <|
      Sum.elim (fun _ => 
        bd (search_Right N types1 l6 r17.1) fun (r45 : (Bool × Int)) =>
        some ((!(decide (r45.2 = 0))) || r45.1)) (fun p => some p)))

theorem alibkeep_LocalJoined_ok {N : Nat} {types1 : (List Int)} {l6 : (List Event)} {res : Bool} (hF : alibkeep_LocalJoined N types1 l6 = some res) (w : World) {v5 : Value} (hs4 : SlIn (eI .i64) 1 w v5 types1) {v10 : Value} (hs9 : SlIn encEvent 4 w v10 l6) :
    Pure Try.prog 19 [v5, v10] w (.bool res) := by
  obtain ⟨A2, c3, rfl, hcc3, hs4⟩ := hs4.form
  obtain ⟨A7, c8, rfl, hcc8, hs9⟩ := hs9.form
  refine W.enter (n := 115) Try.func19 rfl rfl Sub.refl (by simp) (St.start w) fun R hR => ?_
  unfold alibkeep_LocalJoined at hF
  refine W.seqR fun Q1 hQ1 => ?_
  refine WL.q (Y.assign (.pl rfl)) rfl ?_
  refine WL.next hQ1 (.cons (i := 0) rfl (.cons (i := 1) rfl (.nil))) ?_
  refine W.seqR fun Q2 hQ2 => ?_
  refine WL.q (Y.move (.pl rfl)) rfl ?_
  refine WL.q (Y.move (.pl rfl)) rfl ?_
  obtain ⟨r11, hr11, hF⟩ := bnd hF
  refine WL.step (WO.callM isGo57 (.cons (.pl rfl) (.cons (.pl rfl) (.nil))) rfl (fun wz hw => local_Orders_ok (hr11) wz (hs4.mono hw) (hs9.mono hw)) ?_)
  rintro ⟨A12, c13, hd14⟩ -
  refine WL.q (Y.move (.pl rfl)) rfl ?_
  refine WL.q (Y.extract (.pl rfl) rfl) rfl ?_
  refine WL.q (Y.extract (.pl rfl) rfl) rfl ?_
  refine WL.q (Y.assign (.pl rfl)) rfl ?_
  refine WL.q (Y.assign (.pl rfl)) rfl ?_
  refine WL.next hQ2 (.cons (i := 0) rfl (.cons (i := 1) rfl (.cons (i := 5) rfl (.cons (i := 6) rfl (.nil))))) ?_
  refine W.seq fun K3 hK3 => ?_
  refine W.seqR fun Q4 hQ4 => ?_
  obtain ⟨r15, hr15, hF⟩ := bnd hF
  refine WL.step (WO.callP isGo55 (.nil) rfl (fun wz hw => alibkeep_localLives_ok (hr15) wz ) ?_)
  refine WL.q (Y.not (.pl rfl)) rfl ?_
  refine WL.q (Y.move (.pl rfl)) rfl ?_
  refine WL.g (.pl rfl rfl rfl) (fun hg => Y.move (.pl rfl)) rfl ?_
  refine WL.g (.pl rfl rfl rfl) (fun hg => Y.neq (.gd (hg) rfl) (.pl rfl)) rfl ?_
  refine WL.q (Y.or (.pl rfl) (fun h2 => .gd (eqf h2) rfl)) rfl ?_
  refine WL.next hQ4 (.cons (i := 0) rfl (.cons (i := 1) rfl (.cons (i := 5) rfl (.cons (i := 30) rfl (.nil))))) ?_
  refine W.cond (.pl rfl) (fun hC5 => ?_) (fun hC5 => ?_)
  · replace hF := cpos hC5 hF
    refine W.seqR fun Q6 hQ6 => ?_
    obtain ⟨r16, hr16, hF⟩ := bnd hF
    refine WL.step (WO.callP isGo55 (.nil) rfl (fun wz hw => alibkeep_localLives_ok (hr16) wz ) ?_)
    refine WL.q (Y.move (.pl rfl)) rfl ?_
    refine WL.g (.pl rfl rfl rfl) (fun hg => Y.move (.pl rfl)) rfl ?_
    refine WL.g (.pl rfl rfl rfl) (fun hg => Y.len Try.underlying78 (.gd (hg) rfl)) rfl ?_
    refine WL.g (.pl rfl rfl rfl) (fun hg => Y.eql (.gd (hg) rfl) (.pl rfl)) rfl ?_
    refine WL.q (Y.and (.pl rfl) (fun h2 => .gd (eqt h2) rfl)) rfl ?_
    refine WL.q (Y.assign (.pl rfl)) rfl ?_
    refine WL.next hQ6 (.cons (i := 4) rfl (.nil)) ?_
    obtain rfl := Option.some.inj hF
    refine W.retV (fn := Try.f19) (vs := [.bool (r16 && (decide (((r11.1).length : Int) = 0)))]) Try.results19 ⟨.tmp rfl, trivial⟩ (fun _ _ h => h) (fun wz hw => ?_)
    exact hR _ _ ⟨rfl, (hw.pick [] rfl)⟩
  · replace hF := cneg hC5 hF
    refine W.skip ?_
    refine W.go hK3 (.cons (i := 0) rfl (.cons (i := 1) rfl (.cons (i := 5) rfl (.nil)))) ?_
    refine W.seqR fun Q7 hQ7 => ?_
    refine WL.q (Y.move (.pl rfl)) rfl ?_
    refine WL.q (Y.move (.pl rfl)) rfl ?_
    refine WL.q (Y.move (.pl rfl)) rfl ?_
    obtain ⟨r17, hr17, hF⟩ := bnd hF
    refine WL.step (WO.callM isGo58 (.cons (.pl rfl) (.cons (.pl rfl) (.cons (.pl rfl) (.nil)))) rfl (fun wz hw => local_Join_ok (hr17) wz (hs4.mono hw) (hs9.mono hw) (SlNN.ofN lenStep hw (i := 0) rfl)) ?_)
    rintro ⟨A18, c19⟩ -
    refine WL.q (Y.move (.pl rfl)) rfl ?_
    refine WL.q (Y.extract (.pl rfl) rfl) rfl ?_
    refine WL.q (Y.extract (.pl rfl) rfl) rfl ?_
    refine WL.q (Y.extract (.pl rfl) rfl) rfl ?_
    refine WL.q (Y.assign (.pl rfl)) rfl ?_
    refine WL.q (Y.assign (.pl rfl)) rfl ?_
    refine WL.q (Y.assign (.pl rfl)) rfl ?_
    refine WL.next hQ7 (.cons (i := 0) rfl (.cons (i := 1) rfl (.cons (i := 5) rfl (.cons (i := 7) rfl (.cons (i := 8) rfl (.cons (i := 9) rfl (.nil))))))) ?_
    refine W.seqR fun Q8 hQ8 => ?_
    refine WL.q (Y.move (.pl rfl)) rfl ?_
    refine WL.q (Y.move (.pl rfl)) rfl ?_
    obtain ⟨r20, hr20, hF⟩ := bnd hF
    refine WL.step (WO.callM isGo37 (.cons (.pl rfl) (.cons (.pl rfl) (.nil))) rfl (fun wz hw => history_Calls_ok (hr20) wz (hs4.mono hw) (hs9.mono hw)) ?_)
    rintro ⟨A21, c22⟩ -
    refine WL.q (Y.move (.pl rfl)) rfl ?_
    refine WL.q (Y.extract (.pl rfl) rfl) rfl ?_
    refine WL.q (Y.extract (.pl rfl) rfl) rfl ?_
    refine WL.q (Y.extract (.pl rfl) rfl) rfl ?_
    refine WL.q (Y.assign (.pl rfl)) rfl ?_
    refine WL.q (Y.assign (.pl rfl)) rfl ?_
    refine WL.q (Y.assign (.pl rfl)) rfl ?_
    refine WL.next hQ8 (.cons (i := 0) rfl (.cons (i := 1) rfl (.cons (i := 5) rfl (.cons (i := 7) rfl (.cons (i := 8) rfl (.cons (i := 9) rfl (.cons (i := 10) rfl (.cons (i := 12) rfl (.nil))))))))) ?_
    refine W.seq fun K9 hK9 => ?_
    refine W.seqR fun Q10 hQ10 => ?_
    refine WL.q (Y.move (.pl rfl)) rfl ?_
    refine WL.q (Y.move (.pl rfl)) rfl ?_
    refine WL.step (WO.bsliceC (enc := (eI .i64)) (ys := ([r17.2.2, r20.2.2] : List Int)) Try.underlying88 bz29 (.cons (.pl rfl) (.cons (.pl rfl) (.nil))) rfl (fun _ => rfl) rfl rfl (by decide) (by decide) rfl fun b23 => ?_)
    obtain ⟨r24, hr24, hF⟩ := bnd hF
    refine WL.step (WO.callP isGo28 (.cons (.pl rfl) (.nil)) rfl (fun wz hw => alibkeep_ok_ok (hr24) wz (SlIn.ofRow (fun _ => rfl) hw (i := 0) rfl)) ?_)
    refine WL.q (Y.not (.pl rfl)) rfl ?_
    refine WL.q (Y.move (.pl rfl)) rfl ?_
    refine WL.g (.pl rfl rfl rfl) (fun hg => Y.move (.pl rfl)) rfl ?_
    refine WL.g (.pl rfl rfl rfl) (fun hg => Y.not (.gd (hg) rfl)) rfl ?_
    refine WL.q (Y.or (.pl rfl) (fun h2 => .gd (eqf h2) rfl)) rfl ?_
    refine WL.next hQ10 (.cons (i := 0) rfl (.cons (i := 1) rfl (.cons (i := 5) rfl (.cons (i := 7) rfl (.cons (i := 10) rfl (.cons (i := 60) rfl (.nil))))))) ?_
    refine W.cond (.pl rfl) (fun hC11 => ?_) (fun hC11 => ?_)
    · replace hF := cpos hC11 hF
      refine W.seqR fun Q12 hQ12 => ?_
      refine WL.q (Y.assign (.pl rfl)) rfl ?_
      refine WL.next hQ12 (.cons (i := 4) rfl (.nil)) ?_
      obtain rfl := Option.some.inj hF
      refine W.retV (fn := Try.f19) (vs := [.bool false]) Try.results19 ⟨.tmp rfl, trivial⟩ (fun _ _ h => h) (fun wz hw => ?_)
      exact hR _ _ ⟨rfl, (hw.pick [] rfl)⟩
    · replace hF := cneg hC11 hF
      refine W.skip ?_
      refine W.go hK9 (.cons (i := 0) rfl (.cons (i := 1) rfl (.cons (i := 5) rfl (.cons (i := 7) rfl (.cons (i := 10) rfl (.nil)))))) ?_
      obtain ⟨o13, hF13, hF⟩ := bnd hF
      refine W.join0 (Em := []) (M := [cR encStep 2 A18 c19 58 r17.1]) (I := (.inl ()) = o13) (.cons (i := 0) rfl (.cons (i := 1) rfl (.cons (i := 7) rfl (.nil)))) (fun K14 hK14 => ?_) ?_
      · -- up to
        refine W.seqR fun Q15 hQ15 => ?_
        refine WL.q (Y.move (.pl rfl)) rfl ?_
        refine WL.q (Y.len Try.underlying78 (.pl rfl)) rfl ?_
        refine WL.q (Y.move (.pl rfl)) rfl ?_
        refine WL.next hQ15 (.cons (i := 0) rfl (.cons (i := 1) rfl (.cons (i := 5) rfl (.cons (i := 7) rfl (.cons (i := 10) rfl (.cons (i := 62) rfl (.cons (i := 63) rfl (.nil)))))))) ?_
        refine W.block ?_
        refine W.loop1 (Em := fun (v25 : Int) => [(63, .int .i64 v25)]) (M := fun v25 => [cN encSl (innSl encStep 2 58) 1 A12 c13 44 hd14 r11.1, cR encStep 2 A18 c19 58 r17.1, cR encCall 7 A21 c22 55 r20.1]) (I := fun v25 k16 => iter (alibkeep_LocalJoined_L47 N r11 r17 r20) k16 v25 = some o13) 0 N (hF13) (.cons rfl (.nil)) (.cons (i := 0) rfl (.cons (i := 1) rfl (.cons (i := 5) rfl (.cons (i := 7) rfl (.cons (i := 10) rfl (.cons (i := 62) rfl (.nil))))))) (fun wz hw => hw.pick [3, 2, 1] rfl) (fun v25 k16 hI K17 hK17 => ?_)
        obtain ⟨k16, t16, rfl, hF16, hN16⟩ := iter_step hI
        refine W.seqR fun Q18 hQ18 => ?_
        refine WL.q (Y.lss (.pl rfl) (.pl rfl)) rfl ?_
        refine WL.next hQ18 (.cons (i := 0) rfl (.cons (i := 1) rfl (.cons (i := 5) rfl (.cons (i := 7) rfl (.cons (i := 10) rfl (.cons (i := 62) rfl (.cons (i := 63) rfl (.cons (i := 64) rfl (.nil))))))))) ?_
        refine W.seq fun K19 hK19 => ?_
        refine W.cond (.pl rfl) (fun hC20 => ?_) (fun hC20 => ?_)
        · replace hF16 := cpos hC20 hF16
          refine W.skip ?_
          refine W.go hK19 (.cons (i := 0) rfl (.cons (i := 1) rfl (.cons (i := 5) rfl (.cons (i := 7) rfl (.cons (i := 10) rfl (.cons (i := 62) rfl (.cons (i := 63) rfl (.nil)))))))) ?_
          obtain ⟨o21, hF21, hF16⟩ := bnd hF16
          refine W.join0 (Em := []) (M := [cN encSl (innSl encStep 2 58) 1 A12 c13 44 hd14 r11.1, cR encStep 2 A18 c19 58 r17.1, cR encCall 7 A21 c22 55 r20.1]) (I := (.inl ()) = o21) (.cons (i := 0) rfl (.cons (i := 1) rfl (.cons (i := 5) rfl (.cons (i := 7) rfl (.cons (i := 10) rfl (.cons (i := 62) rfl (.cons (i := 63) rfl (.nil)))))))) (fun K22 hK22 => ?_) ?_
          · -- up to
            refine W.block ?_
            refine W.seqR fun Q23 hQ23 => ?_
            refine WL.q (Y.move (.pl rfl)) rfl ?_
            refine WL.q (Y.assign (.pl rfl)) rfl ?_
            refine WL.next hQ23 (.cons (i := 0) rfl (.cons (i := 1) rfl (.cons (i := 5) rfl (.cons (i := 7) rfl (.cons (i := 10) rfl (.cons (i := 13) rfl (.cons (i := 62) rfl (.cons (i := 63) rfl (.nil))))))))) ?_
            refine W.seqR fun Q24 hQ24 => ?_
            refine WL.q (Y.assign (.pl rfl)) rfl ?_
            refine WL.next hQ24 (.cons (i := 0) rfl (.cons (i := 1) rfl (.cons (i := 5) rfl (.cons (i := 7) rfl (.cons (i := 10) rfl (.cons (i := 13) rfl (.cons (i := 14) rfl (.cons (i := 62) rfl (.cons (i := 63) rfl (.nil)))))))))) ?_
            obtain ⟨o25, hF25, hF21⟩ := bnd hF21
            refine W.join3 (Em := fun (own28 : (List Step)) (A26 : Option Addr) (c27 : Nat) => [(14, .slice A26 (own28).length c27)]) (M := fun own28 A26 c27 => [cN encSl (innSl encStep 2 58) 1 A12 c13 44 hd14 r11.1, cR encStep 2 A18 c19 58 r17.1, cR encCall 7 A21 c22 55 r20.1, cR encStep 2 A26 c27 58 own28]) (I := fun own28 A26 c27 => (.inl own28) = o25) (.cons (i := 0) rfl (.cons (i := 1) rfl (.cons (i := 5) rfl (.cons (i := 7) rfl (.cons (i := 10) rfl (.cons (i := 13) rfl (.cons (i := 62) rfl (.cons (i := 63) rfl (.nil))))))))) (fun K26 hK26 => ?_) ?_
            · -- up to
              refine W.seqR fun Q27 hQ27 => ?_
              refine WL.q (Y.move (.pl rfl)) rfl ?_
              refine WL.q (Y.len Try.underlying44 (.pl rfl)) rfl ?_
              refine WL.q (Y.move (.pl rfl)) rfl ?_
              refine WL.next hQ27 (.cons (i := 0) rfl (.cons (i := 1) rfl (.cons (i := 5) rfl (.cons (i := 7) rfl (.cons (i := 10) rfl (.cons (i := 13) rfl (.cons (i := 14) rfl (.cons (i := 62) rfl (.cons (i := 63) rfl (.cons (i := 66) rfl (.cons (i := 67) rfl (.cons (i := 68) rfl (.nil))))))))))))) ?_
              refine W.block ?_
              refine W.loop4 (Em := fun (own31 : (List Step)) (v32 : Int) (A29 : Option Addr) (c30 : Nat) => [(14, .slice A29 (own31).length c30), (68, .int .i64 v32)]) (M := fun own31 v32 A29 c30 => [cN encSl (innSl encStep 2 58) 1 A12 c13 44 hd14 r11.1, cR encStep 2 A18 c19 58 r17.1, cR encCall 7 A21 c22 55 r20.1, cR encStep 2 A29 c30 58 own31]) (I := fun own31 v32 A29 c30 k28 => iter (alibkeep_LocalJoined_L51 N r17 r20 v25) k28 (own31, v32) = some o25) [] 0 none 0 N (hF25) (.cons rfl (.cons rfl (.nil))) (.cons (i := 0) rfl (.cons (i := 1) rfl (.cons (i := 5) rfl (.cons (i := 7) rfl (.cons (i := 10) rfl (.cons (i := 13) rfl (.cons (i := 62) rfl (.cons (i := 63) rfl (.cons (i := 66) rfl (.cons (i := 67) rfl (.nil))))))))))) (fun wz hw => (St.nilR (hw.pick [0, 1, 2] rfl) encStep 2 58).pick [1, 2, 3, 0] rfl) (fun own31 v32 A29 c30 k28 hI K29 hK29 => ?_)
              obtain ⟨k28, t28, rfl, hF28, hN28⟩ := iter_step hI
              refine W.seqR fun Q30 hQ30 => ?_
              refine WL.q (Y.lss (.pl rfl) (.pl rfl)) rfl ?_
              refine WL.next hQ30 (.cons (i := 0) rfl (.cons (i := 1) rfl (.cons (i := 5) rfl (.cons (i := 7) rfl (.cons (i := 10) rfl (.cons (i := 13) rfl (.cons (i := 14) rfl (.cons (i := 62) rfl (.cons (i := 63) rfl (.cons (i := 66) rfl (.cons (i := 67) rfl (.cons (i := 68) rfl (.cons (i := 69) rfl (.nil)))))))))))))) ?_
              refine W.seq fun K31 hK31 => ?_
              refine W.cond (.pl rfl) (fun hC32 => ?_) (fun hC32 => ?_)
              · replace hF28 := cpos hC32 hF28
                refine W.skip ?_
                refine W.go hK31 (.cons (i := 0) rfl (.cons (i := 1) rfl (.cons (i := 5) rfl (.cons (i := 7) rfl (.cons (i := 10) rfl (.cons (i := 13) rfl (.cons (i := 14) rfl (.cons (i := 62) rfl (.cons (i := 63) rfl (.cons (i := 66) rfl (.cons (i := 67) rfl (.cons (i := 68) rfl (.nil))))))))))))) ?_
                refine W.seq fun K33 hK33 => ?_
                refine W.block ?_
                refine W.seqR fun Q34 hQ34 => ?_
                obtain ⟨x33, hx33, hF28⟩ := bnd hF28
                refine WL.q (Y.rowEl Try.underlying44 cells58 (i := 1) rfl (.pl rfl) rfl (.pl rfl) (ix_lt (hx33))) rfl ?_
                refine WL.q (Y.loadRA (enc := encStep) (ds := (encStep x33)) (a := x33) (idx := v32) (j := 0) Try.underlying58 rfl cells58 lenStep (i := 1) rfl (.pl rfl) (ix_get (hx33)) rfl rfl subW) rfl ?_
                refine WL.step (WO.alloc (cs := (encStep (Step.mk 0 0)).toArray) zero58 rfl rfl fun b34 => ?_)
                refine WL.step (WO.storeBA (ds := (encStep x33)) (cs' := (encStep x33)) cells58 (.pl rfl) (.pl rfl) rfl (oneStep _) (i := 0) rfl (lel (o := 0) (l := 2) (m := 2) (by decide) rfl rfl) (putW rfl) ?_)
                refine WL.next hQ34 (.cons (i := 0) rfl (.cons (i := 1) rfl (.cons (i := 5) rfl (.cons (i := 7) rfl (.cons (i := 10) rfl (.cons (i := 13) rfl (.cons (i := 14) rfl (.cons (i := 16) rfl (.cons (i := 62) rfl (.cons (i := 63) rfl (.cons (i := 66) rfl (.cons (i := 67) rfl (.cons (i := 68) rfl (.nil)))))))))))))) ?_
                refine W.seq fun K35 hK35 => ?_
                refine W.seqR fun Q36 hQ36 => ?_
                refine WL.q (Y.fieldAddr0 (off := 0) (ft := 3) Try.underlying58 rfl cells3 (.pl rfl)) rfl ?_
                refine WL.q (Y.loadB (v := .int .i64 x33.call) Try.underlying3 rfl (.pl rfl) (i := 0) rfl (rfl)) rfl ?_
                refine WL.q (Y.lss (.pl rfl) (.pl rfl)) rfl ?_
                refine WL.q (Y.move (.pl rfl)) rfl ?_
                refine WL.g (.pl rfl rfl rfl) (fun hg => Y.fieldAddr0 (off := 0) (ft := 3) Try.underlying58 rfl cells3 (.pl rfl)) rfl ?_
                refine WL.g (.pl rfl rfl rfl) (fun hg => Y.loadB (v := .int .i64 x33.call) Try.underlying3 rfl (.gd (hg) rfl) (i := 0) rfl (rfl)) rfl ?_
                refine WL.g (.pl rfl rfl rfl) (fun hg => Y.move (.pl rfl)) rfl ?_
                refine WL.g (.pl rfl rfl rfl) (fun hg => Y.len Try.underlying51 (.gd (hg) rfl)) rfl ?_
                refine WL.g (.pl rfl rfl rfl) (fun hg => Y.geq (.gd (hg) rfl) (.gd (hg) rfl)) rfl ?_
                refine WL.q (Y.or (.pl rfl) (fun h2 => .gd (eqf h2) rfl)) rfl ?_
                refine WL.next hQ36 (.cons (i := 0) rfl (.cons (i := 1) rfl (.cons (i := 5) rfl (.cons (i := 7) rfl (.cons (i := 10) rfl (.cons (i := 13) rfl (.cons (i := 14) rfl (.cons (i := 16) rfl (.cons (i := 62) rfl (.cons (i := 63) rfl (.cons (i := 66) rfl (.cons (i := 67) rfl (.cons (i := 68) rfl (.cons (i := 81) rfl (.nil))))))))))))))) ?_
                refine W.cond (.pl rfl) (fun hC37 => ?_) (fun hC37 => ?_)
                · replace hF28 := cpos hC37 hF28
                  refine W.seqR fun Q38 hQ38 => ?_
                  refine WL.q (Y.assign (.pl rfl)) rfl ?_
                  refine WL.next hQ38 (.cons (i := 4) rfl (.nil)) ?_
                  obtain rfl := Option.some.inj hF28
                  obtain rfl := einr hN28
                  obtain rfl := Option.some.inj hF21
                  obtain rfl := Option.some.inj hF16
                  obtain rfl := einr hN16
                  obtain rfl := Option.some.inj hF
                  refine W.retV (fn := Try.f19) (vs := [.bool false]) Try.results19 ⟨.tmp rfl, trivial⟩ (fun _ _ h => h) (fun wz hw => ?_)
                  exact hR _ _ ⟨rfl, (hw.pick [] rfl)⟩
                · replace hF28 := cneg hC37 hF28
                  refine W.skip ?_
                  refine W.go hK35 (.cons (i := 0) rfl (.cons (i := 1) rfl (.cons (i := 5) rfl (.cons (i := 7) rfl (.cons (i := 10) rfl (.cons (i := 13) rfl (.cons (i := 14) rfl (.cons (i := 16) rfl (.cons (i := 62) rfl (.cons (i := 63) rfl (.cons (i := 66) rfl (.cons (i := 67) rfl (.cons (i := 68) rfl (.nil)))))))))))))) ?_
                  refine W.seqR fun Q39 hQ39 => ?_
                  refine WL.q (Y.move (.pl rfl)) rfl ?_
                  refine WL.q (Y.fieldAddr0 (off := 0) (ft := 3) Try.underlying58 rfl cells3 (.pl rfl)) rfl ?_
                  refine WL.q (Y.loadB (v := .int .i64 x33.call) Try.underlying3 rfl (.pl rfl) (i := 0) rfl (rfl)) rfl ?_
                  obtain ⟨x35, hx35, hF28⟩ := bnd hF28
                  refine WL.q (Y.rowEl Try.underlying51 cells55 (i := 3) rfl (.pl rfl) rfl (.pl rfl) (ix_lt (hx35))) rfl ?_
                  refine WL.q (Y.rowField (off := 1) (ft := 3) Try.underlying55 rfl cells3 (i' := 3) rfl (ix_lt (hx35)) (.pl rfl)) rfl ?_
                  refine WL.q (Y.loadR (enc := encCall) (v := .int .i64 x35.thing) (a := x35) (idx := x33.call) (j := 1) Try.underlying3 rfl lenCall (i := 3) rfl (.pl rfl) (ix_get (hx35)) rfl rfl) rfl ?_
                  refine WL.q (Y.move (.pl rfl)) rfl ?_
                  refine WL.q (Y.eql (.pl rfl) (.pl rfl)) rfl ?_
                  refine WL.next hQ39 (.cons (i := 0) rfl (.cons (i := 1) rfl (.cons (i := 5) rfl (.cons (i := 7) rfl (.cons (i := 10) rfl (.cons (i := 13) rfl (.cons (i := 14) rfl (.cons (i := 16) rfl (.cons (i := 62) rfl (.cons (i := 63) rfl (.cons (i := 66) rfl (.cons (i := 67) rfl (.cons (i := 68) rfl (.cons (i := 89) rfl (.nil))))))))))))))) ?_
                  refine W.cond (.pl rfl) (fun hC40 => ?_) (fun hC40 => ?_)
                  · replace hF28 := cpos hC40 hF28
                    refine W.reg ?_
                    refine WL.q (Y.move (.pl rfl)) rfl ?_
                    refine WL.q (Y.loadBA (ds := (encStep x33)) Try.underlying58 rfl cells58 (.pl rfl) (i := 0) rfl rfl subW) rfl ?_
                    refine WL.step (WO.bsliceC (enc := encStep) (ys := ([x33] : List Step)) Try.underlying44 bz58 (.cons (.pl rfl) (.nil)) rfl lenStep rfl rfl (by decide) (by decide) rfl fun b36 => ?_)
                    obtain ⟨hk39, hF28⟩ := ckh hF28
                    refine WL.step (WO.appendC (enc := encStep) Try.underlying44 ap58 lenStep oneStep (.pl rfl) rfl (.pl rfl) (i := 5) rfl (m2 := 0) rfl (hk39) rfl fun A37 c38 => ?_)
                    refine WL.q (Y.assign (.pl rfl)) rfl ?_
                    refine WL.nil ?_
                    refine W.go hK33 (.cons (i := 0) rfl (.cons (i := 1) rfl (.cons (i := 5) rfl (.cons (i := 7) rfl (.cons (i := 10) rfl (.cons (i := 13) rfl (.cons (i := 14) rfl (.cons (i := 62) rfl (.cons (i := 63) rfl (.cons (i := 66) rfl (.cons (i := 67) rfl (.cons (i := 68) rfl (.nil))))))))))))) ?_
                    refine W.reg ?_
                    obtain ⟨hk40, hF28⟩ := ckh hF28
                    refine WL.q (Y.add (.pl rfl) (.pl rfl) (ok64_lt (hk40))) rfl ?_
                    refine WL.q (Y.move (.pl rfl)) rfl ?_
                    refine WL.nil ?_
                    obtain rfl := Option.some.inj hF28
                    exact W.again4 hK29 (own31 ++ ([x33] : List Step)) (v32 + 1) A37 c38 k28 hN28 (Nat.lt_succ_self _) (.cons rfl (.cons rfl (.nil))) (.cons (i := 0) rfl (.cons (i := 1) rfl (.cons (i := 5) rfl (.cons (i := 7) rfl (.cons (i := 10) rfl (.cons (i := 13) rfl (.cons (i := 62) rfl (.cons (i := 63) rfl (.cons (i := 66) rfl (.cons (i := 67) rfl (.nil))))))))))) (fun wz hw => hw.pick [2, 3, 4, 5] rfl)
                  · replace hF28 := cneg hC40 hF28
                    refine W.skip ?_
                    refine W.go hK33 (.cons (i := 0) rfl (.cons (i := 1) rfl (.cons (i := 5) rfl (.cons (i := 7) rfl (.cons (i := 10) rfl (.cons (i := 13) rfl (.cons (i := 14) rfl (.cons (i := 62) rfl (.cons (i := 63) rfl (.cons (i := 66) rfl (.cons (i := 67) rfl (.cons (i := 68) rfl (.nil))))))))))))) ?_
                    refine W.reg ?_
                    obtain ⟨hk41, hF28⟩ := ckh hF28
                    refine WL.q (Y.add (.pl rfl) (.pl rfl) (ok64_lt (hk41))) rfl ?_
                    refine WL.q (Y.move (.pl rfl)) rfl ?_
                    refine WL.nil ?_
                    obtain rfl := Option.some.inj hF28
                    exact W.again4 hK29 own31 (v32 + 1) A29 c30 k28 hN28 (Nat.lt_succ_self _) (.cons rfl (.cons rfl (.nil))) (.cons (i := 0) rfl (.cons (i := 1) rfl (.cons (i := 5) rfl (.cons (i := 7) rfl (.cons (i := 10) rfl (.cons (i := 13) rfl (.cons (i := 62) rfl (.cons (i := 63) rfl (.cons (i := 66) rfl (.cons (i := 67) rfl (.nil))))))))))) (fun wz hw => hw.pick [1, 2, 3, 4] rfl)
              · replace hF28 := cneg hC32 hF28
                refine W.exit ?_
                obtain rfl := Option.some.inj hF28
                exact W.joinAt3 hK26 own31 A29 c30 (einr hN28) (.cons rfl (.nil)) (.cons (i := 0) rfl (.cons (i := 1) rfl (.cons (i := 5) rfl (.cons (i := 7) rfl (.cons (i := 10) rfl (.cons (i := 13) rfl (.cons (i := 62) rfl (.cons (i := 63) rfl (.nil))))))))) (fun wz hw => hw.pick [0, 1, 2, 3] rfl)
            · -- behind
              rintro own28 A26 c27 rfl
              refine W.seqR fun Q44 hQ44 => ?_
              refine WL.q (Y.move (.pl rfl)) rfl ?_
              refine WL.q (Y.move (.pl rfl)) rfl ?_
              refine WL.q (Y.move (.pl rfl)) rfl ?_
              obtain ⟨x42, hx42, hF21⟩ := bnd hF21
              refine WL.q (Y.nEl Try.underlying78 cells44 (i := 0) rfl (.pl rfl) rfl (.pl rfl) (ix_lt (hx42))) rfl ?_
              refine WL.q (Y.loadN (enc := encSl) (h0 := ((none, 0) : Hd)) (v := .slice (hd14.getD v25.toNat ((none, 0) : Hd)).1 (x42).length (hd14.getD v25.toNat ((none, 0) : Hd)).2) (a := x42) (idx := v25) (j := 0) Try.underlying44 rfl lenSl (i := 0) rfl (.pl rfl) (ix_get (hx42)) rfl rfl) rfl ?_
              obtain ⟨r43, hr43, hF21⟩ := bnd hF21
              refine WL.step (WO.callP isGo59 (.cons (.pl rfl) (.cons (.pl rfl) (.nil))) rfl (fun wz hw => slices_Equal_api_Step_api_Step_ok (hr43) wz (SlIn.ofRow lenStep hw (i := 3) rfl) (SlIn.inN (enc2 := encStep) (sz2 := 2) (E2 := 58) (h0 := ((none, 0) : Hd)) lenStep hw (i := 0) rfl (hx42) (.head _))) ?_)
              refine WL.q (Y.not (.pl rfl)) rfl ?_
              refine WL.next hQ44 (.cons (i := 0) rfl (.cons (i := 1) rfl (.cons (i := 5) rfl (.cons (i := 7) rfl (.cons (i := 10) rfl (.cons (i := 62) rfl (.cons (i := 63) rfl (.cons (i := 101) rfl (.nil))))))))) ?_
              refine W.cond (.pl rfl) (fun hC45 => ?_) (fun hC45 => ?_)
              · replace hF21 := cpos hC45 hF21
                refine W.seqR fun Q46 hQ46 => ?_
                refine WL.q (Y.assign (.pl rfl)) rfl ?_
                refine WL.next hQ46 (.cons (i := 4) rfl (.nil)) ?_
                obtain rfl := Option.some.inj hF21
                obtain rfl := Option.some.inj hF16
                obtain rfl := einr hN16
                obtain rfl := Option.some.inj hF
                refine W.retV (fn := Try.f19) (vs := [.bool false]) Try.results19 ⟨.tmp rfl, trivial⟩ (fun _ _ h => h) (fun wz hw => ?_)
                exact hR _ _ ⟨rfl, (hw.pick [] rfl)⟩
              · replace hF21 := cneg hC45 hF21
                refine W.skip ?_
                exact W.joinAt0 hK22  (Option.some.inj hF21) (.nil) (.cons (i := 0) rfl (.cons (i := 1) rfl (.cons (i := 5) rfl (.cons (i := 7) rfl (.cons (i := 10) rfl (.cons (i := 62) rfl (.cons (i := 63) rfl (.nil)))))))) (fun wz hw => hw.pick [0, 1, 2] rfl)
          · -- behind
            rintro  rfl
            refine W.reg ?_
            obtain ⟨hk44, hF16⟩ := ckh hF16
            refine WL.q (Y.add (.pl rfl) (.pl rfl) (ok64_lt (hk44))) rfl ?_
            refine WL.q (Y.move (.pl rfl)) rfl ?_
            refine WL.nil ?_
            obtain rfl := Option.some.inj hF16
            exact W.again1 hK17 (v25 + 1) k16 hN16 (Nat.lt_succ_self _) (.cons rfl (.nil)) (.cons (i := 0) rfl (.cons (i := 1) rfl (.cons (i := 5) rfl (.cons (i := 7) rfl (.cons (i := 10) rfl (.cons (i := 62) rfl (.nil))))))) (fun wz hw => hw.pick [0, 1, 2] rfl)
        · replace hF16 := cneg hC20 hF16
          refine W.exit ?_
          obtain rfl := Option.some.inj hF16
          exact W.joinAt0 hK14  (einr hN16) (.nil) (.cons (i := 0) rfl (.cons (i := 1) rfl (.cons (i := 7) rfl (.nil)))) (fun wz hw => hw.pick [1] rfl)
      · -- behind
        rintro  rfl
        refine W.seqR fun Q48 hQ48 => ?_
        refine WL.q (Y.move (.pl rfl)) rfl ?_
        refine WL.q (Y.move (.pl rfl)) rfl ?_
        refine WL.q (Y.move (.pl rfl)) rfl ?_
        obtain ⟨r45, hr45, hF⟩ := bnd hF
        refine WL.step (WO.callP isGo43 (.cons (.pl rfl) (.cons (.pl rfl) (.cons (.pl rfl) (.nil)))) rfl (fun wz hw => search_Right_ok (hr45) wz (hs4.mono hw) (hs9.mono hw) (SlIn.ofRow lenStep hw (i := 0) rfl)) ?_)
        refine WL.q (Y.move (.pl rfl)) rfl ?_
        refine WL.q (Y.extract (.pl rfl) rfl) rfl ?_
        refine WL.q (Y.extract (.pl rfl) rfl) rfl ?_
        refine WL.q (Y.assign (.pl rfl)) rfl ?_
        refine WL.q (Y.assign (.pl rfl)) rfl ?_
        refine WL.next hQ48 (.cons (i := 17) rfl (.cons (i := 18) rfl (.nil))) ?_
        refine W.seqR fun Q49 hQ49 => ?_
        refine WL.q (Y.move (.pl rfl)) rfl ?_
        refine WL.q (Y.neq (.pl rfl) (.pl rfl)) rfl ?_
        refine WL.q (Y.move (.pl rfl)) rfl ?_
        refine WL.g (.pl rfl rfl rfl) (fun hg => Y.move (.pl rfl)) rfl ?_
        refine WL.q (Y.or (.pl rfl) (fun h2 => .gd (eqf h2) rfl)) rfl ?_
        refine WL.q (Y.assign (.pl rfl)) rfl ?_
        refine WL.next hQ49 (.cons (i := 4) rfl (.nil)) ?_
        obtain rfl := Option.some.inj hF
        refine W.retV (fn := Try.f19) (vs := [.bool ((!(decide (r45.2 = 0))) || r45.1)]) Try.results19 ⟨.tmp rfl, trivial⟩ (fun _ _ h => h) (fun wz hw => ?_)
        exact hR _ _ ⟨rfl, (hw.pick [] rfl)⟩

end Go.Proofs.Ytpakplmpihhmbaa
