/- LocalAny: what the code computes, and the walk. -/
import Derived.Test.YtpakplmpihhmbaaLA3
set_option linter.unusedVariables false
set_option linter.unusedSimpArgs false
set_option linter.unusedSectionVars false
set_option maxRecDepth 100000
namespace Go.Proofs.Ytpakplmpihhmbaa
open Go.RowKit
theorem isGo43 : IsGo Try.prog 43 := ⟨_, Try.func43, by kernel_rfl, rfl⟩
theorem isGo55 : IsGo Try.prog 55 := ⟨_, Try.func55, by kernel_rfl, rfl⟩
theorem isGo58 : IsGo Try.prog 58 := ⟨_, Try.func58, by kernel_rfl, rfl⟩
def alibkeep_LocalAny_L627 (N : Nat) (r22 : ((List Call) × Int × Int)) (x43 : Step) (v27 : Int) : (Int × Int) → Option ((Int × Int) ⊕ Int)
  | (n47, v48) =>
    cond (decide (v48 < (((r22.1.take x43.call.toNat)).length : Int)))
      (bd (ix (r22.1.take x43.call.toNat) v48) fun (x49 : Call) =>
      cond (decide (x49.thing = v27))
        (ck (ok64 (n47 + 1)) <|
        ck (ok64 (v48 + 1)) <|
        some (.inl ((n47 + 1), (v48 + 1))))
        (ck (ok64 (v48 + 1)) <|
        some (.inl (n47, (v48 + 1)))))
      (some (.inr n47))

def alibkeep_LocalAny_L623 (N : Nat) (x35 : (List Step)) (r22 : ((List Call) × Int × Int)) (v27 : Int) : ((List Step) × Int) → Option (((List Step) × Int) ⊕ (List Step))
  | (own38, v39) =>
    cond (decide (v39 < ((x35).length : Int)))
      (bd (α := (List Step)) (bd (ix x35 v39) fun (x43 : Step) =>
        bd (α := Int) (ck (slB (r22.1).length 0 x43.call) <|
          iter (alibkeep_LocalAny_L627 N r22 x43 v27) N (0, 0)) <|
        fun (n45 : Int) => 
          ck (limB 16 ((own38).length + (([(Step.mk n45 x43.res)] : List Step)).length)) <|
          some (own38 ++ ([(Step.mk n45 x43.res)] : List Step))) <|
      fun (own42 : (List Step)) => 
        ck (ok64 (v39 + 1)) <|
        some (.inl (own42, (v39 + 1))))
      (some (.inr own38))

def alibkeep_LocalAny_L575 (N : Nat) (types1 : (List Int)) (l6 : (List Event)) (w11 : (List (List Step))) (r22 : ((List Call) × Int × Int)) : (Bool × Int) → Option ((Bool × Int) ⊕ Bool)
  | (all26, v27) =>
    cond (decide (v27 < ((types1).length : Int)))
      (bd (α := Bool) (bd (history_Part N types1 l6 v27) fun (r29 : ((List Event) × Int)) =>
        bd (α := (List Step)) (bd (ix w11 v27) fun (x35 : (List Step)) =>
          iter (alibkeep_LocalAny_L623 N x35 r22 v27) N ([], 0)) <|
        fun (own34 : (List Step)) => 
          bd (search_Right N types1 r29.1 own34) fun (r59 : (Bool × Int)) =>
          cond (all26 == true)
            (bd (alibkeep_ok N ([r29.2, r59.2] : List Int)) fun (r61 : Bool) =>
            some ((all26 && r61) && r59.1))
            (some ((all26 && false) && r59.1))) <|
      fun (all28 : Bool) => 
        ck (ok64 (v27 + 1)) <|
        some (.inl (all28, (v27 + 1))))
      (some (.inr all26))

def alibkeep_LocalAny (N : Nat) (types1 : (List Int)) (l6 : (List Event)) (w11 : (List (List Step))) : Option Bool :=
  bd (local_Join N types1 l6 w11) fun (r16 : ((List Step) × Bool × Int)) =>
  bd (alibkeep_localLives N) fun (r19 : Bool) =>
  cond ((!r19) || (!(decide (r16.2.2 = 0))))
    (bd (alibkeep_localLives N) fun (r20 : Bool) =>
    some ((r20 && (decide (((r16.1).length : Int) = 0))) && (!r16.2.1)))
    (bd (search_Right N types1 l6 r16.1) fun (r21 : (Bool × Int)) =>
    cond (!(decide (r21.2 = 0)))
      (some true)
      (bd (history_Calls N types1 l6) fun (r22 : ((List Call) × Int × Int)) =>
      bd (α := Bool) (iter (alibkeep_LocalAny_L575 N types1 l6 w11 r22) N (true, 0)) <|
      fun (all25 : Bool) => 
        some (((decide (r22.2.2 = 0)) && ((!all25) || (r16.2.1 && r21.1))) && ((!r16.2.1) || (r21.1 == all25)))))

theorem alibkeep_LocalAny_ok {N : Nat} {types1 : (List Int)} {l6 : (List Event)} {w11 : (List (List Step))} {A12 : Option Addr} {c13 : Nat} {hd14 : List Hd} {res : Bool} (hF : alibkeep_LocalAny N types1 l6 w11 = some res) (w : World) {v5 : Value} (hs4 : SlIn (eI .i64) 1 w v5 types1) {v10 : Value} (hs9 : SlIn encEvent 4 w v10 l6) (hs15 : SlNN encStep 2 w A12 c13 hd14 w11) :
    Pure Try.prog 20 [v5, v10, .slice A12 (w11).length c13] w (.bool res) := by
  obtain ⟨A2, c3, rfl, hcc3, hs4⟩ := hs4.form
  obtain ⟨A7, c8, rfl, hcc8, hs9⟩ := hs9.form
  refine W.enter (n := 151) Try.func20 rfl rfl Sub.refl (by simp) (St.start w) fun R hR => ?_
  unfold alibkeep_LocalAny at hF
  refine W.seqR fun Q1 hQ1 => ?_
  refine WL.q (Y.assign (.pl rfl)) rfl ?_
  refine WL.next hQ1 (.cons (i := 0) rfl (.cons (i := 1) rfl (.cons (i := 2) rfl (.nil)))) ?_
  refine W.seqR fun Q2 hQ2 => ?_
  refine WL.q (Y.move (.pl rfl)) rfl ?_
  refine WL.q (Y.move (.pl rfl)) rfl ?_
  refine WL.q (Y.move (.pl rfl)) rfl ?_
  obtain ⟨r16, hr16, hF⟩ := bnd hF
  refine WL.step (WO.callM isGo58 (.cons (.pl rfl) (.cons (.pl rfl) (.cons (.pl rfl) (.nil)))) rfl (fun wz hw => local_Join_ok (hr16) wz (hs4.mono hw) (hs9.mono hw) (hs15.mono hw)) ?_)
  rintro ⟨A17, c18⟩ -
  refine WL.q (Y.move (.pl rfl)) rfl ?_
  refine WL.q (Y.extract (.pl rfl) rfl) rfl ?_
  refine WL.q (Y.extract (.pl rfl) rfl) rfl ?_
  refine WL.q (Y.extract (.pl rfl) rfl) rfl ?_
  refine WL.q (Y.assign (.pl rfl)) rfl ?_
  refine WL.q (Y.assign (.pl rfl)) rfl ?_
  refine WL.q (Y.assign (.pl rfl)) rfl ?_
  refine WL.next hQ2 (.cons (i := 0) rfl (.cons (i := 1) rfl (.cons (i := 2) rfl (.cons (i := 7) rfl (.cons (i := 8) rfl (.cons (i := 9) rfl (.nil))))))) ?_
  refine W.seq fun K3 hK3 => ?_
  refine W.seqR fun Q4 hQ4 => ?_
  obtain ⟨r19, hr19, hF⟩ := bnd hF
  refine WL.step (WO.callP isGo55 (.nil) rfl (fun wz hw => alibkeep_localLives_ok (hr19) wz ) ?_)
  refine WL.q (Y.not (.pl rfl)) rfl ?_
  refine WL.q (Y.move (.pl rfl)) rfl ?_
  refine WL.g (.pl rfl rfl rfl) (fun hg => Y.move (.pl rfl)) rfl ?_
  refine WL.g (.pl rfl rfl rfl) (fun hg => Y.neq (.gd (hg) rfl) (.pl rfl)) rfl ?_
  refine WL.q (Y.or (.pl rfl) (fun h2 => .gd (eqf h2) rfl)) rfl ?_
  refine WL.next hQ4 (.cons (i := 0) rfl (.cons (i := 1) rfl (.cons (i := 2) rfl (.cons (i := 7) rfl (.cons (i := 8) rfl (.cons (i := 40) rfl (.nil))))))) ?_
  refine W.cond (.pl rfl) (fun hC5 => ?_) (fun hC5 => ?_)
  · replace hF := cpos hC5 hF
    refine W.seqR fun Q6 hQ6 => ?_
    obtain ⟨r20, hr20, hF⟩ := bnd hF
    refine WL.step (WO.callP isGo55 (.nil) rfl (fun wz hw => alibkeep_localLives_ok (hr20) wz ) ?_)
    refine WL.q (Y.move (.pl rfl)) rfl ?_
    refine WL.g (.pl rfl rfl rfl) (fun hg => Y.move (.pl rfl)) rfl ?_
    refine WL.g (.pl rfl rfl rfl) (fun hg => Y.len Try.underlying44 (.gd (hg) rfl)) rfl ?_
    refine WL.g (.pl rfl rfl rfl) (fun hg => Y.eql (.gd (hg) rfl) (.pl rfl)) rfl ?_
    refine WL.q (Y.and (.pl rfl) (fun h2 => .gd (eqt h2) rfl)) rfl ?_
    refine WL.q (Y.move (.pl rfl)) rfl ?_
    refine WL.g (.pl rfl rfl rfl) (fun hg => Y.move (.pl rfl)) rfl ?_
    refine WL.g (.pl rfl rfl rfl) (fun hg => Y.not (.gd (hg) rfl)) rfl ?_
    refine WL.q (Y.and (.pl rfl) (fun h2 => .gd (eqt h2) rfl)) rfl ?_
    refine WL.q (Y.assign (.pl rfl)) rfl ?_
    refine WL.next hQ6 (.cons (i := 6) rfl (.nil)) ?_
    obtain rfl := Option.some.inj hF
    refine W.retV (fn := Try.f20) (vs := [.bool ((r20 && (decide (((r16.1).length : Int) = 0))) && (!r16.2.1))]) Try.results20 ⟨.tmp rfl, trivial⟩ (fun _ _ h => h) (fun wz hw => ?_)
    exact hR _ _ ⟨rfl, (hw.pick [] rfl)⟩
  · replace hF := cneg hC5 hF
    refine W.skip ?_
    refine W.go hK3 (.cons (i := 0) rfl (.cons (i := 1) rfl (.cons (i := 2) rfl (.cons (i := 7) rfl (.cons (i := 8) rfl (.nil)))))) ?_
    refine W.seqR fun Q7 hQ7 => ?_
    refine WL.q (Y.move (.pl rfl)) rfl ?_
    refine WL.q (Y.move (.pl rfl)) rfl ?_
    refine WL.q (Y.move (.pl rfl)) rfl ?_
    obtain ⟨r21, hr21, hF⟩ := bnd hF
    refine WL.step (WO.callP isGo43 (.cons (.pl rfl) (.cons (.pl rfl) (.cons (.pl rfl) (.nil)))) rfl (fun wz hw => search_Right_ok (hr21) wz (hs4.mono hw) (hs9.mono hw) (SlIn.ofRow lenStep hw (i := 0) rfl)) ?_)
    refine WL.q (Y.move (.pl rfl)) rfl ?_
    refine WL.q (Y.extract (.pl rfl) rfl) rfl ?_
    refine WL.q (Y.extract (.pl rfl) rfl) rfl ?_
    refine WL.q (Y.assign (.pl rfl)) rfl ?_
    refine WL.q (Y.assign (.pl rfl)) rfl ?_
    refine WL.next hQ7 (.cons (i := 0) rfl (.cons (i := 1) rfl (.cons (i := 2) rfl (.cons (i := 8) rfl (.cons (i := 10) rfl (.cons (i := 11) rfl (.nil))))))) ?_
    refine W.seq fun K8 hK8 => ?_
    refine W.seqR fun Q9 hQ9 => ?_
    refine WL.q (Y.move (.pl rfl)) rfl ?_
    refine WL.q (Y.neq (.pl rfl) (.pl rfl)) rfl ?_
    refine WL.next hQ9 (.cons (i := 0) rfl (.cons (i := 1) rfl (.cons (i := 2) rfl (.cons (i := 8) rfl (.cons (i := 10) rfl (.cons (i := 59) rfl (.nil))))))) ?_
    refine W.cond (.pl rfl) (fun hC10 => ?_) (fun hC10 => ?_)
    · replace hF := cpos hC10 hF
      refine W.seqR fun Q11 hQ11 => ?_
      refine WL.q (Y.assign (.pl rfl)) rfl ?_
      refine WL.next hQ11 (.cons (i := 6) rfl (.nil)) ?_
      obtain rfl := Option.some.inj hF
      refine W.retV (fn := Try.f20) (vs := [.bool true]) Try.results20 ⟨.tmp rfl, trivial⟩ (fun _ _ h => h) (fun wz hw => ?_)
      exact hR _ _ ⟨rfl, (hw.pick [] rfl)⟩
    · replace hF := cneg hC10 hF
      refine W.skip ?_
      refine W.go hK8 (.cons (i := 0) rfl (.cons (i := 1) rfl (.cons (i := 2) rfl (.cons (i := 8) rfl (.cons (i := 10) rfl (.nil)))))) ?_
      refine W.seqR fun Q12 hQ12 => ?_
      refine WL.q (Y.assign (.pl rfl)) rfl ?_
      refine WL.next hQ12 (.cons (i := 0) rfl (.cons (i := 1) rfl (.cons (i := 2) rfl (.cons (i := 8) rfl (.cons (i := 10) rfl (.cons (i := 12) rfl (.nil))))))) ?_
      refine W.seqR fun Q13 hQ13 => ?_
      refine WL.q (Y.move (.pl rfl)) rfl ?_
      refine WL.q (Y.move (.pl rfl)) rfl ?_
      obtain ⟨r22, hr22, hF⟩ := bnd hF
      refine WL.step (WO.callM isGo37 (.cons (.pl rfl) (.cons (.pl rfl) (.nil))) rfl (fun wz hw => history_Calls_ok (hr22) wz (hs4.mono hw) (hs9.mono hw)) ?_)
      rintro ⟨A23, c24⟩ -
      refine WL.q (Y.move (.pl rfl)) rfl ?_
      refine WL.q (Y.extract (.pl rfl) rfl) rfl ?_
      refine WL.q (Y.extract (.pl rfl) rfl) rfl ?_
      refine WL.q (Y.extract (.pl rfl) rfl) rfl ?_
      refine WL.q (Y.assign (.pl rfl)) rfl ?_
      refine WL.q (Y.assign (.pl rfl)) rfl ?_
      refine WL.q (Y.assign (.pl rfl)) rfl ?_
      refine WL.next hQ13 (.cons (i := 0) rfl (.cons (i := 1) rfl (.cons (i := 2) rfl (.cons (i := 8) rfl (.cons (i := 10) rfl (.cons (i := 12) rfl (.cons (i := 13) rfl (.cons (i := 15) rfl (.nil))))))))) ?_
      obtain ⟨o14, hF14, hF⟩ := bnd hF
      refine W.join1 (Em := fun (all25 : Bool) => [(12, .bool all25)]) (M := fun all25 => []) (I := fun all25 => all25 = o14) (.cons (i := 8) rfl (.cons (i := 10) rfl (.cons (i := 15) rfl (.nil)))) (fun K15 hK15 => ?_) ?_
      · -- up to
        refine W.seqR fun Q16 hQ16 => ?_
        refine WL.q (Y.move (.pl rfl)) rfl ?_
        refine WL.q (Y.len Try.underlying22 (.pl rfl)) rfl ?_
        refine WL.q (Y.move (.pl rfl)) rfl ?_
        refine WL.next hQ16 (.cons (i := 0) rfl (.cons (i := 1) rfl (.cons (i := 2) rfl (.cons (i := 8) rfl (.cons (i := 10) rfl (.cons (i := 12) rfl (.cons (i := 13) rfl (.cons (i := 15) rfl (.cons (i := 68) rfl (.cons (i := 69) rfl (.nil))))))))))) ?_
        refine W.block ?_
        refine W.loop2 (Em := fun (all26 : Bool) (v27 : Int) => [(12, .bool all26), (69, .int .i64 v27)]) (M := fun all26 v27 => [cR encCall 7 A23 c24 55 r22.1]) (I := fun all26 v27 k17 => iter (alibkeep_LocalAny_L575 N types1 l6 w11 r22) k17 (all26, v27) = some o14) true 0 N (hF14) (.cons rfl (.cons rfl (.nil))) (.cons (i := 0) rfl (.cons (i := 1) rfl (.cons (i := 2) rfl (.cons (i := 8) rfl (.cons (i := 10) rfl (.cons (i := 13) rfl (.cons (i := 15) rfl (.cons (i := 68) rfl (.nil))))))))) (fun wz hw => hw.pick [0] rfl) (fun all26 v27 k17 hI K18 hK18 => ?_)
        obtain ⟨k17, t17, rfl, hF17, hN17⟩ := iter_step hI
        refine W.seqR fun Q19 hQ19 => ?_
        refine WL.q (Y.lss (.pl rfl) (.pl rfl)) rfl ?_
        refine WL.next hQ19 (.cons (i := 0) rfl (.cons (i := 1) rfl (.cons (i := 2) rfl (.cons (i := 8) rfl (.cons (i := 10) rfl (.cons (i := 12) rfl (.cons (i := 13) rfl (.cons (i := 15) rfl (.cons (i := 68) rfl (.cons (i := 69) rfl (.cons (i := 70) rfl (.nil)))))))))))) ?_
        refine W.seq fun K20 hK20 => ?_
        refine W.cond (.pl rfl) (fun hC21 => ?_) (fun hC21 => ?_)
        · replace hF17 := cpos hC21 hF17
          refine W.skip ?_
          refine W.go hK20 (.cons (i := 0) rfl (.cons (i := 1) rfl (.cons (i := 2) rfl (.cons (i := 8) rfl (.cons (i := 10) rfl (.cons (i := 12) rfl (.cons (i := 13) rfl (.cons (i := 15) rfl (.cons (i := 68) rfl (.cons (i := 69) rfl (.nil))))))))))) ?_
          obtain ⟨o22, hF22, hF17⟩ := bnd hF17
          refine W.join1 (Em := fun (all28 : Bool) => [(12, .bool all28)]) (M := fun all28 => [cR encCall 7 A23 c24 55 r22.1]) (I := fun all28 => all28 = o22) (.cons (i := 0) rfl (.cons (i := 1) rfl (.cons (i := 2) rfl (.cons (i := 8) rfl (.cons (i := 10) rfl (.cons (i := 13) rfl (.cons (i := 15) rfl (.cons (i := 68) rfl (.cons (i := 69) rfl (.nil)))))))))) (fun K23 hK23 => ?_) ?_
          · -- up to
            refine W.block ?_
            refine W.seqR fun Q24 hQ24 => ?_
            refine WL.q (Y.move (.pl rfl)) rfl ?_
            refine WL.q (Y.assign (.pl rfl)) rfl ?_
            refine WL.next hQ24 (.cons (i := 0) rfl (.cons (i := 1) rfl (.cons (i := 2) rfl (.cons (i := 8) rfl (.cons (i := 10) rfl (.cons (i := 12) rfl (.cons (i := 13) rfl (.cons (i := 15) rfl (.cons (i := 16) rfl (.cons (i := 68) rfl (.cons (i := 69) rfl (.nil)))))))))))) ?_
            refine W.seqR fun Q25 hQ25 => ?_
            refine WL.q (Y.move (.pl rfl)) rfl ?_
            refine WL.q (Y.move (.pl rfl)) rfl ?_
            refine WL.q (Y.move (.pl rfl)) rfl ?_
            obtain ⟨r29, hr29, hF22⟩ := bnd hF22
            refine WL.step (WO.callM isGo52 (.cons (.pl rfl) (.cons (.pl rfl) (.cons (.pl rfl) (.nil)))) rfl (fun wz hw => history_Part_ok (hr29) wz (hs4.mono hw) (hs9.mono hw)) ?_)
            rintro ⟨A30, c31⟩ -
            refine WL.q (Y.move (.pl rfl)) rfl ?_
            refine WL.q (Y.extract (.pl rfl) rfl) rfl ?_
            refine WL.q (Y.extract (.pl rfl) rfl) rfl ?_
            refine WL.q (Y.assign (.pl rfl)) rfl ?_
            refine WL.q (Y.assign (.pl rfl)) rfl ?_
            refine WL.next hQ25 (.cons (i := 0) rfl (.cons (i := 1) rfl (.cons (i := 2) rfl (.cons (i := 8) rfl (.cons (i := 10) rfl (.cons (i := 12) rfl (.cons (i := 13) rfl (.cons (i := 15) rfl (.cons (i := 16) rfl (.cons (i := 17) rfl (.cons (i := 18) rfl (.cons (i := 68) rfl (.cons (i := 69) rfl (.nil)))))))))))))) ?_
            refine W.seqR fun Q26 hQ26 => ?_
            refine WL.q (Y.assign (.pl rfl)) rfl ?_
            refine WL.next hQ26 (.cons (i := 0) rfl (.cons (i := 1) rfl (.cons (i := 2) rfl (.cons (i := 8) rfl (.cons (i := 10) rfl (.cons (i := 12) rfl (.cons (i := 13) rfl (.cons (i := 15) rfl (.cons (i := 16) rfl (.cons (i := 17) rfl (.cons (i := 18) rfl (.cons (i := 19) rfl (.cons (i := 68) rfl (.cons (i := 69) rfl (.nil))))))))))))))) ?_
            obtain ⟨o27, hF27, hF22⟩ := bnd hF22
            refine W.join3 (Em := fun (own34 : (List Step)) (A32 : Option Addr) (c33 : Nat) => [(19, .slice A32 (own34).length c33)]) (M := fun own34 A32 c33 => [cR encCall 7 A23 c24 55 r22.1, cR encEvent 4 A30 c31 49 r29.1, cR encStep 2 A32 c33 58 own34]) (I := fun own34 A32 c33 => own34 = o27) (.cons (i := 0) rfl (.cons (i := 1) rfl (.cons (i := 2) rfl (.cons (i := 8) rfl (.cons (i := 10) rfl (.cons (i := 12) rfl (.cons (i := 13) rfl (.cons (i := 15) rfl (.cons (i := 17) rfl (.cons (i := 18) rfl (.cons (i := 68) rfl (.cons (i := 69) rfl (.nil))))))))))))) (fun K28 hK28 => ?_) ?_
            · -- up to
              refine W.seqR fun Q29 hQ29 => ?_
              refine WL.q (Y.move (.pl rfl)) rfl ?_
              refine WL.q (Y.move (.pl rfl)) rfl ?_
              obtain ⟨x35, hx35, hF27⟩ := bnd hF27
              refine WL.q (Y.nnEl Try.underlying78 cells44 hs15 (.pl rfl) (.pl rfl) (ix_lt (hx35))) rfl ?_
              refine WL.q (Y.loadNN Try.underlying44 rfl hs15 (.pl rfl) (hx35) rfl) rfl ?_
              refine WL.q (Y.len Try.underlying44 (.pl rfl)) rfl ?_
              refine WL.q (Y.move (.pl rfl)) rfl ?_
              refine WL.next hQ29 (.cons (i := 0) rfl (.cons (i := 1) rfl (.cons (i := 2) rfl (.cons (i := 8) rfl (.cons (i := 10) rfl (.cons (i := 12) rfl (.cons (i := 13) rfl (.cons (i := 15) rfl (.cons (i := 16) rfl (.cons (i := 17) rfl (.cons (i := 18) rfl (.cons (i := 19) rfl (.cons (i := 68) rfl (.cons (i := 69) rfl (.cons (i := 82) rfl (.cons (i := 83) rfl (.cons (i := 84) rfl (.nil)))))))))))))))))) ?_
              refine W.block ?_
              refine W.loop4 (Em := fun (own38 : (List Step)) (v39 : Int) (A36 : Option Addr) (c37 : Nat) => [(19, .slice A36 (own38).length c37), (84, .int .i64 v39)]) (M := fun own38 v39 A36 c37 => [cR encCall 7 A23 c24 55 r22.1, cR encEvent 4 A30 c31 49 r29.1, cR encStep 2 A36 c37 58 own38]) (I := fun own38 v39 A36 c37 k30 => iter (alibkeep_LocalAny_L623 N x35 r22 v27) k30 (own38, v39) = some o27) [] 0 none 0 N (hF27) (.cons rfl (.cons rfl (.nil))) (.cons (i := 0) rfl (.cons (i := 1) rfl (.cons (i := 2) rfl (.cons (i := 8) rfl (.cons (i := 10) rfl (.cons (i := 12) rfl (.cons (i := 13) rfl (.cons (i := 15) rfl (.cons (i := 16) rfl (.cons (i := 17) rfl (.cons (i := 18) rfl (.cons (i := 68) rfl (.cons (i := 69) rfl (.cons (i := 82) rfl (.cons (i := 83) rfl (.nil)))))))))))))))) (fun wz hw => (St.nilR (hw.pick [1, 0] rfl) encStep 2 58).pick [1, 2, 0] rfl) (fun own38 v39 A36 c37 k30 hI K31 hK31 => ?_)
              obtain ⟨k30, t30, rfl, hF30, hN30⟩ := iter_step hI
              refine W.seqR fun Q32 hQ32 => ?_
              refine WL.q (Y.lss (.pl rfl) (.pl rfl)) rfl ?_
              refine WL.next hQ32 (.cons (i := 0) rfl (.cons (i := 1) rfl (.cons (i := 2) rfl (.cons (i := 8) rfl (.cons (i := 10) rfl (.cons (i := 12) rfl (.cons (i := 13) rfl (.cons (i := 15) rfl (.cons (i := 16) rfl (.cons (i := 17) rfl (.cons (i := 18) rfl (.cons (i := 19) rfl (.cons (i := 68) rfl (.cons (i := 69) rfl (.cons (i := 82) rfl (.cons (i := 83) rfl (.cons (i := 84) rfl (.cons (i := 85) rfl (.nil))))))))))))))))))) ?_
              refine W.seq fun K33 hK33 => ?_
              refine W.cond (.pl rfl) (fun hC34 => ?_) (fun hC34 => ?_)
              · replace hF30 := cpos hC34 hF30
                refine W.skip ?_
                refine W.go hK33 (.cons (i := 0) rfl (.cons (i := 1) rfl (.cons (i := 2) rfl (.cons (i := 8) rfl (.cons (i := 10) rfl (.cons (i := 12) rfl (.cons (i := 13) rfl (.cons (i := 15) rfl (.cons (i := 16) rfl (.cons (i := 17) rfl (.cons (i := 18) rfl (.cons (i := 19) rfl (.cons (i := 68) rfl (.cons (i := 69) rfl (.cons (i := 82) rfl (.cons (i := 83) rfl (.cons (i := 84) rfl (.nil)))))))))))))))))) ?_
                obtain ⟨o35, hF35, hF30⟩ := bnd hF30
                refine W.join3 (Em := fun (own42 : (List Step)) (A40 : Option Addr) (c41 : Nat) => [(19, .slice A40 (own42).length c41)]) (M := fun own42 A40 c41 => [cR encCall 7 A23 c24 55 r22.1, cR encEvent 4 A30 c31 49 r29.1, cR encStep 2 A40 c41 58 own42]) (I := fun own42 A40 c41 => own42 = o35) (.cons (i := 0) rfl (.cons (i := 1) rfl (.cons (i := 2) rfl (.cons (i := 8) rfl (.cons (i := 10) rfl (.cons (i := 12) rfl (.cons (i := 13) rfl (.cons (i := 15) rfl (.cons (i := 16) rfl (.cons (i := 17) rfl (.cons (i := 18) rfl (.cons (i := 68) rfl (.cons (i := 69) rfl (.cons (i := 82) rfl (.cons (i := 83) rfl (.cons (i := 84) rfl (.nil))))))))))))))))) (fun K36 hK36 => ?_) ?_
                · -- up to
                  refine W.block ?_
                  refine W.seqR fun Q37 hQ37 => ?_
                  obtain ⟨x43, hx43, hF35⟩ := bnd hF35
                  refine WL.q (Y.slEl Try.underlying44 cells58 (hs15.at (hx35)) (.pl rfl) (.pl rfl) (ix_lt (hx43))) rfl ?_
                  refine WL.q (Y.loadSA (enc := encStep) (ds := (encStep x43)) (j := 0) Try.underlying58 rfl cells58 (hs15.at (hx35)) (.pl rfl) (hx43) rfl rfl subW) rfl ?_
                  refine WL.step (WO.alloc (cs := (encStep (Step.mk 0 0)).toArray) zero58 rfl rfl fun b44 => ?_)
                  refine WL.step (WO.storeBA (ds := (encStep x43)) (cs' := (encStep x43)) cells58 (.pl rfl) (.pl rfl) rfl (oneStep _) (i := 0) rfl (lel (o := 0) (l := 2) (m := 2) (by decide) rfl rfl) (putW rfl) ?_)
                  refine WL.next hQ37 (.cons (i := 0) rfl (.cons (i := 1) rfl (.cons (i := 2) rfl (.cons (i := 8) rfl (.cons (i := 10) rfl (.cons (i := 12) rfl (.cons (i := 13) rfl (.cons (i := 15) rfl (.cons (i := 16) rfl (.cons (i := 17) rfl (.cons (i := 18) rfl (.cons (i := 19) rfl (.cons (i := 21) rfl (.cons (i := 68) rfl (.cons (i := 69) rfl (.cons (i := 82) rfl (.cons (i := 83) rfl (.cons (i := 84) rfl (.nil))))))))))))))))))) ?_
                  refine W.seqR fun Q38 hQ38 => ?_
                  refine WL.q (Y.assign (.pl rfl)) rfl ?_
                  refine WL.next hQ38 (.cons (i := 0) rfl (.cons (i := 1) rfl (.cons (i := 2) rfl (.cons (i := 8) rfl (.cons (i := 10) rfl (.cons (i := 12) rfl (.cons (i := 13) rfl (.cons (i := 15) rfl (.cons (i := 16) rfl (.cons (i := 17) rfl (.cons (i := 18) rfl (.cons (i := 19) rfl (.cons (i := 21) rfl (.cons (i := 22) rfl (.cons (i := 68) rfl (.cons (i := 69) rfl (.cons (i := 82) rfl (.cons (i := 83) rfl (.cons (i := 84) rfl (.nil)))))))))))))))))))) ?_
                  obtain ⟨o39, hF39, hF35⟩ := bnd hF35
                  refine W.join1 (Em := fun (n45 : Int) => [(22, .int .i64 n45)]) (M := fun n45 => [cR encCall 7 A23 c24 55 r22.1, cR encEvent 4 A30 c31 49 r29.1, cR encStep 2 A36 c37 58 own38, cBx b44 58 (encStep x43)]) (I := fun n45 => n45 = o39) (.cons (i := 0) rfl (.cons (i := 1) rfl (.cons (i := 2) rfl (.cons (i := 8) rfl (.cons (i := 10) rfl (.cons (i := 12) rfl (.cons (i := 13) rfl (.cons (i := 15) rfl (.cons (i := 16) rfl (.cons (i := 17) rfl (.cons (i := 18) rfl (.cons (i := 19) rfl (.cons (i := 21) rfl (.cons (i := 68) rfl (.cons (i := 69) rfl (.cons (i := 82) rfl (.cons (i := 83) rfl (.cons (i := 84) rfl (.nil))))))))))))))))))) (fun K40 hK40 => ?_) ?_
                  · -- up to
                    refine W.seqR fun Q41 hQ41 => ?_
                    refine WL.q (Y.move (.pl rfl)) rfl ?_
                    refine WL.q (Y.fieldAddr0 (off := 0) (ft := 3) Try.underlying58 rfl cells3 (.pl rfl)) rfl ?_
                    refine WL.q (Y.loadB (v := .int .i64 x43.call) Try.underlying3 rfl (.pl rfl) (i := 0) rfl (rfl)) rfl ?_
                    obtain ⟨hk46, hF39⟩ := ckh hF39
                    refine WL.q (Y.sliceR0 Try.underlying51 cells55 (i := 1) rfl (.pl rfl) rfl (.pl rfl) (hk46)) rfl ?_
                    refine WL.q (Y.len Try.underlying51 (.pl rfl)) rfl ?_
                    refine WL.q (Y.move (.pl rfl)) rfl ?_
                    refine WL.next hQ41 (.cons (i := 0) rfl (.cons (i := 1) rfl (.cons (i := 2) rfl (.cons (i := 8) rfl (.cons (i := 10) rfl (.cons (i := 12) rfl (.cons (i := 13) rfl (.cons (i := 15) rfl (.cons (i := 16) rfl (.cons (i := 17) rfl (.cons (i := 18) rfl (.cons (i := 19) rfl (.cons (i := 21) rfl (.cons (i := 22) rfl (.cons (i := 68) rfl (.cons (i := 69) rfl (.cons (i := 82) rfl (.cons (i := 83) rfl (.cons (i := 84) rfl (.cons (i := 91) rfl (.cons (i := 92) rfl (.cons (i := 93) rfl (.nil))))))))))))))))))))))) ?_
                    refine W.block ?_
                    refine W.loop2 (Em := fun (n47 : Int) (v48 : Int) => [(22, .int .i64 n47), (93, .int .i64 v48)]) (M := fun n47 v48 => [cR encCall 7 A23 c24 55 r22.1, cR encEvent 4 A30 c31 49 r29.1, cR encStep 2 A36 c37 58 own38, cBx b44 58 (encStep x43)]) (I := fun n47 v48 k42 => iter (alibkeep_LocalAny_L627 N r22 x43 v27) k42 (n47, v48) = some o39) 0 0 N (hF39) (.cons rfl (.cons rfl (.nil))) (.cons (i := 0) rfl (.cons (i := 1) rfl (.cons (i := 2) rfl (.cons (i := 8) rfl (.cons (i := 10) rfl (.cons (i := 12) rfl (.cons (i := 13) rfl (.cons (i := 15) rfl (.cons (i := 16) rfl (.cons (i := 17) rfl (.cons (i := 18) rfl (.cons (i := 19) rfl (.cons (i := 21) rfl (.cons (i := 68) rfl (.cons (i := 69) rfl (.cons (i := 82) rfl (.cons (i := 83) rfl (.cons (i := 84) rfl (.cons (i := 91) rfl (.cons (i := 92) rfl (.nil))))))))))))))))))))) (fun wz hw => hw.pick [1, 2, 3, 0] rfl) (fun n47 v48 k42 hI K43 hK43 => ?_)
                    obtain ⟨k42, t42, rfl, hF42, hN42⟩ := iter_step hI
                    refine W.seqR fun Q44 hQ44 => ?_
                    refine WL.q (Y.lss (.pl rfl) (.pl rfl)) rfl ?_
                    refine WL.next hQ44 (.cons (i := 0) rfl (.cons (i := 1) rfl (.cons (i := 2) rfl (.cons (i := 8) rfl (.cons (i := 10) rfl (.cons (i := 12) rfl (.cons (i := 13) rfl (.cons (i := 15) rfl (.cons (i := 16) rfl (.cons (i := 17) rfl (.cons (i := 18) rfl (.cons (i := 19) rfl (.cons (i := 21) rfl (.cons (i := 22) rfl (.cons (i := 68) rfl (.cons (i := 69) rfl (.cons (i := 82) rfl (.cons (i := 83) rfl (.cons (i := 84) rfl (.cons (i := 91) rfl (.cons (i := 92) rfl (.cons (i := 93) rfl (.cons (i := 94) rfl (.nil)))))))))))))))))))))))) ?_
                    refine W.seq fun K45 hK45 => ?_
                    refine W.cond (.pl rfl) (fun hC46 => ?_) (fun hC46 => ?_)
                    · replace hF42 := cpos hC46 hF42
                      refine W.skip ?_
                      refine W.go hK45 (.cons (i := 0) rfl (.cons (i := 1) rfl (.cons (i := 2) rfl (.cons (i := 8) rfl (.cons (i := 10) rfl (.cons (i := 12) rfl (.cons (i := 13) rfl (.cons (i := 15) rfl (.cons (i := 16) rfl (.cons (i := 17) rfl (.cons (i := 18) rfl (.cons (i := 19) rfl (.cons (i := 21) rfl (.cons (i := 22) rfl (.cons (i := 68) rfl (.cons (i := 69) rfl (.cons (i := 82) rfl (.cons (i := 83) rfl (.cons (i := 84) rfl (.cons (i := 91) rfl (.cons (i := 92) rfl (.cons (i := 93) rfl (.nil))))))))))))))))))))))) ?_
                      refine W.seq fun K47 hK47 => ?_
                      refine W.block ?_
                      refine W.seqR fun Q48 hQ48 => ?_
                      obtain ⟨x49, hx49, hF42⟩ := bnd hF42
                      refine WL.q (Y.viewEl0 (xs := r22.1) Try.underlying51 cells55 (i := 0) rfl (.pl rfl) (.pl rfl) (ix_lt (hx49)) (ix_lt (ix_view0 (hx49))).2) rfl ?_
                      refine WL.q (Y.loadRA (enc := encCall) (ds := (encCall x49)) (a := x49) (idx := v48) (j := 0) Try.underlying55 rfl cells55 lenCall (i := 0) rfl (.pl rfl) (ix_get (ix_view0 (hx49))) rfl rfl subW) rfl ?_
                      refine WL.step (WO.alloc (cs := (encCall (Call.mk 0 0 0 0 0 0 0)).toArray) zero55 rfl rfl fun b50 => ?_)
                      refine WL.step (WO.storeBA (ds := (encCall x49)) (cs' := (encCall x49)) cells55 (.pl rfl) (.pl rfl) rfl (oneCall _) (i := 0) rfl (lel (o := 0) (l := 7) (m := 7) (by decide) rfl rfl) (putW rfl) ?_)
                      refine WL.next hQ48 (.cons (i := 0) rfl (.cons (i := 1) rfl (.cons (i := 2) rfl (.cons (i := 8) rfl (.cons (i := 10) rfl (.cons (i := 12) rfl (.cons (i := 13) rfl (.cons (i := 15) rfl (.cons (i := 16) rfl (.cons (i := 17) rfl (.cons (i := 18) rfl (.cons (i := 19) rfl (.cons (i := 21) rfl (.cons (i := 22) rfl (.cons (i := 24) rfl (.cons (i := 68) rfl (.cons (i := 69) rfl (.cons (i := 82) rfl (.cons (i := 83) rfl (.cons (i := 84) rfl (.cons (i := 91) rfl (.cons (i := 92) rfl (.cons (i := 93) rfl (.nil)))))))))))))))))))))))) ?_
                      refine W.seqR fun Q49 hQ49 => ?_
                      refine WL.q (Y.fieldAddr0 (off := 1) (ft := 3) Try.underlying55 rfl cells3 (.pl rfl)) rfl ?_
                      refine WL.q (Y.loadB (v := .int .i64 x49.thing) Try.underlying3 rfl (.pl rfl) (i := 0) rfl (rfl)) rfl ?_
                      refine WL.q (Y.move (.pl rfl)) rfl ?_
                      refine WL.q (Y.eql (.pl rfl) (.pl rfl)) rfl ?_
                      refine WL.next hQ49 (.cons (i := 0) rfl (.cons (i := 1) rfl (.cons (i := 2) rfl (.cons (i := 8) rfl (.cons (i := 10) rfl (.cons (i := 12) rfl (.cons (i := 13) rfl (.cons (i := 15) rfl (.cons (i := 16) rfl (.cons (i := 17) rfl (.cons (i := 18) rfl (.cons (i := 19) rfl (.cons (i := 21) rfl (.cons (i := 22) rfl (.cons (i := 68) rfl (.cons (i := 69) rfl (.cons (i := 82) rfl (.cons (i := 83) rfl (.cons (i := 84) rfl (.cons (i := 91) rfl (.cons (i := 92) rfl (.cons (i := 93) rfl (.cons (i := 100) rfl (.nil)))))))))))))))))))))))) ?_
                      refine W.cond (.pl rfl) (fun hC50 => ?_) (fun hC50 => ?_)
                      · replace hF42 := cpos hC50 hF42
                        refine W.reg ?_
                        refine WL.q (Y.move (.pl rfl)) rfl ?_
                        obtain ⟨hk51, hF42⟩ := ckh hF42
                        refine WL.q (Y.add (.pl rfl) (.pl rfl) (ok64_lt (hk51))) rfl ?_
                        refine WL.q (Y.assign (.pl rfl)) rfl ?_
                        refine WL.nil ?_
                        refine W.go hK47 (.cons (i := 0) rfl (.cons (i := 1) rfl (.cons (i := 2) rfl (.cons (i := 8) rfl (.cons (i := 10) rfl (.cons (i := 12) rfl (.cons (i := 13) rfl (.cons (i := 15) rfl (.cons (i := 16) rfl (.cons (i := 17) rfl (.cons (i := 18) rfl (.cons (i := 19) rfl (.cons (i := 21) rfl (.cons (i := 22) rfl (.cons (i := 68) rfl (.cons (i := 69) rfl (.cons (i := 82) rfl (.cons (i := 83) rfl (.cons (i := 84) rfl (.cons (i := 91) rfl (.cons (i := 92) rfl (.cons (i := 93) rfl (.nil))))))))))))))))))))))) ?_
                        refine W.reg ?_
                        obtain ⟨hk52, hF42⟩ := ckh hF42
                        refine WL.q (Y.add (.pl rfl) (.pl rfl) (ok64_lt (hk52))) rfl ?_
                        refine WL.q (Y.move (.pl rfl)) rfl ?_
                        refine WL.nil ?_
                        obtain rfl := Option.some.inj hF42
                        exact W.again2 hK43 (n47 + 1) (v48 + 1) k42 hN42 (Nat.lt_succ_self _) (.cons rfl (.cons rfl (.nil))) (.cons (i := 0) rfl (.cons (i := 1) rfl (.cons (i := 2) rfl (.cons (i := 8) rfl (.cons (i := 10) rfl (.cons (i := 12) rfl (.cons (i := 13) rfl (.cons (i := 15) rfl (.cons (i := 16) rfl (.cons (i := 17) rfl (.cons (i := 18) rfl (.cons (i := 19) rfl (.cons (i := 21) rfl (.cons (i := 68) rfl (.cons (i := 69) rfl (.cons (i := 82) rfl (.cons (i := 83) rfl (.cons (i := 84) rfl (.cons (i := 91) rfl (.cons (i := 92) rfl (.nil))))))))))))))))))))) (fun wz hw => hw.pick [1, 2, 3, 4] rfl)
                      · replace hF42 := cneg hC50 hF42
                        refine W.skip ?_
                        refine W.go hK47 (.cons (i := 0) rfl (.cons (i := 1) rfl (.cons (i := 2) rfl (.cons (i := 8) rfl (.cons (i := 10) rfl (.cons (i := 12) rfl (.cons (i := 13) rfl (.cons (i := 15) rfl (.cons (i := 16) rfl (.cons (i := 17) rfl (.cons (i := 18) rfl (.cons (i := 19) rfl (.cons (i := 21) rfl (.cons (i := 22) rfl (.cons (i := 68) rfl (.cons (i := 69) rfl (.cons (i := 82) rfl (.cons (i := 83) rfl (.cons (i := 84) rfl (.cons (i := 91) rfl (.cons (i := 92) rfl (.cons (i := 93) rfl (.nil))))))))))))))))))))))) ?_
                        refine W.reg ?_
                        obtain ⟨hk53, hF42⟩ := ckh hF42
                        refine WL.q (Y.add (.pl rfl) (.pl rfl) (ok64_lt (hk53))) rfl ?_
                        refine WL.q (Y.move (.pl rfl)) rfl ?_
                        refine WL.nil ?_
                        obtain rfl := Option.some.inj hF42
                        exact W.again2 hK43 n47 (v48 + 1) k42 hN42 (Nat.lt_succ_self _) (.cons rfl (.cons rfl (.nil))) (.cons (i := 0) rfl (.cons (i := 1) rfl (.cons (i := 2) rfl (.cons (i := 8) rfl (.cons (i := 10) rfl (.cons (i := 12) rfl (.cons (i := 13) rfl (.cons (i := 15) rfl (.cons (i := 16) rfl (.cons (i := 17) rfl (.cons (i := 18) rfl (.cons (i := 19) rfl (.cons (i := 21) rfl (.cons (i := 68) rfl (.cons (i := 69) rfl (.cons (i := 82) rfl (.cons (i := 83) rfl (.cons (i := 84) rfl (.cons (i := 91) rfl (.cons (i := 92) rfl (.nil))))))))))))))))))))) (fun wz hw => hw.pick [1, 2, 3, 4] rfl)
                    · replace hF42 := cneg hC46 hF42
                      refine W.exit ?_
                      obtain rfl := Option.some.inj hF42
                      exact W.joinAt1 hK40 n47 (einr hN42) (.cons rfl (.nil)) (.cons (i := 0) rfl (.cons (i := 1) rfl (.cons (i := 2) rfl (.cons (i := 8) rfl (.cons (i := 10) rfl (.cons (i := 12) rfl (.cons (i := 13) rfl (.cons (i := 15) rfl (.cons (i := 16) rfl (.cons (i := 17) rfl (.cons (i := 18) rfl (.cons (i := 19) rfl (.cons (i := 21) rfl (.cons (i := 68) rfl (.cons (i := 69) rfl (.cons (i := 82) rfl (.cons (i := 83) rfl (.cons (i := 84) rfl (.nil))))))))))))))))))) (fun wz hw => hw.pick [0, 1, 2, 3] rfl)
                  · -- behind
                    rintro n45 rfl
                    refine W.reg ?_
                    refine WL.q (Y.move (.pl rfl)) rfl ?_
                    refine WL.q (Y.move (.pl rfl)) rfl ?_
                    refine WL.q (Y.fieldAddr0 (off := 1) (ft := 3) Try.underlying58 rfl cells3 (.pl rfl)) rfl ?_
                    refine WL.q (Y.loadB (v := .int .i64 x43.res) Try.underlying3 rfl (.pl rfl) (i := 3) rfl (rfl)) rfl ?_
                    refine WL.q (Y.build (cs := (encStep (Step.mk n45 x43.res)).toArray) shape58 (.cons (.pl rfl) (.cons (.pl rfl) (.nil))) (one_parts ⟨rfl, ⟨rfl, trivial⟩⟩) rfl) rfl ?_
                    refine WL.step (WO.bsliceC (enc := encStep) (ys := ([(Step.mk n45 x43.res)] : List Step)) Try.underlying44 bz58 (.cons (.pl rfl) (.nil)) rfl lenStep rfl rfl (by decide) (by decide) rfl fun b54 => ?_)
                    obtain ⟨hk57, hF35⟩ := ckh hF35
                    refine WL.step (WO.appendC (enc := encStep) Try.underlying44 ap58 lenStep oneStep (.pl rfl) rfl (.pl rfl) (i := 3) rfl (m2 := 0) rfl (hk57) rfl fun A55 c56 => ?_)
                    refine WL.q (Y.assign (.pl rfl)) rfl ?_
                    refine WL.nil ?_
                    exact W.joinAt3 hK36 (own38 ++ ([(Step.mk n45 x43.res)] : List Step)) A55 c56 (Option.some.inj hF35) (.cons rfl (.nil)) (.cons (i := 0) rfl (.cons (i := 1) rfl (.cons (i := 2) rfl (.cons (i := 8) rfl (.cons (i := 10) rfl (.cons (i := 12) rfl (.cons (i := 13) rfl (.cons (i := 15) rfl (.cons (i := 16) rfl (.cons (i := 17) rfl (.cons (i := 18) rfl (.cons (i := 68) rfl (.cons (i := 69) rfl (.cons (i := 82) rfl (.cons (i := 83) rfl (.cons (i := 84) rfl (.nil))))))))))))))))) (fun wz hw => hw.pick [1, 2, 3] rfl)
                · -- behind
                  rintro own42 A40 c41 rfl
                  refine W.reg ?_
                  obtain ⟨hk58, hF30⟩ := ckh hF30
                  refine WL.q (Y.add (.pl rfl) (.pl rfl) (ok64_lt (hk58))) rfl ?_
                  refine WL.q (Y.move (.pl rfl)) rfl ?_
                  refine WL.nil ?_
                  obtain rfl := Option.some.inj hF30
                  exact W.again4 hK31 own42 (v39 + 1) A40 c41 k30 hN30 (Nat.lt_succ_self _) (.cons rfl (.cons rfl (.nil))) (.cons (i := 0) rfl (.cons (i := 1) rfl (.cons (i := 2) rfl (.cons (i := 8) rfl (.cons (i := 10) rfl (.cons (i := 12) rfl (.cons (i := 13) rfl (.cons (i := 15) rfl (.cons (i := 16) rfl (.cons (i := 17) rfl (.cons (i := 18) rfl (.cons (i := 68) rfl (.cons (i := 69) rfl (.cons (i := 82) rfl (.cons (i := 83) rfl (.nil)))))))))))))))) (fun wz hw => hw.pick [0, 1, 2] rfl)
              · replace hF30 := cneg hC34 hF30
                refine W.exit ?_
                obtain rfl := Option.some.inj hF30
                exact W.joinAt3 hK28 own38 A36 c37 (einr hN30) (.cons rfl (.nil)) (.cons (i := 0) rfl (.cons (i := 1) rfl (.cons (i := 2) rfl (.cons (i := 8) rfl (.cons (i := 10) rfl (.cons (i := 12) rfl (.cons (i := 13) rfl (.cons (i := 15) rfl (.cons (i := 17) rfl (.cons (i := 18) rfl (.cons (i := 68) rfl (.cons (i := 69) rfl (.nil))))))))))))) (fun wz hw => hw.pick [0, 1, 2] rfl)
            · -- behind
              rintro own34 A32 c33 rfl
              refine W.seqR fun Q56 hQ56 => ?_
              refine WL.q (Y.move (.pl rfl)) rfl ?_
              refine WL.q (Y.move (.pl rfl)) rfl ?_
              refine WL.q (Y.move (.pl rfl)) rfl ?_
              obtain ⟨r59, hr59, hF22⟩ := bnd hF22
              refine WL.step (WO.callP isGo43 (.cons (.pl rfl) (.cons (.pl rfl) (.cons (.pl rfl) (.nil)))) rfl (fun wz hw => search_Right_ok (hr59) wz (hs4.mono hw) (SlIn.ofRow lenEvent hw (i := 1) rfl) (SlIn.ofRow lenStep hw (i := 2) rfl)) ?_)
              refine WL.q (Y.move (.pl rfl)) rfl ?_
              refine WL.q (Y.extract (.pl rfl) rfl) rfl ?_
              refine WL.q (Y.extract (.pl rfl) rfl) rfl ?_
              refine WL.q (Y.assign (.pl rfl)) rfl ?_
              refine WL.q (Y.assign (.pl rfl)) rfl ?_
              refine WL.next hQ56 (.cons (i := 0) rfl (.cons (i := 1) rfl (.cons (i := 2) rfl (.cons (i := 8) rfl (.cons (i := 10) rfl (.cons (i := 12) rfl (.cons (i := 13) rfl (.cons (i := 15) rfl (.cons (i := 18) rfl (.cons (i := 25) rfl (.cons (i := 26) rfl (.cons (i := 68) rfl (.cons (i := 69) rfl (.nil)))))))))))))) ?_
              refine W.reg ?_
              refine WL.q (Y.move (.pl rfl)) rfl ?_
              refine WL.q (Y.move (.pl rfl)) rfl ?_
              refine WL.g (.pl rfl rfl rfl) (fun hg => Y.move (.pl rfl)) rfl ?_
              refine WL.g (.pl rfl rfl rfl) (fun hg => Y.move (.pl rfl)) rfl ?_
              refine bsplit (all26 == true) (fun hg57 => ?_) (fun hg57 => ?_)
              · replace hF22 := cpos hg57 hF22
                refine WL.gd (.pl rfl rfl rfl) (hg57) ?_
                refine WL.step (WO.bsliceC (enc := (eI .i64)) (ys := ([r29.2, r59.2] : List Int)) Try.underlying88 bz29 (.cons (.gd (hg57) rfl) (.cons (.gd (hg57) rfl) (.nil))) rfl (fun _ => rfl) rfl rfl (by decide) (by decide) rfl fun b60 => ?_)
                refine WL.gd (.pl rfl rfl rfl) (hg57) ?_
                obtain ⟨r61, hr61, hF22⟩ := bnd hF22
                refine WL.step (WO.callP isGo28 (.cons (.pl rfl) (.nil)) rfl (fun wz hw => alibkeep_ok_ok (hr61) wz (SlIn.ofRow (fun _ => rfl) hw (i := 0) rfl)) ?_)
                refine WL.q (Y.and (.pl rfl) (fun _ => .pl rfl)) rfl ?_
                refine WL.q (Y.move (.pl rfl)) rfl ?_
                refine WL.g (.pl rfl rfl rfl) (fun hg => Y.move (.pl rfl)) rfl ?_
                refine WL.q (Y.and (.pl rfl) (fun h2 => .gd (eqt h2) rfl)) rfl ?_
                refine WL.q (Y.assign (.pl rfl)) rfl ?_
                refine WL.nil ?_
                exact W.joinAt1 hK23 ((all26 && r61) && r59.1) (Option.some.inj hF22) (.cons rfl (.nil)) (.cons (i := 0) rfl (.cons (i := 1) rfl (.cons (i := 2) rfl (.cons (i := 8) rfl (.cons (i := 10) rfl (.cons (i := 13) rfl (.cons (i := 15) rfl (.cons (i := 68) rfl (.cons (i := 69) rfl (.nil)))))))))) (fun wz hw => hw.pick [1] rfl)
              · replace hF22 := cneg hg57 hF22
                refine WL.gn (.pl rfl rfl rfl) hg57 rfl ?_
                refine WL.gn (.pl rfl rfl rfl) hg57 rfl ?_
                refine WL.q (Y.and (b := false) (.pl rfl) (fun h2 => (gabsA hg57 h2).elim)) rfl ?_
                refine WL.q (Y.move (.pl rfl)) rfl ?_
                refine WL.g (.pl rfl rfl rfl) (fun hg => Y.move (.pl rfl)) rfl ?_
                refine WL.q (Y.and (.pl rfl) (fun h2 => .gd (eqt h2) rfl)) rfl ?_
                refine WL.q (Y.assign (.pl rfl)) rfl ?_
                refine WL.nil ?_
                exact W.joinAt1 hK23 ((all26 && false) && r59.1) (Option.some.inj hF22) (.cons rfl (.nil)) (.cons (i := 0) rfl (.cons (i := 1) rfl (.cons (i := 2) rfl (.cons (i := 8) rfl (.cons (i := 10) rfl (.cons (i := 13) rfl (.cons (i := 15) rfl (.cons (i := 68) rfl (.cons (i := 69) rfl (.nil)))))))))) (fun wz hw => hw.pick [0] rfl)
          · -- behind
            rintro all28 rfl
            refine W.reg ?_
            obtain ⟨hk62, hF17⟩ := ckh hF17
            refine WL.q (Y.add (.pl rfl) (.pl rfl) (ok64_lt (hk62))) rfl ?_
            refine WL.q (Y.move (.pl rfl)) rfl ?_
            refine WL.nil ?_
            obtain rfl := Option.some.inj hF17
            exact W.again2 hK18 all28 (v27 + 1) k17 hN17 (Nat.lt_succ_self _) (.cons rfl (.cons rfl (.nil))) (.cons (i := 0) rfl (.cons (i := 1) rfl (.cons (i := 2) rfl (.cons (i := 8) rfl (.cons (i := 10) rfl (.cons (i := 13) rfl (.cons (i := 15) rfl (.cons (i := 68) rfl (.nil))))))))) (fun wz hw => hw.pick [0] rfl)
        · replace hF17 := cneg hC21 hF17
          refine W.exit ?_
          obtain rfl := Option.some.inj hF17
          exact W.joinAt1 hK15 all26 (einr hN17) (.cons rfl (.nil)) (.cons (i := 8) rfl (.cons (i := 10) rfl (.cons (i := 15) rfl (.nil)))) (fun wz hw => hw.pick [] rfl)
      · -- behind
        rintro all25 rfl
        refine W.seqR fun Q59 hQ59 => ?_
        refine WL.q (Y.move (.pl rfl)) rfl ?_
        refine WL.q (Y.eql (.pl rfl) (.pl rfl)) rfl ?_
        refine WL.q (Y.move (.pl rfl)) rfl ?_
        refine WL.g (.pl rfl rfl rfl) (fun hg => Y.move (.pl rfl)) rfl ?_
        refine WL.g (.pl rfl rfl rfl) (fun hg => Y.not (.gd (hg) rfl)) rfl ?_
        refine WL.g (.pl rfl rfl rfl) (fun hg => Y.move (.gd (hg) rfl)) rfl ?_
        refine WL.g (.gd rfl rfl rfl) (fun hg => Y.move (.pl rfl)) rfl ?_
        refine WL.g (.gd rfl rfl rfl) (fun hg => Y.move (.gd (hg) rfl)) rfl ?_
        refine WL.g (.gd rfl rfl rfl) (fun hg => Y.move (.pl rfl)) rfl ?_
        refine WL.g (.gd rfl rfl rfl) (fun hg => Y.and (.gd (hg) rfl) (fun h2 => .gd (band hg (eqt h2)) rfl)) rfl ?_
        refine WL.g (.pl rfl rfl rfl) (fun hg => Y.or (.gd (hg) rfl) (fun h2 => .gd (band hg (eqf h2)) rfl)) rfl ?_
        refine WL.q (Y.and (.pl rfl) (fun h2 => .gd (eqt h2) rfl)) rfl ?_
        refine WL.q (Y.move (.pl rfl)) rfl ?_
        refine WL.g (.pl rfl rfl rfl) (fun hg => Y.move (.pl rfl)) rfl ?_
        refine WL.g (.pl rfl rfl rfl) (fun hg => Y.not (.gd (hg) rfl)) rfl ?_
        refine WL.g (.pl rfl rfl rfl) (fun hg => Y.move (.gd (hg) rfl)) rfl ?_
        refine WL.g (.gd rfl rfl rfl) (fun hg => Y.move (.pl rfl)) rfl ?_
        refine WL.g (.gd rfl rfl rfl) (fun hg => Y.move (.pl rfl)) rfl ?_
        refine WL.g (.gd rfl rfl rfl) (fun hg => Y.eqlB Try.underlying4 (.gd (hg) rfl) (.gd (hg) rfl)) rfl ?_
        refine WL.g (.pl rfl rfl rfl) (fun hg => Y.or (.gd (hg) rfl) (fun h2 => .gd (band hg (eqf h2)) rfl)) rfl ?_
        refine WL.q (Y.and (.pl rfl) (fun h2 => .gd (eqt h2) rfl)) rfl ?_
        refine WL.q (Y.assign (.pl rfl)) rfl ?_
        refine WL.next hQ59 (.cons (i := 6) rfl (.nil)) ?_
        obtain rfl := Option.some.inj hF
        refine W.retV (fn := Try.f20) (vs := [.bool (((decide (r22.2.2 = 0)) && ((!all25) || (r16.2.1 && r21.1))) && ((!r16.2.1) || (r21.1 == all25)))]) Try.results20 ⟨.tmp rfl, trivial⟩ (fun _ _ h => h) (fun wz hw => ?_)
        exact hR _ _ ⟨rfl, (hw.pick [] rfl)⟩

end Go.Proofs.Ytpakplmpihhmbaa
