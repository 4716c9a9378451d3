/- The laws of search: what their code computes, and the walks. -/
import Derived.Test.YtpakplmpihhmbaaA2
set_option linter.unusedVariables false
set_option linter.unusedSimpArgs false
set_option linter.unusedSectionVars false
set_option maxRecDepth 100000
namespace Go.Proofs.Ytpakplmpihhmbaa
open Go.RowKit
theorem isGo35 : IsGo Try.prog 35 := ⟨_, Try.func35, by kernel_rfl, rfl⟩
theorem isGo36 : IsGo Try.prog 36 := ⟨_, Try.func36, by kernel_rfl, rfl⟩
theorem isGo43 : IsGo Try.prog 43 := ⟨_, Try.func43, by kernel_rfl, rfl⟩
theorem isGo44 : IsGo Try.prog 44 := ⟨_, Try.func44, by kernel_rfl, rfl⟩
theorem isGo45 : IsGo Try.prog 45 := ⟨_, Try.func45, by kernel_rfl, rfl⟩
theorem ap49 : ∃ i z, Try.prog.info? 49 = some i ∧ i.zero = some z ∧ i.size = 4 ∧ i.bytes = 32 ∧ z.cells.size = 4 ∧ 0 < 4 := ⟨_, (Value.agg #[(Value.int .i64 0), (Value.int .i64 0), (Value.int .i64 0), (Value.int .i64 0)]), rfl, by kernel_rfl, by kernel_rfl, by kernel_rfl, by kernel_rfl, by decide⟩
def alibkeep_SearchFound_1 (N : Nat) (a1 : Step) (b2 : Step) : Option Unit :=
  ck (ok64 (a1.call - b2.call)) <|
  some ()

theorem alibkeep_SearchFound_1_ok {N : Nat} {a1 : Step} {b2 : Step} {res : Unit} (hF : alibkeep_SearchFound_1 N a1 b2 = some res) (w : World) :
    Pure Try.prog 45 [.agg (encStep a1).toArray, .agg (encStep b2).toArray] w (.int .i64 (a1.call - b2.call)) := by
  refine W.enter (n := 10) Try.func45 rfl rfl Sub.refl (by simp) (St.start w) fun R hR => ?_
  unfold alibkeep_SearchFound_1 at hF
  -- region 0: search.go:30
  refine W.seqR fun Q1 hQ1 => ?_
  refine WL.step (WO.boxA (.pl rfl) rfl fun b3 => ?_)
  refine WL.step (WO.boxA (.pl rfl) rfl fun b4 => ?_)
  refine WL.q (Y.assign (.pl rfl)) rfl ?_
  refine WL.next hQ1 (.cons (i := 2) rfl (.cons (i := 3) rfl (.nil))) ?_
  -- region 1: search.go:30
  refine W.seqR fun Q2 hQ2 => ?_
  refine WL.q (Y.fieldAddr0 (off := 0) (ft := 3) Try.underlying58 rfl cells3 (.pl rfl)) rfl ?_
  refine WL.q (Y.loadB (v := .int .i64 a1.call) Try.underlying3 rfl (.pl rfl) (i := 1) rfl (rfl)) rfl ?_
  refine WL.q (Y.fieldAddr0 (off := 0) (ft := 3) Try.underlying58 rfl cells3 (.pl rfl)) rfl ?_
  refine WL.q (Y.loadB (v := .int .i64 b2.call) Try.underlying3 rfl (.pl rfl) (i := 0) rfl (rfl)) rfl ?_
  obtain ⟨hk5, hF⟩ := ckh hF
  refine WL.q (Y.sub (.pl rfl) (.pl rfl) (ok64_lt (hk5))) rfl ?_
  refine WL.q (Y.assign (.pl rfl)) rfl ?_
  refine WL.next hQ2 (.cons (i := 4) rfl (.nil)) ?_
  obtain rfl := Option.some.inj hF
  refine W.retV (fn := Try.f45) (vs := [.int .i64 (a1.call - b2.call)]) Try.results45 ⟨.tmp rfl, trivial⟩ (fun _ _ h => h) (fun w hw => ?_)
  exact hR _ _ ⟨rfl, (hw.pick [] rfl)⟩

def slices_CompareFunc_api_Step_api_Step_api_Step_api_Step_L3 (N : Nat) (s11 : (List Step)) (s26 : (List Step)) : Int → Option (Int ⊕ (Unit ⊕ Int))
  | v11 =>
    cond (decide (v11 < ((s11).length : Int)))
      (bd (ix s11 v11) fun (x12 : Step) =>
      cond (decide (((s26).length : Int) ≤ v11))
        (some (.inr (.inr 1)))
        (bd (ix s26 v11) fun (x14 : Step) =>
        bd (alibkeep_SearchFound_1 N x12 x14) fun (r16 : Unit) =>
        cond (!(decide ((x12.call - x14.call) = 0)))
          (some (.inr (.inr (x12.call - x14.call))))
          (ck (ok64 (v11 + 1)) <|
          some (.inl (v11 + 1)))))
      (some (.inr (.inl ())))

def slices_CompareFunc_api_Step_api_Step_api_Step_api_Step (N : Nat) (s11 : (List Step)) (s26 : (List Step)) : Option Int :=
  bd (α := (Unit ⊕ Int)) (iter (slices_CompareFunc_api_Step_api_Step_api_Step_api_Step_L3 N s11 s26) N 0) <|
  Sum.elim (fun _ => 
    cond (decide (((s11).length : Int) < ((s26).length : Int)))
      (some (-1))
      (some 0)) (fun p => some p)

theorem slices_CompareFunc_api_Step_api_Step_api_Step_api_Step_ok {N : Nat} {s11 : (List Step)} {s26 : (List Step)} {res : Int} (hF : slices_CompareFunc_api_Step_api_Step_api_Step_api_Step N s11 s26 = some res) (w : World) {v5 : Value} (hs4 : SlIn encStep 2 w v5 s11) {v10 : Value} (hs9 : SlIn encStep 2 w v10 s26) :
    Pure Try.prog 44 [v5, v10, .func (.func 45) #[] #[]] w (.int .i64 res) := by
  obtain ⟨A2, c3, rfl, hcc3, hs4⟩ := hs4.form
  obtain ⟨A7, c8, rfl, hcc8, hs9⟩ := hs9.form
  refine W.enter (n := 39) Try.func44 rfl rfl Sub.refl (by simp) (St.start w) fun R hR => ?_
  unfold slices_CompareFunc_api_Step_api_Step_api_Step_api_Step at hF
  -- region 0: slices.go:78
  refine W.seqR fun Q1 hQ1 => ?_
  refine WL.q (Y.assign (.pl rfl)) rfl ?_
  refine WL.next hQ1 (.cons (i := 0) rfl (.cons (i := 1) rfl (.cons (i := 2) rfl (.nil)))) ?_
  obtain ⟨o2, hF2, hF⟩ := bnd hF
  refine W.join0 (Em := []) (M := []) (I := (.inl ()) = o2) (.cons (i := 0) rfl (.cons (i := 1) rfl (.nil))) (fun K3 hK3 => ?_) ?_
  · -- up to
    -- region 1: slices.go:79
    refine W.seqR fun Q4 hQ4 => ?_
    refine WL.q (Y.move (.pl rfl)) rfl ?_
    refine WL.q (Y.len Try.underlying44 (.pl rfl)) rfl ?_
    refine WL.q (Y.move (.pl rfl)) rfl ?_
    refine WL.next hQ4 (.cons (i := 0) rfl (.cons (i := 1) rfl (.cons (i := 2) rfl (.cons (i := 11) rfl (.cons (i := 12) rfl (.cons (i := 13) rfl (.nil))))))) ?_
    refine W.block ?_
    refine W.loop1 (Em := fun (v11 : Int) => [(13, .int .i64 v11)]) (M := fun v11 => []) (I := fun v11 k5 => iter (slices_CompareFunc_api_Step_api_Step_api_Step_api_Step_L3 N s11 s26) k5 v11 = some o2) 0 N (hF2) (.cons rfl (.nil)) (.cons (i := 0) rfl (.cons (i := 1) rfl (.cons (i := 2) rfl (.cons (i := 11) rfl (.cons (i := 12) rfl (.nil)))))) (fun w hw => hw.pick [] rfl) (fun v11 k5 hI K6 hK6 => ?_)
    obtain ⟨k5, t5, rfl, hF5, hN5⟩ := iter_step hI
    -- region 2: slices.go:79
    refine W.seqR fun Q7 hQ7 => ?_
    refine WL.q (Y.lss (.pl rfl) (.pl rfl)) rfl ?_
    refine WL.next hQ7 (.cons (i := 0) rfl (.cons (i := 1) rfl (.cons (i := 2) rfl (.cons (i := 11) rfl (.cons (i := 12) rfl (.cons (i := 13) rfl (.cons (i := 14) rfl (.nil)))))))) ?_
    refine W.seq fun K8 hK8 => ?_
    refine W.cond (.pl rfl) (fun hC9 => ?_) (fun hC9 => ?_)
    · replace hF5 := cpos hC9 hF5
      refine W.skip ?_
      refine W.go hK8 (.cons (i := 0) rfl (.cons (i := 1) rfl (.cons (i := 2) rfl (.cons (i := 11) rfl (.cons (i := 12) rfl (.cons (i := 13) rfl (.nil))))))) ?_
      refine W.seq fun K10 hK10 => ?_
      refine W.block ?_
      -- region 3: slices.go:79
      refine W.seqR fun Q11 hQ11 => ?_
      refine WL.q (Y.move (.pl rfl)) rfl ?_
      obtain ⟨x12, hx12, hF5⟩ := bnd hF5
      refine WL.q (Y.slEl Try.underlying44 cells58 hs4 (.pl rfl) (.pl rfl) (ix_lt (hx12))) rfl ?_
      refine WL.q (Y.loadSA (enc := encStep) (ds := (encStep x12)) (j := 0) Try.underlying58 rfl cells58 hs4 (.pl rfl) (hx12) rfl rfl subW) rfl ?_
      refine WL.step (WO.alloc (cs := (encStep (Step.mk 0 0)).toArray) zero58 rfl rfl fun b13 => ?_)
      refine WL.q (Y.assign (.pl rfl)) rfl ?_
      refine WL.step (WO.storeBA (ds := (encStep x12)) (cs' := (encStep x12)) cells58 (.pl rfl) (.pl rfl) rfl (oneStep _) (i := 0) rfl (lel (o := 0) (l := 2) (m := 2) (by decide) rfl rfl) (putW rfl) ?_)
      refine WL.next hQ11 (.cons (i := 0) rfl (.cons (i := 1) rfl (.cons (i := 2) rfl (.cons (i := 7) rfl (.cons (i := 8) rfl (.cons (i := 11) rfl (.cons (i := 12) rfl (.cons (i := 13) rfl (.nil))))))))) ?_
      refine W.seq fun K12 hK12 => ?_
      -- region 4: slices.go:80
      refine W.seqR fun Q13 hQ13 => ?_
      refine WL.q (Y.move (.pl rfl)) rfl ?_
      refine WL.q (Y.move (.pl rfl)) rfl ?_
      refine WL.q (Y.len Try.underlying44 (.pl rfl)) rfl ?_
      refine WL.q (Y.geq (.pl rfl) (.pl rfl)) rfl ?_
      refine WL.next hQ13 (.cons (i := 0) rfl (.cons (i := 1) rfl (.cons (i := 2) rfl (.cons (i := 7) rfl (.cons (i := 8) rfl (.cons (i := 11) rfl (.cons (i := 12) rfl (.cons (i := 13) rfl (.cons (i := 21) rfl (.nil)))))))))) ?_
      refine W.cond (.pl rfl) (fun hC14 => ?_) (fun hC14 => ?_)
      · replace hF5 := cpos hC14 hF5
        -- region 5: slices.go:81
        refine W.seqR fun Q15 hQ15 => ?_
        refine WL.q (Y.assign (.pl rfl)) rfl ?_
        refine WL.next hQ15 (.cons (i := 6) rfl (.nil)) ?_
        obtain rfl := Option.some.inj hF5
        obtain rfl := einr hN5
        obtain rfl := Option.some.inj hF
        refine W.retV (fn := Try.f44) (vs := [.int .i64 1]) Try.results44 ⟨.tmp rfl, trivial⟩ (fun _ _ h => h) (fun w hw => ?_)
        exact hR _ _ ⟨rfl, (hw.pick [] rfl)⟩
      · replace hF5 := cneg hC14 hF5
        refine W.skip ?_
        refine W.go hK12 (.cons (i := 0) rfl (.cons (i := 1) rfl (.cons (i := 2) rfl (.cons (i := 7) rfl (.cons (i := 8) rfl (.cons (i := 11) rfl (.cons (i := 12) rfl (.cons (i := 13) rfl (.nil))))))))) ?_
        -- region 6: slices.go:83
        refine W.seqR fun Q16 hQ16 => ?_
        refine WL.q (Y.move (.pl rfl)) rfl ?_
        refine WL.q (Y.move (.pl rfl)) rfl ?_
        obtain ⟨x14, hx14, hF5⟩ := bnd hF5
        refine WL.q (Y.slEl Try.underlying44 cells58 hs9 (.pl rfl) (.pl rfl) (ix_lt (hx14))) rfl ?_
        refine WL.q (Y.loadSA (enc := encStep) (ds := (encStep x14)) (j := 0) Try.underlying58 rfl cells58 hs9 (.pl rfl) (hx14) rfl rfl subW) rfl ?_
        refine WL.step (WO.alloc (cs := (encStep (Step.mk 0 0)).toArray) zero58 rfl rfl fun b15 => ?_)
        refine WL.step (WO.storeBA (ds := (encStep x14)) (cs' := (encStep x14)) cells58 (.pl rfl) (.pl rfl) rfl (oneStep _) (i := 0) rfl (lel (o := 0) (l := 2) (m := 2) (by decide) rfl rfl) (putW rfl) ?_)
        refine WL.next hQ16 (.cons (i := 0) rfl (.cons (i := 1) rfl (.cons (i := 2) rfl (.cons (i := 8) rfl (.cons (i := 9) rfl (.cons (i := 11) rfl (.cons (i := 12) rfl (.cons (i := 13) rfl (.nil))))))))) ?_
        -- region 7: slices.go:84
        refine W.seqR fun Q17 hQ17 => ?_
        refine WL.q (Y.move (.pl rfl)) rfl ?_
        refine WL.q (Y.loadBA (ds := (encStep x12)) Try.underlying58 rfl cells58 (.pl rfl) (i := 1) rfl rfl subW) rfl ?_
        refine WL.q (Y.loadBA (ds := (encStep x14)) Try.underlying58 rfl cells58 (.pl rfl) (i := 0) rfl rfl subW) rfl ?_
        obtain ⟨r16, hr16, hF5⟩ := bnd hF5
        refine WL.step (WO.callG (γ := Unit) (first := []) (cap := []) (fun g => .int .i64 (x12.call - x14.call)) (fun g => [cBx b15 58 (encStep x14), cBx b13 58 (encStep x12)]) (fun _ => True) isGo45 (.pl rfl) (.cons (.pl rfl) (.cons (.pl rfl) (.nil))) rfl (fun w hw => (alibkeep_SearchFound_1_ok (hr16) w ).calls hw) ?_)
        rintro _ -
        refine WL.q (Y.assign (.pl rfl)) rfl ?_
        refine WL.next hQ17 (.cons (i := 0) rfl (.cons (i := 1) rfl (.cons (i := 2) rfl (.cons (i := 10) rfl (.cons (i := 11) rfl (.cons (i := 12) rfl (.cons (i := 13) rfl (.nil)))))))) ?_
        -- region 8: slices.go:84
        refine W.seqR fun Q18 hQ18 => ?_
        refine WL.q (Y.move (.pl rfl)) rfl ?_
        refine WL.q (Y.neq (.pl rfl) (.pl rfl)) rfl ?_
        refine WL.next hQ18 (.cons (i := 0) rfl (.cons (i := 1) rfl (.cons (i := 2) rfl (.cons (i := 10) rfl (.cons (i := 11) rfl (.cons (i := 12) rfl (.cons (i := 13) rfl (.cons (i := 31) rfl (.nil))))))))) ?_
        refine W.cond (.pl rfl) (fun hC19 => ?_) (fun hC19 => ?_)
        · replace hF5 := cpos hC19 hF5
          -- region 9: slices.go:85
          refine W.seqR fun Q20 hQ20 => ?_
          refine WL.q (Y.move (.pl rfl)) rfl ?_
          refine WL.q (Y.assign (.pl rfl)) rfl ?_
          refine WL.next hQ20 (.cons (i := 6) rfl (.nil)) ?_
          obtain rfl := Option.some.inj hF5
          obtain rfl := einr hN5
          obtain rfl := Option.some.inj hF
          refine W.retV (fn := Try.f44) (vs := [.int .i64 (x12.call - x14.call)]) Try.results44 ⟨.tmp rfl, trivial⟩ (fun _ _ h => h) (fun w hw => ?_)
          exact hR _ _ ⟨rfl, (hw.pick [] rfl)⟩
        · replace hF5 := cneg hC19 hF5
          refine W.skip ?_
          refine W.go hK10 (.cons (i := 0) rfl (.cons (i := 1) rfl (.cons (i := 2) rfl (.cons (i := 11) rfl (.cons (i := 12) rfl (.cons (i := 13) rfl (.nil))))))) ?_
          -- region 10: slices.go:79
          refine W.reg ?_
          obtain ⟨hk17, hF5⟩ := ckh hF5
          refine WL.q (Y.add (.pl rfl) (.pl rfl) (ok64_lt (hk17))) rfl ?_
          refine WL.q (Y.move (.pl rfl)) rfl ?_
          refine WL.nil ?_
          obtain rfl := Option.some.inj hF5
          exact W.again1 hK6 (v11 + 1) k5 hN5 (Nat.lt_succ_self _) (.cons rfl (.nil)) (.cons (i := 0) rfl (.cons (i := 1) rfl (.cons (i := 2) rfl (.cons (i := 11) rfl (.cons (i := 12) rfl (.nil)))))) (fun w hw => hw.pick [] rfl)
    · replace hF5 := cneg hC9 hF5
      refine W.exit ?_
      obtain rfl := Option.some.inj hF5
      exact W.joinAt0 hK3  (einr hN5) (.nil) (.cons (i := 0) rfl (.cons (i := 1) rfl (.nil))) (fun w hw => hw.pick [] rfl)
  · -- behind
    rintro  rfl
    refine W.seq fun K22 hK22 => ?_
    -- region 11: slices.go:88
    refine W.seqR fun Q23 hQ23 => ?_
    refine WL.q (Y.move (.pl rfl)) rfl ?_
    refine WL.q (Y.len Try.underlying44 (.pl rfl)) rfl ?_
    refine WL.q (Y.move (.pl rfl)) rfl ?_
    refine WL.q (Y.len Try.underlying44 (.pl rfl)) rfl ?_
    refine WL.q (Y.lss (.pl rfl) (.pl rfl)) rfl ?_
    refine WL.next hQ23 (.cons (i := 38) rfl (.nil)) ?_
    refine W.cond (.pl rfl) (fun hC24 => ?_) (fun hC24 => ?_)
    · replace hF := cpos hC24 hF
      -- region 12: slices.go:89
      refine W.seqR fun Q25 hQ25 => ?_
      refine WL.q (Y.assign (.pl rfl)) rfl ?_
      refine WL.next hQ25 (.cons (i := 6) rfl (.nil)) ?_
      obtain rfl := Option.some.inj hF
      refine W.retV (fn := Try.f44) (vs := [.int .i64 (-1)]) Try.results44 ⟨.tmp rfl, trivial⟩ (fun _ _ h => h) (fun w hw => ?_)
      exact hR _ _ ⟨rfl, (hw.pick [] rfl)⟩
    · replace hF := cneg hC24 hF
      refine W.skip ?_
      refine W.go hK22 (.nil) ?_
      -- region 13: slices.go:91
      refine W.seqR fun Q26 hQ26 => ?_
      refine WL.q (Y.assign (.pl rfl)) rfl ?_
      refine WL.next hQ26 (.cons (i := 6) rfl (.nil)) ?_
      obtain rfl := Option.some.inj hF
      refine W.retV (fn := Try.f44) (vs := [.int .i64 0]) Try.results44 ⟨.tmp rfl, trivial⟩ (fun _ _ h => h) (fun w hw => ?_)
      exact hR _ _ ⟨rfl, (hw.pick [] rfl)⟩

def alibkeep_SearchFound (N : Nat) (types1 : (List Int)) (l6 : (List Event)) (w11 : (List Step)) : Option Bool :=
  bd (search_Find N types1 l6) fun (r16 : ((List Step) × Bool × Int)) =>
  bd (search_Right N types1 l6 r16.1) fun (r19 : (Bool × Int)) =>
  bd (search_Right N types1 l6 w11) fun (r20 : (Bool × Int)) =>
  bd (α := Bool) (bd (alibkeep_searchLives N) fun (r22 : Bool) =>
    cond ((!r22) == false)
      (bd (alibkeep_ok N ([r16.2.2, r19.2, r20.2] : List Int)) fun (r24 : Bool) =>
      some ((!r22) || (!r24)))
      (some ((!r22) || false))) <|
  fun (v21 : Bool) => 
    cond v21
      (bd (alibkeep_searchLives N) fun (r25 : Bool) =>
      some ((((r25 && (decide (r16.2.2 = r19.2))) && (decide (r19.2 = r20.2))) && (decide (((r16.1).length : Int) = 0))) && (!r16.2.1)))
      (cond ((r16.2.1 && (!r19.1)) || ((!r16.2.1) && ((decide (0 < ((r16.1).length : Int))) || r20.1)))
        (some false)
        (bd ((cond ((!r20.1) == false) (slices_CompareFunc_api_Step_api_Step_api_Step_api_Step N r16.1 w11) (some 0))) fun (r26 : Int) =>
        some ((!r20.1) || (decide (r26 ≤ 0)))))

theorem alibkeep_SearchFound_ok {N : Nat} {types1 : (List Int)} {l6 : (List Event)} {w11 : (List Step)} {res : Bool} (hF : alibkeep_SearchFound N types1 l6 w11 = some res) (w : World) {v5 : Value} (hs4 : SlIn (eI .i64) 1 w v5 types1) {v10 : Value} (hs9 : SlIn encEvent 4 w v10 l6) {v15 : Value} (hs14 : SlIn encStep 2 w v15 w11) :
    Pure Try.prog 12 [v5, v10, v15] w (.bool res) := by
  obtain ⟨A2, c3, rfl, hcc3, hs4⟩ := hs4.form
  obtain ⟨A7, c8, rfl, hcc8, hs9⟩ := hs9.form
  obtain ⟨A12, c13, rfl, hcc13, hs14⟩ := hs14.form
  refine W.enter (n := 90) Try.func12 rfl rfl Sub.refl (by simp) (St.start w) fun R hR => ?_
  unfold alibkeep_SearchFound at hF
  -- region 0: search.go:20
  refine W.seqR fun Q1 hQ1 => ?_
  refine WL.q (Y.assign (.pl rfl)) rfl ?_
  refine WL.next hQ1 (.cons (i := 0) rfl (.cons (i := 1) rfl (.cons (i := 2) rfl (.nil)))) ?_
  -- region 1: search.go:21
  refine W.seqR fun Q2 hQ2 => ?_
  refine WL.q (Y.move (.pl rfl)) rfl ?_
  refine WL.q (Y.move (.pl rfl)) rfl ?_
  obtain ⟨r16, hr16, hF⟩ := bnd hF
  refine WL.step (WO.callM isGo34 (.cons (.pl rfl) (.cons (.pl rfl) (.nil))) rfl (fun w hw => search_Find_ok (hr16) w (hs4.mono hw) (hs9.mono hw)) ?_)
  rintro ⟨A17, c18⟩ -
  refine WL.q (Y.move (.pl rfl)) rfl ?_
  refine WL.q (Y.extract (.pl rfl) rfl) rfl ?_
  refine WL.q (Y.extract (.pl rfl) rfl) rfl ?_
  refine WL.q (Y.extract (.pl rfl) rfl) rfl ?_
  refine WL.q (Y.assign (.pl rfl)) rfl ?_
  refine WL.q (Y.assign (.pl rfl)) rfl ?_
  refine WL.q (Y.assign (.pl rfl)) rfl ?_
  refine WL.next hQ2 (.cons (i := 0) rfl (.cons (i := 1) rfl (.cons (i := 2) rfl (.cons (i := 7) rfl (.cons (i := 8) rfl (.cons (i := 9) rfl (.nil))))))) ?_
  -- region 2: search.go:22
  refine W.seqR fun Q3 hQ3 => ?_
  refine WL.q (Y.move (.pl rfl)) rfl ?_
  refine WL.q (Y.move (.pl rfl)) rfl ?_
  refine WL.q (Y.move (.pl rfl)) rfl ?_
  obtain ⟨r19, hr19, hF⟩ := bnd hF
  refine WL.step (WO.callP isGo43 (.cons (.pl rfl) (.cons (.pl rfl) (.cons (.pl rfl) (.nil)))) rfl (fun w hw => search_Right_ok (hr19) w (hs4.mono hw) (hs9.mono hw) (SlIn.ofRow lenStep hw (i := 0) rfl)) ?_)
  refine WL.q (Y.move (.pl rfl)) rfl ?_
  refine WL.q (Y.extract (.pl rfl) rfl) rfl ?_
  refine WL.q (Y.extract (.pl rfl) rfl) rfl ?_
  refine WL.q (Y.assign (.pl rfl)) rfl ?_
  refine WL.q (Y.assign (.pl rfl)) rfl ?_
  refine WL.next hQ3 (.cons (i := 0) rfl (.cons (i := 1) rfl (.cons (i := 2) rfl (.cons (i := 7) rfl (.cons (i := 8) rfl (.cons (i := 9) rfl (.cons (i := 10) rfl (.cons (i := 11) rfl (.nil))))))))) ?_
  -- region 3: search.go:23
  refine W.seqR fun Q4 hQ4 => ?_
  refine WL.q (Y.move (.pl rfl)) rfl ?_
  refine WL.q (Y.move (.pl rfl)) rfl ?_
  refine WL.q (Y.move (.pl rfl)) rfl ?_
  obtain ⟨r20, hr20, hF⟩ := bnd hF
  refine WL.step (WO.callP isGo43 (.cons (.pl rfl) (.cons (.pl rfl) (.cons (.pl rfl) (.nil)))) rfl (fun w hw => search_Right_ok (hr20) w (hs4.mono hw) (hs9.mono hw) (hs14.mono hw)) ?_)
  refine WL.q (Y.move (.pl rfl)) rfl ?_
  refine WL.q (Y.extract (.pl rfl) rfl) rfl ?_
  refine WL.q (Y.extract (.pl rfl) rfl) rfl ?_
  refine WL.q (Y.assign (.pl rfl)) rfl ?_
  refine WL.q (Y.assign (.pl rfl)) rfl ?_
  refine WL.next hQ4 (.cons (i := 2) rfl (.cons (i := 7) rfl (.cons (i := 8) rfl (.cons (i := 9) rfl (.cons (i := 10) rfl (.cons (i := 11) rfl (.cons (i := 12) rfl (.cons (i := 13) rfl (.nil))))))))) ?_
  refine W.seq fun K5 hK5 => ?_
  obtain ⟨o6, hF6, hF⟩ := bnd hF
  refine W.join1 (Em := fun (v21 : Bool) => [(44, .bool v21)]) (M := fun v21 => [cR encStep 2 A17 c18 58 r16.1]) (I := fun v21 => v21 = o6) (.cons (i := 2) rfl (.cons (i := 7) rfl (.cons (i := 8) rfl (.cons (i := 9) rfl (.cons (i := 10) rfl (.cons (i := 11) rfl (.cons (i := 12) rfl (.cons (i := 13) rfl (.nil))))))))) (fun K7 hK7 => ?_) ?_
  · -- up to
    -- region 4: search.go:24
    refine W.reg ?_
    obtain ⟨r22, hr22, hF6⟩ := bnd hF6
    refine WL.step (WO.callP isGo35 (.nil) rfl (fun w hw => alibkeep_searchLives_ok (hr22) w ) ?_)
    refine WL.q (Y.not (.pl rfl)) rfl ?_
    refine WL.q (Y.move (.pl rfl)) rfl ?_
    refine WL.g (.pl rfl rfl rfl) (fun hg => Y.move (.pl rfl)) rfl ?_
    refine WL.g (.pl rfl rfl rfl) (fun hg => Y.move (.pl rfl)) rfl ?_
    refine WL.g (.pl rfl rfl rfl) (fun hg => Y.move (.pl rfl)) rfl ?_
    refine bsplit ((!r22) == false) (fun hg8 => ?_) (fun hg8 => ?_)
    · replace hF6 := cpos hg8 hF6
      refine WL.gd (.pl rfl rfl rfl) (hg8) ?_
      refine WL.step (WO.bsliceC (enc := (eI .i64)) (ys := ([r16.2.2, r19.2, r20.2] : List Int)) Try.underlying88 bz29 (.cons (.gd (hg8) rfl) (.cons (.gd (hg8) rfl) (.cons (.gd (hg8) rfl) (.nil)))) rfl (fun _ => rfl) rfl rfl (by decide) (by decide) rfl fun b23 => ?_)
      refine WL.gd (.pl rfl rfl rfl) (hg8) ?_
      obtain ⟨r24, hr24, hF6⟩ := bnd hF6
      refine WL.step (WO.callP isGo28 (.cons (.pl rfl) (.nil)) rfl (fun w hw => alibkeep_ok_ok (hr24) w (SlIn.ofRow (fun _ => rfl) hw (i := 0) rfl)) ?_)
      refine WL.gd (.pl rfl rfl rfl) (hg8) ?_
      refine WL.q (Y.not (.pl rfl)) rfl ?_
      refine WL.q (Y.or (.pl rfl) (fun _ => .pl rfl)) rfl ?_
      refine WL.nil ?_
      exact W.joinAt1 hK7 ((!r22) || (!r24)) (Option.some.inj hF6) (.cons rfl (.nil)) (.cons (i := 2) rfl (.cons (i := 7) rfl (.cons (i := 8) rfl (.cons (i := 9) rfl (.cons (i := 10) rfl (.cons (i := 11) rfl (.cons (i := 12) rfl (.cons (i := 13) rfl (.nil))))))))) (fun w hw => hw.pick [1] rfl)
    · replace hF6 := cneg hg8 hF6
      refine WL.gn (.pl rfl rfl rfl) hg8 rfl ?_
      refine WL.gn (.pl rfl rfl rfl) hg8 rfl ?_
      refine WL.gn (.pl rfl rfl rfl) hg8 rfl ?_
      refine WL.q (Y.or (b := false) (.pl rfl) (fun h2 => (gabsO hg8 h2).elim)) rfl ?_
      refine WL.nil ?_
      exact W.joinAt1 hK7 ((!r22) || false) (Option.some.inj hF6) (.cons rfl (.nil)) (.cons (i := 2) rfl (.cons (i := 7) rfl (.cons (i := 8) rfl (.cons (i := 9) rfl (.cons (i := 10) rfl (.cons (i := 11) rfl (.cons (i := 12) rfl (.cons (i := 13) rfl (.nil))))))))) (fun w hw => hw.pick [0] rfl)
  · -- behind
    rintro v21 rfl
    refine W.cond (.pl rfl) (fun hC9 => ?_) (fun hC9 => ?_)
    · replace hF := cpos hC9 hF
      -- region 5: search.go:25
      refine W.seqR fun Q10 hQ10 => ?_
      obtain ⟨r25, hr25, hF⟩ := bnd hF
      refine WL.step (WO.callP isGo35 (.nil) rfl (fun w hw => alibkeep_searchLives_ok (hr25) w ) ?_)
      refine WL.q (Y.move (.pl rfl)) rfl ?_
      refine WL.g (.pl rfl rfl rfl) (fun hg => Y.move (.pl rfl)) rfl ?_
      refine WL.g (.pl rfl rfl rfl) (fun hg => Y.move (.pl rfl)) rfl ?_
      refine WL.g (.pl rfl rfl rfl) (fun hg => Y.eql (.gd (hg) rfl) (.gd (hg) rfl)) rfl ?_
      refine WL.q (Y.and (.pl rfl) (fun h2 => .gd (eqt h2) rfl)) rfl ?_
      refine WL.q (Y.move (.pl rfl)) rfl ?_
      refine WL.g (.pl rfl rfl rfl) (fun hg => Y.move (.pl rfl)) rfl ?_
      refine WL.g (.pl rfl rfl rfl) (fun hg => Y.move (.pl rfl)) rfl ?_
      refine WL.g (.pl rfl rfl rfl) (fun hg => Y.eql (.gd (hg) rfl) (.gd (hg) rfl)) rfl ?_
      refine WL.q (Y.and (.pl rfl) (fun h2 => .gd (eqt h2) rfl)) rfl ?_
      refine WL.q (Y.move (.pl rfl)) rfl ?_
      refine WL.g (.pl rfl rfl rfl) (fun hg => Y.move (.pl rfl)) rfl ?_
      refine WL.g (.pl rfl rfl rfl) (fun hg => Y.len Try.underlying44 (.gd (hg) rfl)) rfl ?_
      refine WL.g (.pl rfl rfl rfl) (fun hg => Y.eql (.gd (hg) rfl) (.pl rfl)) rfl ?_
      refine WL.q (Y.and (.pl rfl) (fun h2 => .gd (eqt h2) rfl)) rfl ?_
      refine WL.q (Y.move (.pl rfl)) rfl ?_
      refine WL.g (.pl rfl rfl rfl) (fun hg => Y.move (.pl rfl)) rfl ?_
      refine WL.g (.pl rfl rfl rfl) (fun hg => Y.not (.gd (hg) rfl)) rfl ?_
      refine WL.q (Y.and (.pl rfl) (fun h2 => .gd (eqt h2) rfl)) rfl ?_
      refine WL.q (Y.assign (.pl rfl)) rfl ?_
      refine WL.next hQ10 (.cons (i := 6) rfl (.nil)) ?_
      obtain rfl := Option.some.inj hF
      refine W.retV (fn := Try.f12) (vs := [.bool ((((r25 && (decide (r16.2.2 = r19.2))) && (decide (r19.2 = r20.2))) && (decide (((r16.1).length : Int) = 0))) && (!r16.2.1))]) Try.results12 ⟨.tmp rfl, trivial⟩ (fun _ _ h => h) (fun w hw => ?_)
      exact hR _ _ ⟨rfl, (hw.pick [] rfl)⟩
    · replace hF := cneg hC9 hF
      refine W.skip ?_
      refine W.go hK5 (.cons (i := 2) rfl (.cons (i := 7) rfl (.cons (i := 8) rfl (.cons (i := 10) rfl (.cons (i := 12) rfl (.nil)))))) ?_
      refine W.seq fun K11 hK11 => ?_
      -- region 6: search.go:27
      refine W.seqR fun Q12 hQ12 => ?_
      refine WL.q (Y.move (.pl rfl)) rfl ?_
      refine WL.q (Y.move (.pl rfl)) rfl ?_
      refine WL.g (.pl rfl rfl rfl) (fun hg => Y.move (.pl rfl)) rfl ?_
      refine WL.g (.pl rfl rfl rfl) (fun hg => Y.not (.gd (hg) rfl)) rfl ?_
      refine WL.q (Y.and (.pl rfl) (fun h2 => .gd (eqt h2) rfl)) rfl ?_
      refine WL.q (Y.move (.pl rfl)) rfl ?_
      refine WL.g (.pl rfl rfl rfl) (fun hg => Y.move (.pl rfl)) rfl ?_
      refine WL.g (.pl rfl rfl rfl) (fun hg => Y.not (.gd (hg) rfl)) rfl ?_
      refine WL.g (.pl rfl rfl rfl) (fun hg => Y.move (.gd (hg) rfl)) rfl ?_
      refine WL.g (.gd rfl rfl rfl) (fun hg => Y.move (.pl rfl)) rfl ?_
      refine WL.g (.gd rfl rfl rfl) (fun hg => Y.len Try.underlying44 (.gd (hg) rfl)) rfl ?_
      refine WL.g (.gd rfl rfl rfl) (fun hg => Y.gtr (.gd (hg) rfl) (.pl rfl)) rfl ?_
      refine WL.g (.gd rfl rfl rfl) (fun hg => Y.move (.gd (hg) rfl)) rfl ?_
      refine WL.g (.gd rfl rfl rfl) (fun hg => Y.move (.pl rfl)) rfl ?_
      refine WL.g (.gd rfl rfl rfl) (fun hg => Y.or (.gd (hg) rfl) (fun h2 => .gd (band hg (eqf h2)) rfl)) rfl ?_
      refine WL.g (.pl rfl rfl rfl) (fun hg => Y.and (.gd (hg) rfl) (fun h2 => .gd (band hg (eqt h2)) rfl)) rfl ?_
      refine WL.q (Y.or (.pl rfl) (fun h2 => .gd (eqf h2) rfl)) rfl ?_
      refine WL.next hQ12 (.cons (i := 2) rfl (.cons (i := 7) rfl (.cons (i := 12) rfl (.cons (i := 81) rfl (.nil))))) ?_
      refine W.cond (.pl rfl) (fun hC13 => ?_) (fun hC13 => ?_)
      · replace hF := cpos hC13 hF
        -- region 7: search.go:28
        refine W.seqR fun Q14 hQ14 => ?_
        refine WL.q (Y.assign (.pl rfl)) rfl ?_
        refine WL.next hQ14 (.cons (i := 6) rfl (.nil)) ?_
        obtain rfl := Option.some.inj hF
        refine W.retV (fn := Try.f12) (vs := [.bool false]) Try.results12 ⟨.tmp rfl, trivial⟩ (fun _ _ h => h) (fun w hw => ?_)
        exact hR _ _ ⟨rfl, (hw.pick [] rfl)⟩
      · replace hF := cneg hC13 hF
        refine W.skip ?_
        refine W.go hK11 (.cons (i := 2) rfl (.cons (i := 7) rfl (.cons (i := 12) rfl (.nil)))) ?_
        -- region 8: search.go:30
        refine W.seqR fun Q15 hQ15 => ?_
        refine WL.q (Y.move (.pl rfl)) rfl ?_
        refine WL.q (Y.not (.pl rfl)) rfl ?_
        refine WL.q (Y.move (.pl rfl)) rfl ?_
        refine WL.g (.pl rfl rfl rfl) (fun hg => Y.move (.pl rfl)) rfl ?_
        refine WL.g (.pl rfl rfl rfl) (fun hg => Y.move (.pl rfl)) rfl ?_
        obtain ⟨r26, hr26, hF⟩ := bnd hF
        refine WL.gP (.pl rfl rfl rfl) isGo44 (fun hg => (.cons (.gd (hg) rfl) (.cons (.gd (hg) rfl) (.cons (.pl rfl) (.nil))))) rfl (fun hg w hw => slices_CompareFunc_api_Step_api_Step_api_Step_api_Step_ok (gpos hg hr26) w (SlIn.ofRow lenStep hw (i := 0) rfl) (hs14.mono hw)) ?_
        refine WL.g (.pl rfl rfl rfl) (fun hg => Y.leq (.gd (hg) rfl) (.pl rfl)) rfl ?_
        refine WL.q (Y.or (.pl rfl) (fun h2 => .gd (eqf h2) rfl)) rfl ?_
        refine WL.q (Y.assign (.pl rfl)) rfl ?_
        refine WL.next hQ15 (.cons (i := 6) rfl (.nil)) ?_
        obtain rfl := Option.some.inj hF
        refine W.retV (fn := Try.f12) (vs := [.bool ((!r20.1) || (decide (r26 ≤ 0)))]) Try.results12 ⟨.tmp rfl, trivial⟩ (fun _ _ h => h) (fun w hw => ?_)
        exact hR _ _ ⟨rfl, (hw.pick [] rfl)⟩

def alibkeep_SearchFront (N : Nat) (types1 : (List Int)) (l6 : (List Event)) (n11 : Int) : Option Bool :=
  bd (search_Find N types1 l6) fun (r12 : ((List Step) × Bool × Int)) =>
  bd (alibkeep_searchLives N) fun (r15 : Bool) =>
  cond (((((!r15) || (!(decide (r12.2.2 = 0)))) || (!r12.2.1)) || (decide (n11 < 0))) || (decide (((l6).length : Int) < n11)))
    (bd (alibkeep_searchLives N) fun (r16 : Bool) =>
    some r16)
    (ck (slB (l6).length 0 n11) <|
    bd (search_Find N types1 (l6.take n11.toNat)) fun (r18 : ((List Step) × Bool × Int)) =>
    some ((decide (r18.2.2 = 0)) && r18.2.1))

theorem alibkeep_SearchFront_ok {N : Nat} {types1 : (List Int)} {l6 : (List Event)} {n11 : Int} {res : Bool} (hF : alibkeep_SearchFront N types1 l6 n11 = some res) (w : World) {v5 : Value} (hs4 : SlIn (eI .i64) 1 w v5 types1) {v10 : Value} (hs9 : SlIn encEvent 4 w v10 l6) :
    Pure Try.prog 8 [v5, v10, .int .i64 n11] w (.bool res) := by
  obtain ⟨A2, c3, rfl, hcc3, hs4⟩ := hs4.form
  obtain ⟨A7, c8, rfl, hcc8, hs9⟩ := hs9.form
  refine W.enter (n := 55) Try.func8 rfl rfl Sub.refl (by simp) (St.start w) fun R hR => ?_
  unfold alibkeep_SearchFront at hF
  -- region 0: search.go:34
  refine W.seqR fun Q1 hQ1 => ?_
  refine WL.q (Y.assign (.pl rfl)) rfl ?_
  refine WL.next hQ1 (.cons (i := 0) rfl (.cons (i := 1) rfl (.cons (i := 2) rfl (.nil)))) ?_
  -- region 1: search.go:35
  refine W.seqR fun Q2 hQ2 => ?_
  refine WL.q (Y.move (.pl rfl)) rfl ?_
  refine WL.q (Y.move (.pl rfl)) rfl ?_
  obtain ⟨r12, hr12, hF⟩ := bnd hF
  refine WL.step (WO.callM isGo34 (.cons (.pl rfl) (.cons (.pl rfl) (.nil))) rfl (fun w hw => search_Find_ok (hr12) w (hs4.mono hw) (hs9.mono hw)) ?_)
  rintro ⟨A13, c14⟩ -
  refine WL.q (Y.move (.pl rfl)) rfl ?_
  refine WL.q (Y.extract (.pl rfl) rfl) rfl ?_
  refine WL.q (Y.extract (.pl rfl) rfl) rfl ?_
  refine WL.q (Y.extract (.pl rfl) rfl) rfl ?_
  refine WL.q (Y.assign (.pl rfl)) rfl ?_
  refine WL.q (Y.assign (.pl rfl)) rfl ?_
  refine WL.q (Y.assign (.pl rfl)) rfl ?_
  refine WL.next hQ2 (.cons (i := 0) rfl (.cons (i := 1) rfl (.cons (i := 2) rfl (.cons (i := 8) rfl (.cons (i := 9) rfl (.nil)))))) ?_
  refine W.seq fun K3 hK3 => ?_
  -- region 2: search.go:36
  refine W.seqR fun Q4 hQ4 => ?_
  obtain ⟨r15, hr15, hF⟩ := bnd hF
  refine WL.step (WO.callP isGo35 (.nil) rfl (fun w hw => alibkeep_searchLives_ok (hr15) w ) ?_)
  refine WL.q (Y.not (.pl rfl)) rfl ?_
  refine WL.q (Y.move (.pl rfl)) rfl ?_
  refine WL.g (.pl rfl rfl rfl) (fun hg => Y.move (.pl rfl)) rfl ?_
  refine WL.g (.pl rfl rfl rfl) (fun hg => Y.neq (.gd (hg) rfl) (.pl rfl)) rfl ?_
  refine WL.q (Y.or (.pl rfl) (fun h2 => .gd (eqf h2) rfl)) rfl ?_
  refine WL.q (Y.move (.pl rfl)) rfl ?_
  refine WL.g (.pl rfl rfl rfl) (fun hg => Y.move (.pl rfl)) rfl ?_
  refine WL.g (.pl rfl rfl rfl) (fun hg => Y.not (.gd (hg) rfl)) rfl ?_
  refine WL.q (Y.or (.pl rfl) (fun h2 => .gd (eqf h2) rfl)) rfl ?_
  refine WL.q (Y.move (.pl rfl)) rfl ?_
  refine WL.g (.pl rfl rfl rfl) (fun hg => Y.move (.pl rfl)) rfl ?_
  refine WL.g (.pl rfl rfl rfl) (fun hg => Y.lss (.gd (hg) rfl) (.pl rfl)) rfl ?_
  refine WL.q (Y.or (.pl rfl) (fun h2 => .gd (eqf h2) rfl)) rfl ?_
  refine WL.q (Y.move (.pl rfl)) rfl ?_
  refine WL.g (.pl rfl rfl rfl) (fun hg => Y.move (.pl rfl)) rfl ?_
  refine WL.g (.pl rfl rfl rfl) (fun hg => Y.move (.pl rfl)) rfl ?_
  refine WL.g (.pl rfl rfl rfl) (fun hg => Y.len Try.underlying43 (.gd (hg) rfl)) rfl ?_
  refine WL.g (.pl rfl rfl rfl) (fun hg => Y.gtr (.gd (hg) rfl) (.gd (hg) rfl)) rfl ?_
  refine WL.q (Y.or (.pl rfl) (fun h2 => .gd (eqf h2) rfl)) rfl ?_
  refine WL.next hQ4 (.cons (i := 0) rfl (.cons (i := 1) rfl (.cons (i := 2) rfl (.cons (i := 39) rfl (.nil))))) ?_
  refine W.cond (.pl rfl) (fun hC5 => ?_) (fun hC5 => ?_)
  · replace hF := cpos hC5 hF
    -- region 3: search.go:37
    refine W.seqR fun Q6 hQ6 => ?_
    obtain ⟨r16, hr16, hF⟩ := bnd hF
    refine WL.step (WO.callP isGo35 (.nil) rfl (fun w hw => alibkeep_searchLives_ok (hr16) w ) ?_)
    refine WL.q (Y.assign (.pl rfl)) rfl ?_
    refine WL.next hQ6 (.cons (i := 6) rfl (.nil)) ?_
    obtain rfl := Option.some.inj hF
    refine W.retV (fn := Try.f8) (vs := [.bool r16]) Try.results8 ⟨.tmp rfl, trivial⟩ (fun _ _ h => h) (fun w hw => ?_)
    exact hR _ _ ⟨rfl, (hw.pick [] rfl)⟩
  · replace hF := cneg hC5 hF
    refine W.skip ?_
    refine W.go hK3 (.cons (i := 0) rfl (.cons (i := 1) rfl (.cons (i := 2) rfl (.nil)))) ?_
    -- region 4: search.go:39
    refine W.seqR fun Q7 hQ7 => ?_
    refine WL.q (Y.move (.pl rfl)) rfl ?_
    refine WL.q (Y.move (.pl rfl)) rfl ?_
    refine WL.q (Y.move (.pl rfl)) rfl ?_
    obtain ⟨hk17, hF⟩ := ckh hF
    refine WL.q (Y.slice0 (xs := l6) Try.underlying43 cells49 (.pl rfl) rfl (hs9).cap_le (.pl rfl) (hk17)) rfl ?_
    obtain ⟨r18, hr18, hF⟩ := bnd hF
    refine WL.step (WO.callM isGo34 (.cons (.pl rfl) (.cons (.pl rfl) (.nil))) rfl (fun w hw => search_Find_ok (hr18) w (hs4.mono hw) ((SlIn.sub0 hs9 (slB_nat0 (hk17))).mono hw)) ?_)
    rintro ⟨A19, c20⟩ -
    refine WL.q (Y.move (.pl rfl)) rfl ?_
    refine WL.q (Y.extract (.pl rfl) rfl) rfl ?_
    refine WL.q (Y.extract (.pl rfl) rfl) rfl ?_
    refine WL.q (Y.extract (.pl rfl) rfl) rfl ?_
    refine WL.q (Y.assign (.pl rfl)) rfl ?_
    refine WL.q (Y.assign (.pl rfl)) rfl ?_
    refine WL.q (Y.assign (.pl rfl)) rfl ?_
    refine WL.next hQ7 (.cons (i := 11) rfl (.cons (i := 12) rfl (.nil))) ?_
    -- region 5: search.go:40
    refine W.seqR fun Q8 hQ8 => ?_
    refine WL.q (Y.move (.pl rfl)) rfl ?_
    refine WL.q (Y.eql (.pl rfl) (.pl rfl)) rfl ?_
    refine WL.q (Y.move (.pl rfl)) rfl ?_
    refine WL.g (.pl rfl rfl rfl) (fun hg => Y.move (.pl rfl)) rfl ?_
    refine WL.q (Y.and (.pl rfl) (fun h2 => .gd (eqt h2) rfl)) rfl ?_
    refine WL.q (Y.assign (.pl rfl)) rfl ?_
    refine WL.next hQ8 (.cons (i := 6) rfl (.nil)) ?_
    obtain rfl := Option.some.inj hF
    refine W.retV (fn := Try.f8) (vs := [.bool ((decide (r18.2.2 = 0)) && r18.2.1)]) Try.results8 ⟨.tmp rfl, trivial⟩ (fun _ _ h => h) (fun w hw => ?_)
    exact hR _ _ ⟨rfl, (hw.pick [] rfl)⟩

def alibkeep_SearchAlone_L5 (N : Nat) (l6 : (List Event)) : Int → Option (Int ⊕ (Unit ⊕ Bool))
  | v22 =>
    cond (decide (v22 < ((l6).length : Int)))
      (bd (ix l6 v22) fun (x23 : Event) =>
      cond (!(decide (x23.who = 0)))
        (some (.inr (.inr true)))
        (ck (ok64 (v22 + 1)) <|
        some (.inl (v22 + 1))))
      (some (.inr (.inl ())))

def alibkeep_SearchAlone_L7 (N : Nat) (r14 : ((List Call) × Int × Int)) : ((List Step) × Int) → Option (((List Step) × Int) ⊕ (List Step))
  | (w31, v32) =>
    cond (decide (v32 < ((r14.1).length : Int)))
      (bd (ix r14.1 v32) fun (x33 : Call) =>
      cond (!(decide (x33.to_ = (-1))))
        (ck (limB 16 ((w31).length + (([(Step.mk v32 x33.res)] : List Step)).length)) <|
        ck (ok64 (v32 + 1)) <|
        some (.inl ((w31 ++ ([(Step.mk v32 x33.res)] : List Step)), (v32 + 1))))
        (ck (ok64 (v32 + 1)) <|
        some (.inl (w31, (v32 + 1)))))
      (some (.inr w31))

def alibkeep_SearchAlone (N : Nat) (types1 : (List Int)) (l6 : (List Event)) : Option Bool :=
  bd (search_Find N types1 l6) fun (r11 : ((List Step) × Bool × Int)) =>
  bd (history_Calls N types1 l6) fun (r14 : ((List Call) × Int × Int)) =>
  bd (α := Bool) (bd (alibkeep_searchLives N) fun (r18 : Bool) =>
    cond ((!r18) == false)
      (bd (alibkeep_ok N ([r11.2.2, r14.2.2] : List Int)) fun (r20 : Bool) =>
      some ((!r18) || (!r20)))
      (some ((!r18) || false))) <|
  fun (v17 : Bool) => 
    cond v17
      (bd (alibkeep_searchLives N) fun (r21 : Bool) =>
      some r21)
      (bd (α := (Unit ⊕ Bool)) (iter (alibkeep_SearchAlone_L5 N l6) N 0) <|
      Sum.elim (fun _ => 
        bd (α := (List Step)) (iter (alibkeep_SearchAlone_L7 N r14) N ([], 0)) <|
        fun (w28 : (List Step)) => 
          bd (search_Right N types1 l6 w28) fun (r41 : (Bool × Int)) =>
          some ((decide (r41.2 = 0)) && (r41.1 == r11.2.1))) (fun p => some p))

theorem alibkeep_SearchAlone_ok {N : Nat} {types1 : (List Int)} {l6 : (List Event)} {res : Bool} (hF : alibkeep_SearchAlone N types1 l6 = some res) (w : World) {v5 : Value} (hs4 : SlIn (eI .i64) 1 w v5 types1) {v10 : Value} (hs9 : SlIn encEvent 4 w v10 l6) :
    Pure Try.prog 11 [v5, v10] w (.bool res) := by
  obtain ⟨A2, c3, rfl, hcc3, hs4⟩ := hs4.form
  obtain ⟨A7, c8, rfl, hcc8, hs9⟩ := hs9.form
  refine W.enter (n := 84) Try.func11 rfl rfl Sub.refl (by simp) (St.start w) fun R hR => ?_
  unfold alibkeep_SearchAlone at hF
  -- region 0: search.go:80
  refine W.seqR fun Q1 hQ1 => ?_
  refine WL.q (Y.assign (.pl rfl)) rfl ?_
  refine WL.next hQ1 (.cons (i := 0) rfl (.cons (i := 1) rfl (.nil))) ?_
  -- region 1: search.go:81
  refine W.seqR fun Q2 hQ2 => ?_
  refine WL.q (Y.move (.pl rfl)) rfl ?_
  refine WL.q (Y.move (.pl rfl)) rfl ?_
  obtain ⟨r11, hr11, hF⟩ := bnd hF
  refine WL.step (WO.callM isGo34 (.cons (.pl rfl) (.cons (.pl rfl) (.nil))) rfl (fun w hw => search_Find_ok (hr11) w (hs4.mono hw) (hs9.mono hw)) ?_)
  rintro ⟨A12, c13⟩ -
  refine WL.q (Y.move (.pl rfl)) rfl ?_
  refine WL.q (Y.extract (.pl rfl) rfl) rfl ?_
  refine WL.q (Y.extract (.pl rfl) rfl) rfl ?_
  refine WL.q (Y.extract (.pl rfl) rfl) rfl ?_
  refine WL.q (Y.assign (.pl rfl)) rfl ?_
  refine WL.q (Y.assign (.pl rfl)) rfl ?_
  refine WL.q (Y.assign (.pl rfl)) rfl ?_
  refine WL.next hQ2 (.cons (i := 0) rfl (.cons (i := 1) rfl (.cons (i := 6) rfl (.cons (i := 7) rfl (.nil))))) ?_
  -- region 2: search.go:82
  refine W.seqR fun Q3 hQ3 => ?_
  refine WL.q (Y.move (.pl rfl)) rfl ?_
  refine WL.q (Y.move (.pl rfl)) rfl ?_
  obtain ⟨r14, hr14, hF⟩ := bnd hF
  refine WL.step (WO.callM isGo37 (.cons (.pl rfl) (.cons (.pl rfl) (.nil))) rfl (fun w hw => history_Calls_ok (hr14) w (hs4.mono hw) (hs9.mono hw)) ?_)
  rintro ⟨A15, c16⟩ -
  refine WL.q (Y.move (.pl rfl)) rfl ?_
  refine WL.q (Y.extract (.pl rfl) rfl) rfl ?_
  refine WL.q (Y.extract (.pl rfl) rfl) rfl ?_
  refine WL.q (Y.extract (.pl rfl) rfl) rfl ?_
  refine WL.q (Y.assign (.pl rfl)) rfl ?_
  refine WL.q (Y.assign (.pl rfl)) rfl ?_
  refine WL.q (Y.assign (.pl rfl)) rfl ?_
  refine WL.next hQ3 (.cons (i := 0) rfl (.cons (i := 1) rfl (.cons (i := 6) rfl (.cons (i := 7) rfl (.cons (i := 8) rfl (.cons (i := 10) rfl (.nil))))))) ?_
  refine W.seq fun K4 hK4 => ?_
  obtain ⟨o5, hF5, hF⟩ := bnd hF
  refine W.join1 (Em := fun (v17 : Bool) => [(40, .bool v17)]) (M := fun v17 => [cR encCall 7 A15 c16 55 r14.1]) (I := fun v17 => v17 = o5) (.cons (i := 0) rfl (.cons (i := 1) rfl (.cons (i := 6) rfl (.cons (i := 8) rfl (.nil))))) (fun K6 hK6 => ?_) ?_
  · -- up to
    -- region 3: search.go:83
    refine W.reg ?_
    obtain ⟨r18, hr18, hF5⟩ := bnd hF5
    refine WL.step (WO.callP isGo35 (.nil) rfl (fun w hw => alibkeep_searchLives_ok (hr18) w ) ?_)
    refine WL.q (Y.not (.pl rfl)) rfl ?_
    refine WL.q (Y.move (.pl rfl)) rfl ?_
    refine WL.g (.pl rfl rfl rfl) (fun hg => Y.move (.pl rfl)) rfl ?_
    refine WL.g (.pl rfl rfl rfl) (fun hg => Y.move (.pl rfl)) rfl ?_
    refine bsplit ((!r18) == false) (fun hg7 => ?_) (fun hg7 => ?_)
    · replace hF5 := cpos hg7 hF5
      refine WL.gd (.pl rfl rfl rfl) (hg7) ?_
      refine WL.step (WO.bsliceC (enc := (eI .i64)) (ys := ([r11.2.2, r14.2.2] : List Int)) Try.underlying88 bz29 (.cons (.gd (hg7) rfl) (.cons (.gd (hg7) rfl) (.nil))) rfl (fun _ => rfl) rfl rfl (by decide) (by decide) rfl fun b19 => ?_)
      refine WL.gd (.pl rfl rfl rfl) (hg7) ?_
      obtain ⟨r20, hr20, hF5⟩ := bnd hF5
      refine WL.step (WO.callP isGo28 (.cons (.pl rfl) (.nil)) rfl (fun w hw => alibkeep_ok_ok (hr20) w (SlIn.ofRow (fun _ => rfl) hw (i := 0) rfl)) ?_)
      refine WL.gd (.pl rfl rfl rfl) (hg7) ?_
      refine WL.q (Y.not (.pl rfl)) rfl ?_
      refine WL.q (Y.or (.pl rfl) (fun _ => .pl rfl)) rfl ?_
      refine WL.nil ?_
      exact W.joinAt1 hK6 ((!r18) || (!r20)) (Option.some.inj hF5) (.cons rfl (.nil)) (.cons (i := 0) rfl (.cons (i := 1) rfl (.cons (i := 6) rfl (.cons (i := 8) rfl (.nil))))) (fun w hw => hw.pick [1] rfl)
    · replace hF5 := cneg hg7 hF5
      refine WL.gn (.pl rfl rfl rfl) hg7 rfl ?_
      refine WL.gn (.pl rfl rfl rfl) hg7 rfl ?_
      refine WL.gn (.pl rfl rfl rfl) hg7 rfl ?_
      refine WL.q (Y.or (b := false) (.pl rfl) (fun h2 => (gabsO hg7 h2).elim)) rfl ?_
      refine WL.nil ?_
      exact W.joinAt1 hK6 ((!r18) || false) (Option.some.inj hF5) (.cons rfl (.nil)) (.cons (i := 0) rfl (.cons (i := 1) rfl (.cons (i := 6) rfl (.cons (i := 8) rfl (.nil))))) (fun w hw => hw.pick [0] rfl)
  · -- behind
    rintro v17 rfl
    refine W.cond (.pl rfl) (fun hC8 => ?_) (fun hC8 => ?_)
    · replace hF := cpos hC8 hF
      -- region 4: search.go:84
      refine W.seqR fun Q9 hQ9 => ?_
      obtain ⟨r21, hr21, hF⟩ := bnd hF
      refine WL.step (WO.callP isGo35 (.nil) rfl (fun w hw => alibkeep_searchLives_ok (hr21) w ) ?_)
      refine WL.q (Y.assign (.pl rfl)) rfl ?_
      refine WL.next hQ9 (.cons (i := 4) rfl (.nil)) ?_
      obtain rfl := Option.some.inj hF
      refine W.retV (fn := Try.f11) (vs := [.bool r21]) Try.results11 ⟨.tmp rfl, trivial⟩ (fun _ _ h => h) (fun w hw => ?_)
      exact hR _ _ ⟨rfl, (hw.pick [] rfl)⟩
    · replace hF := cneg hC8 hF
      refine W.skip ?_
      refine W.go hK4 (.cons (i := 0) rfl (.cons (i := 1) rfl (.cons (i := 6) rfl (.cons (i := 8) rfl (.nil))))) ?_
      obtain ⟨o10, hF10, hF⟩ := bnd hF
      refine W.join0 (Em := []) (M := [cR encCall 7 A15 c16 55 r14.1]) (I := (.inl ()) = o10) (.cons (i := 0) rfl (.cons (i := 1) rfl (.cons (i := 6) rfl (.cons (i := 8) rfl (.nil))))) (fun K11 hK11 => ?_) ?_
      · -- up to
        -- region 5: search.go:86
        refine W.seqR fun Q12 hQ12 => ?_
        refine WL.q (Y.move (.pl rfl)) rfl ?_
        refine WL.q (Y.len Try.underlying43 (.pl rfl)) rfl ?_
        refine WL.q (Y.move (.pl rfl)) rfl ?_
        refine WL.next hQ12 (.cons (i := 0) rfl (.cons (i := 1) rfl (.cons (i := 6) rfl (.cons (i := 8) rfl (.cons (i := 42) rfl (.cons (i := 43) rfl (.cons (i := 44) rfl (.nil)))))))) ?_
        refine W.block ?_
        refine W.loop1 (Em := fun (v22 : Int) => [(44, .int .i64 v22)]) (M := fun v22 => [cR encCall 7 A15 c16 55 r14.1]) (I := fun v22 k13 => iter (alibkeep_SearchAlone_L5 N l6) k13 v22 = some o10) 0 N (hF10) (.cons rfl (.nil)) (.cons (i := 0) rfl (.cons (i := 1) rfl (.cons (i := 6) rfl (.cons (i := 8) rfl (.cons (i := 42) rfl (.cons (i := 43) rfl (.nil))))))) (fun w hw => hw.pick [0] rfl) (fun v22 k13 hI K14 hK14 => ?_)
        obtain ⟨k13, t13, rfl, hF13, hN13⟩ := iter_step hI
        -- region 6: search.go:86
        refine W.seqR fun Q15 hQ15 => ?_
        refine WL.q (Y.lss (.pl rfl) (.pl rfl)) rfl ?_
        refine WL.next hQ15 (.cons (i := 0) rfl (.cons (i := 1) rfl (.cons (i := 6) rfl (.cons (i := 8) rfl (.cons (i := 42) rfl (.cons (i := 43) rfl (.cons (i := 44) rfl (.cons (i := 45) rfl (.nil))))))))) ?_
        refine W.seq fun K16 hK16 => ?_
        refine W.cond (.pl rfl) (fun hC17 => ?_) (fun hC17 => ?_)
        · replace hF13 := cpos hC17 hF13
          refine W.skip ?_
          refine W.go hK16 (.cons (i := 0) rfl (.cons (i := 1) rfl (.cons (i := 6) rfl (.cons (i := 8) rfl (.cons (i := 42) rfl (.cons (i := 43) rfl (.cons (i := 44) rfl (.nil)))))))) ?_
          refine W.seq fun K18 hK18 => ?_
          refine W.block ?_
          -- region 7: search.go:86
          refine W.seqR fun Q19 hQ19 => ?_
          obtain ⟨x23, hx23, hF13⟩ := bnd hF13
          refine WL.q (Y.slEl Try.underlying43 cells49 hs9 (.pl rfl) (.pl rfl) (ix_lt (hx23))) rfl ?_
          refine WL.q (Y.loadSA (enc := encEvent) (ds := (encEvent x23)) (j := 0) Try.underlying49 rfl cells49 hs9 (.pl rfl) (hx23) rfl rfl subW) rfl ?_
          refine WL.step (WO.alloc (cs := (encEvent (Event.mk 0 0 0 0)).toArray) zero49 rfl rfl fun b24 => ?_)
          refine WL.step (WO.storeBA (ds := (encEvent x23)) (cs' := (encEvent x23)) cells49 (.pl rfl) (.pl rfl) rfl (oneEvent _) (i := 0) rfl (lel (o := 0) (l := 4) (m := 4) (by decide) rfl rfl) (putW rfl) ?_)
          refine WL.next hQ19 (.cons (i := 0) rfl (.cons (i := 1) rfl (.cons (i := 6) rfl (.cons (i := 8) rfl (.cons (i := 12) rfl (.cons (i := 42) rfl (.cons (i := 43) rfl (.cons (i := 44) rfl (.nil))))))))) ?_
          -- region 8: search.go:87
          refine W.seqR fun Q20 hQ20 => ?_
          refine WL.q (Y.fieldAddr0 (off := 0) (ft := 3) Try.underlying49 rfl cells3 (.pl rfl)) rfl ?_
          refine WL.q (Y.loadB (v := .int .i64 x23.who) Try.underlying3 rfl (.pl rfl) (i := 0) rfl (rfl)) rfl ?_
          refine WL.q (Y.neq (.pl rfl) (.pl rfl)) rfl ?_
          refine WL.next hQ20 (.cons (i := 0) rfl (.cons (i := 1) rfl (.cons (i := 6) rfl (.cons (i := 8) rfl (.cons (i := 42) rfl (.cons (i := 43) rfl (.cons (i := 44) rfl (.cons (i := 50) rfl (.nil))))))))) ?_
          refine W.cond (.pl rfl) (fun hC21 => ?_) (fun hC21 => ?_)
          · replace hF13 := cpos hC21 hF13
            -- region 9: search.go:88
            refine W.seqR fun Q22 hQ22 => ?_
            refine WL.q (Y.assign (.pl rfl)) rfl ?_
            refine WL.next hQ22 (.cons (i := 4) rfl (.nil)) ?_
            obtain rfl := Option.some.inj hF13
            obtain rfl := einr hN13
            obtain rfl := Option.some.inj hF
            refine W.retV (fn := Try.f11) (vs := [.bool true]) Try.results11 ⟨.tmp rfl, trivial⟩ (fun _ _ h => h) (fun w hw => ?_)
            exact hR _ _ ⟨rfl, (hw.pick [] rfl)⟩
          · replace hF13 := cneg hC21 hF13
            refine W.skip ?_
            refine W.go hK18 (.cons (i := 0) rfl (.cons (i := 1) rfl (.cons (i := 6) rfl (.cons (i := 8) rfl (.cons (i := 42) rfl (.cons (i := 43) rfl (.cons (i := 44) rfl (.nil)))))))) ?_
            -- region 10: search.go:86
            refine W.reg ?_
            obtain ⟨hk25, hF13⟩ := ckh hF13
            refine WL.q (Y.add (.pl rfl) (.pl rfl) (ok64_lt (hk25))) rfl ?_
            refine WL.q (Y.move (.pl rfl)) rfl ?_
            refine WL.nil ?_
            obtain rfl := Option.some.inj hF13
            exact W.again1 hK14 (v22 + 1) k13 hN13 (Nat.lt_succ_self _) (.cons rfl (.nil)) (.cons (i := 0) rfl (.cons (i := 1) rfl (.cons (i := 6) rfl (.cons (i := 8) rfl (.cons (i := 42) rfl (.cons (i := 43) rfl (.nil))))))) (fun w hw => hw.pick [1] rfl)
        · replace hF13 := cneg hC17 hF13
          refine W.exit ?_
          obtain rfl := Option.some.inj hF13
          exact W.joinAt0 hK11  (einr hN13) (.nil) (.cons (i := 0) rfl (.cons (i := 1) rfl (.cons (i := 6) rfl (.cons (i := 8) rfl (.nil))))) (fun w hw => hw.pick [0] rfl)
      · -- behind
        rintro  rfl
        -- region 11: search.go:91
        refine W.seqR fun Q24 hQ24 => ?_
        refine WL.q (Y.assign (.pl rfl)) rfl ?_
        refine WL.next hQ24 (.cons (i := 0) rfl (.cons (i := 1) rfl (.cons (i := 6) rfl (.cons (i := 8) rfl (.cons (i := 13) rfl (.nil)))))) ?_
        obtain ⟨o25, hF25, hF⟩ := bnd hF
        refine W.join3 (Em := fun (w28 : (List Step)) (A26 : Option Addr) (c27 : Nat) => [(13, .slice A26 (w28).length c27)]) (M := fun w28 A26 c27 => [cR encStep 2 A26 c27 58 w28]) (I := fun w28 A26 c27 => w28 = o25) (.cons (i := 0) rfl (.cons (i := 1) rfl (.cons (i := 6) rfl (.nil)))) (fun K26 hK26 => ?_) ?_
        · -- up to
          -- region 12: search.go:92
          refine W.seqR fun Q27 hQ27 => ?_
          refine WL.q (Y.move (.pl rfl)) rfl ?_
          refine WL.q (Y.len Try.underlying51 (.pl rfl)) rfl ?_
          refine WL.q (Y.move (.pl rfl)) rfl ?_
          refine WL.next hQ27 (.cons (i := 0) rfl (.cons (i := 1) rfl (.cons (i := 6) rfl (.cons (i := 13) rfl (.cons (i := 52) rfl (.cons (i := 53) rfl (.cons (i := 54) rfl (.nil)))))))) ?_
          refine W.block ?_
          refine W.loop4 (Em := fun (w31 : (List Step)) (v32 : Int) (A29 : Option Addr) (c30 : Nat) => [(13, .slice A29 (w31).length c30), (54, .int .i64 v32)]) (M := fun w31 v32 A29 c30 => [cR encStep 2 A29 c30 58 w31, cR encCall 7 A15 c16 55 r14.1]) (I := fun w31 v32 A29 c30 k28 => iter (alibkeep_SearchAlone_L7 N r14) k28 (w31, v32) = some o25) [] 0 none 0 N (hF25) (.cons rfl (.cons rfl (.nil))) (.cons (i := 0) rfl (.cons (i := 1) rfl (.cons (i := 6) rfl (.cons (i := 52) rfl (.cons (i := 53) rfl (.nil)))))) (fun w hw => (St.nilR (hw.pick [0] rfl) encStep 2 58).pick [0, 1] rfl) (fun w31 v32 A29 c30 k28 hI K29 hK29 => ?_)
          obtain ⟨k28, t28, rfl, hF28, hN28⟩ := iter_step hI
          -- region 13: search.go:92
          refine W.seqR fun Q30 hQ30 => ?_
          refine WL.q (Y.lss (.pl rfl) (.pl rfl)) rfl ?_
          refine WL.next hQ30 (.cons (i := 0) rfl (.cons (i := 1) rfl (.cons (i := 6) rfl (.cons (i := 13) rfl (.cons (i := 52) rfl (.cons (i := 53) rfl (.cons (i := 54) rfl (.cons (i := 55) rfl (.nil))))))))) ?_
          refine W.seq fun K31 hK31 => ?_
          refine W.cond (.pl rfl) (fun hC32 => ?_) (fun hC32 => ?_)
          · replace hF28 := cpos hC32 hF28
            refine W.skip ?_
            refine W.go hK31 (.cons (i := 0) rfl (.cons (i := 1) rfl (.cons (i := 6) rfl (.cons (i := 13) rfl (.cons (i := 52) rfl (.cons (i := 53) rfl (.cons (i := 54) rfl (.nil)))))))) ?_
            refine W.seq fun K33 hK33 => ?_
            refine W.block ?_
            -- region 14: search.go:92
            refine W.seqR fun Q34 hQ34 => ?_
            refine WL.q (Y.move (.pl rfl)) rfl ?_
            obtain ⟨x33, hx33, hF28⟩ := bnd hF28
            refine WL.q (Y.rowEl Try.underlying51 cells55 (i := 1) rfl (.pl rfl) rfl (.pl rfl) (ix_lt (hx33))) rfl ?_
            refine WL.q (Y.loadRA (enc := encCall) (ds := (encCall x33)) (a := x33) (idx := v32) (j := 0) Try.underlying55 rfl cells55 lenCall (i := 1) rfl (.pl rfl) (ix_get (hx33)) rfl rfl subW) rfl ?_
            refine WL.step (WO.alloc (cs := (encCall (Call.mk 0 0 0 0 0 0 0)).toArray) zero55 rfl rfl fun b34 => ?_)
            refine WL.q (Y.assign (.pl rfl)) rfl ?_
            refine WL.step (WO.storeBA (ds := (encCall x33)) (cs' := (encCall x33)) cells55 (.pl rfl) (.pl rfl) rfl (oneCall _) (i := 0) rfl (lel (o := 0) (l := 7) (m := 7) (by decide) rfl rfl) (putW rfl) ?_)
            refine WL.next hQ34 (.cons (i := 0) rfl (.cons (i := 1) rfl (.cons (i := 6) rfl (.cons (i := 13) rfl (.cons (i := 14) rfl (.cons (i := 15) rfl (.cons (i := 52) rfl (.cons (i := 53) rfl (.cons (i := 54) rfl (.nil)))))))))) ?_
            -- region 15: search.go:93
            refine W.seqR fun Q35 hQ35 => ?_
            refine WL.q (Y.fieldAddr0 (off := 6) (ft := 3) Try.underlying55 rfl cells3 (.pl rfl)) rfl ?_
            refine WL.q (Y.loadB (v := .int .i64 x33.to_) Try.underlying3 rfl (.pl rfl) (i := 0) rfl (rfl)) rfl ?_
            refine WL.q (Y.neq (.pl rfl) (.pl rfl)) rfl ?_
            refine WL.next hQ35 (.cons (i := 0) rfl (.cons (i := 1) rfl (.cons (i := 6) rfl (.cons (i := 13) rfl (.cons (i := 14) rfl (.cons (i := 15) rfl (.cons (i := 52) rfl (.cons (i := 53) rfl (.cons (i := 54) rfl (.cons (i := 61) rfl (.nil))))))))))) ?_
            refine W.cond (.pl rfl) (fun hC36 => ?_) (fun hC36 => ?_)
            · replace hF28 := cpos hC36 hF28
              -- region 16: search.go:94
              refine W.reg ?_
              refine WL.q (Y.move (.pl rfl)) rfl ?_
              refine WL.q (Y.move (.pl rfl)) rfl ?_
              refine WL.q (Y.fieldAddr0 (off := 4) (ft := 3) Try.underlying55 rfl cells3 (.pl rfl)) rfl ?_
              refine WL.q (Y.loadB (v := .int .i64 x33.res) Try.underlying3 rfl (.pl rfl) (i := 0) rfl (rfl)) rfl ?_
              refine WL.q (Y.build (cs := (encStep (Step.mk v32 x33.res)).toArray) shape58 (.cons (.pl rfl) (.cons (.pl rfl) (.nil))) (one_parts ⟨rfl, ⟨rfl, trivial⟩⟩) rfl) rfl ?_
              refine WL.step (WO.bsliceC (enc := encStep) (ys := ([(Step.mk v32 x33.res)] : List Step)) Try.underlying44 bz58 (.cons (.pl rfl) (.nil)) rfl lenStep rfl rfl (by decide) (by decide) rfl fun b35 => ?_)
              obtain ⟨hk38, hF28⟩ := ckh hF28
              refine WL.step (WO.appendC (enc := encStep) Try.underlying44 ap58 lenStep oneStep (.pl rfl) rfl (.pl rfl) (i := 2) rfl (m2 := 0) rfl (hk38) rfl fun A36 c37 => ?_)
              refine WL.q (Y.assign (.pl rfl)) rfl ?_
              refine WL.nil ?_
              refine W.go hK33 (.cons (i := 0) rfl (.cons (i := 1) rfl (.cons (i := 6) rfl (.cons (i := 13) rfl (.cons (i := 52) rfl (.cons (i := 53) rfl (.cons (i := 54) rfl (.nil)))))))) ?_
              -- region 17: search.go:92
              refine W.reg ?_
              obtain ⟨hk39, hF28⟩ := ckh hF28
              refine WL.q (Y.add (.pl rfl) (.pl rfl) (ok64_lt (hk39))) rfl ?_
              refine WL.q (Y.move (.pl rfl)) rfl ?_
              refine WL.nil ?_
              obtain rfl := Option.some.inj hF28
              exact W.again4 hK29 (w31 ++ ([(Step.mk v32 x33.res)] : List Step)) (v32 + 1) A36 c37 k28 hN28 (Nat.lt_succ_self _) (.cons rfl (.cons rfl (.nil))) (.cons (i := 0) rfl (.cons (i := 1) rfl (.cons (i := 6) rfl (.cons (i := 52) rfl (.cons (i := 53) rfl (.nil)))))) (fun w hw => hw.pick [2, 3] rfl)
            · replace hF28 := cneg hC36 hF28
              refine W.skip ?_
              refine W.go hK33 (.cons (i := 0) rfl (.cons (i := 1) rfl (.cons (i := 6) rfl (.cons (i := 13) rfl (.cons (i := 52) rfl (.cons (i := 53) rfl (.cons (i := 54) rfl (.nil)))))))) ?_
              -- region 17: search.go:92
              refine W.reg ?_
              obtain ⟨hk40, hF28⟩ := ckh hF28
              refine WL.q (Y.add (.pl rfl) (.pl rfl) (ok64_lt (hk40))) rfl ?_
              refine WL.q (Y.move (.pl rfl)) rfl ?_
              refine WL.nil ?_
              obtain rfl := Option.some.inj hF28
              exact W.again4 hK29 w31 (v32 + 1) A29 c30 k28 hN28 (Nat.lt_succ_self _) (.cons rfl (.cons rfl (.nil))) (.cons (i := 0) rfl (.cons (i := 1) rfl (.cons (i := 6) rfl (.cons (i := 52) rfl (.cons (i := 53) rfl (.nil)))))) (fun w hw => hw.pick [1, 2] rfl)
          · replace hF28 := cneg hC32 hF28
            refine W.exit ?_
            obtain rfl := Option.some.inj hF28
            exact W.joinAt3 hK26 w31 A29 c30 (einr hN28) (.cons rfl (.nil)) (.cons (i := 0) rfl (.cons (i := 1) rfl (.cons (i := 6) rfl (.nil)))) (fun w hw => hw.pick [0] rfl)
        · -- behind
          rintro w28 A26 c27 rfl
          -- region 18: search.go:97
          refine W.seqR fun Q40 hQ40 => ?_
          refine WL.q (Y.move (.pl rfl)) rfl ?_
          refine WL.q (Y.move (.pl rfl)) rfl ?_
          refine WL.q (Y.move (.pl rfl)) rfl ?_
          obtain ⟨r41, hr41, hF⟩ := bnd hF
          refine WL.step (WO.callP isGo43 (.cons (.pl rfl) (.cons (.pl rfl) (.cons (.pl rfl) (.nil)))) rfl (fun w hw => search_Right_ok (hr41) w (hs4.mono hw) (hs9.mono hw) (SlIn.ofRow lenStep hw (i := 0) rfl)) ?_)
          refine WL.q (Y.move (.pl rfl)) rfl ?_
          refine WL.q (Y.extract (.pl rfl) rfl) rfl ?_
          refine WL.q (Y.extract (.pl rfl) rfl) rfl ?_
          refine WL.q (Y.assign (.pl rfl)) rfl ?_
          refine WL.q (Y.assign (.pl rfl)) rfl ?_
          refine WL.next hQ40 (.cons (i := 6) rfl (.cons (i := 16) rfl (.cons (i := 17) rfl (.nil)))) ?_
          -- region 19: search.go:98
          refine W.seqR fun Q41 hQ41 => ?_
          refine WL.q (Y.move (.pl rfl)) rfl ?_
          refine WL.q (Y.eql (.pl rfl) (.pl rfl)) rfl ?_
          refine WL.q (Y.move (.pl rfl)) rfl ?_
          refine WL.g (.pl rfl rfl rfl) (fun hg => Y.move (.pl rfl)) rfl ?_
          refine WL.g (.pl rfl rfl rfl) (fun hg => Y.move (.pl rfl)) rfl ?_
          refine WL.g (.pl rfl rfl rfl) (fun hg => Y.eqlB Try.underlying4 (.gd (hg) rfl) (.gd (hg) rfl)) rfl ?_
          refine WL.q (Y.and (.pl rfl) (fun h2 => .gd (eqt h2) rfl)) rfl ?_
          refine WL.q (Y.assign (.pl rfl)) rfl ?_
          refine WL.next hQ41 (.cons (i := 4) rfl (.nil)) ?_
          obtain rfl := Option.some.inj hF
          refine W.retV (fn := Try.f11) (vs := [.bool ((decide (r41.2 = 0)) && (r41.1 == r11.2.1))]) Try.results11 ⟨.tmp rfl, trivial⟩ (fun _ _ h => h) (fun w hw => ?_)
          exact hR _ _ ⟨rfl, (hw.pick [] rfl)⟩

/-- slices.Clone -/
theorem slices_Clone_api_Event_api_Event_ok {xs : List Event} (hb : limB 32 xs.length = true) (w : World) {v : Value} (h : SlIn encEvent 4 w v xs) :
    Made Try.prog 36 [v] w (fun g : Option Addr × Nat => .slice g.1 xs.length g.2) (fun g => [cR encEvent 4 g.1 g.2 49 xs]) (fun _ => True) := by
  obtain ⟨A1, c1, rfl, hc1, hs⟩ := h.form
  refine W.enter (n := 8) Try.func36 rfl rfl Sub.refl (by simp) (St.start w) fun R hR => ?_
  refine W.seqR fun Q1 hQ1 => ?_
  refine WL.q (Y.assign (.pl rfl)) rfl ?_
  refine WL.next hQ1 (.cons (i := 0) rfl (.nil)) ?_
  refine W.seq fun K2 hK2 => ?_
  refine W.seqR fun Q3 hQ3 => ?_
  refine WL.q (Y.move (.pl rfl)) rfl ?_
  refine WL.q (Y.eqNil Try.underlying43 (.pl rfl)) rfl ?_
  refine WL.next hQ3 (.cons (i := 0) rfl (.cons (i := 4) rfl (.nil))) ?_
  refine W.cond (.pl rfl) (fun hC => ?_) (fun hC => ?_)
  · refine W.seqR fun Q4 hQ4 => ?_
    refine WL.q (Y.assign (.pl rfl)) rfl ?_
    refine WL.next hQ4 (.cons (i := 2) rfl (.nil)) ?_
    have hx : xs = [] := by
      cases xs with
      | nil => rfl
      | cons a r =>
        have := (hs.okA' (idx := 0) ⟨Int.le_refl _, by simp⟩).1
        rw [Option.isNone_iff_eq_none] at hC
        rw [hC] at this; cases this
    subst hx
    refine W.retV (fn := Try.f36) (vs := [.slice none 0 0]) Try.results36 ⟨.tmp rfl, trivial⟩ (fun _ _ h => h) (fun w hw => ?_)
    exact hR _ _ ⟨(none, 0), trivial, rfl, St.nilR hw encEvent 4 49⟩
  · refine W.skip ?_
    refine W.go hK2 (.cons (i := 0) rfl (.nil)) ?_
    obtain ⟨a1, rfl⟩ : ∃ a, A1 = some a := by cases A1 with
      | none => cases hC
      | some a => exact ⟨a, rfl⟩
    refine W.seqR fun Q5 hQ5 => ?_
    refine WL.step (WO.bsliceC (enc := encEvent) (ys := []) Try.underlying43 bz49 (.nil) rfl lenEvent rfl rfl (by decide) (by decide) rfl fun b => ?_)
    refine WL.q (Y.move (.pl rfl)) rfl ?_
    refine WL.step (WO.appendS (enc := encEvent) (ys := xs) (xs := []) Try.underlying43 ap49 lenEvent oneEvent (.pl rfl) rfl (.pl rfl) (i := 0) rfl (fun w hw => hs.mono hw) (by simpa using hb) rfl fun A c => ?_)
    refine WL.q (Y.assign (.pl rfl)) rfl ?_
    refine WL.next hQ5 (.cons (i := 2) rfl (.nil)) ?_
    refine W.retV (fn := Try.f36) (vs := [.slice A xs.length c]) Try.results36 ⟨.tmp rfl, trivial⟩ (fun _ _ h => h) (fun w hw => ?_)
    exact hR _ _ ⟨(A, c), trivial, rfl, hw⟩

def alibkeep_SearchLater (N : Nat) (types1 : (List Int)) (l6 : (List Event)) (k11 : Int) : Option Bool :=
  bd (search_Find N types1 l6) fun (r12 : ((List Step) × Bool × Int)) =>
  bd (alibkeep_searchLives N) fun (r15 : Bool) =>
  ck (!(((((!r15) || (!(decide (r12.2.2 = 0)))) || (!r12.2.1)) || (decide (k11 < 0))) == false) || (ok64 (((l6).length : Int) - 1))) <|
  bd ((cond ((((((!r15) || (!(decide (r12.2.2 = 0)))) || (!r12.2.1)) || (decide (k11 < 0))) || (decide ((((l6).length : Int) - 1) ≤ k11))) == false) (ix l6 k11) (some Event.z))) fun (x17 : Event) =>
  ck (!((((((!r15) || (!(decide (r12.2.2 = 0)))) || (!r12.2.1)) || (decide (k11 < 0))) || (decide ((((l6).length : Int) - 1) ≤ k11))) == false) || (ok64 (k11 + 1))) <|
  bd ((cond ((((((!r15) || (!(decide (r12.2.2 = 0)))) || (!r12.2.1)) || (decide (k11 < 0))) || (decide ((((l6).length : Int) - 1) ≤ k11))) == false) (ix l6 (k11 + 1)) (some Event.z))) fun (x19 : Event) =>
  cond ((((((!r15) || (!(decide (r12.2.2 = 0)))) || (!r12.2.1)) || (decide (k11 < 0))) || (decide ((((l6).length : Int) - 1) ≤ k11))) || (decide (x17.who = x19.who)))
    (bd (alibkeep_searchLives N) fun (r20 : Bool) =>
    some r20)
    (bd (ix l6 k11) fun (x21 : Event) =>
    ck (!((!(decide (x21.kind = 0))) == true) || (ok64 (k11 + 1))) <|
    bd ((cond ((!(decide (x21.kind = 0))) == true) (ix l6 (k11 + 1)) (some Event.z))) fun (x23 : Event) =>
    cond ((!(decide (x21.kind = 0))) && (decide (x23.kind = 0)))
      (some true)
      (ck (limB 32 (l6).length) <|
      ck (ok64 (k11 + 1)) <|
      ck (ok64 (k11 + 1)) <|
      bd (ix l6 (k11 + 1)) fun (x29 : Event) =>
      bd (ix (l6.set k11.toNat x29) (k11 + 1)) fun (x30 : Event) =>
      bd (search_Find N types1 ((l6.set k11.toNat x29).set (k11 + 1).toNat x21)) fun (r31 : ((List Step) × Bool × Int)) =>
      some ((decide (r31.2.2 = 0)) && r31.2.1)))

theorem alibkeep_SearchLater_ok {N : Nat} {types1 : (List Int)} {l6 : (List Event)} {k11 : Int} {res : Bool} (hF : alibkeep_SearchLater N types1 l6 k11 = some res) (w : World) {v5 : Value} (hs4 : SlIn (eI .i64) 1 w v5 types1) {v10 : Value} (hs9 : SlIn encEvent 4 w v10 l6) :
    Pure Try.prog 9 [v5, v10, .int .i64 k11] w (.bool res) := by
  obtain ⟨A2, c3, rfl, hcc3, hs4⟩ := hs4.form
  obtain ⟨A7, c8, rfl, hcc8, hs9⟩ := hs9.form
  refine W.enter (n := 102) Try.func9 rfl rfl Sub.refl (by simp) (St.start w) fun R hR => ?_
  unfold alibkeep_SearchLater at hF
  -- region 0: search.go:65
  refine W.seqR fun Q1 hQ1 => ?_
  refine WL.q (Y.assign (.pl rfl)) rfl ?_
  refine WL.next hQ1 (.cons (i := 0) rfl (.cons (i := 1) rfl (.cons (i := 2) rfl (.nil)))) ?_
  -- region 1: search.go:66
  refine W.seqR fun Q2 hQ2 => ?_
  refine WL.q (Y.move (.pl rfl)) rfl ?_
  refine WL.q (Y.move (.pl rfl)) rfl ?_
  obtain ⟨r12, hr12, hF⟩ := bnd hF
  refine WL.step (WO.callM isGo34 (.cons (.pl rfl) (.cons (.pl rfl) (.nil))) rfl (fun w hw => search_Find_ok (hr12) w (hs4.mono hw) (hs9.mono hw)) ?_)
  rintro ⟨A13, c14⟩ -
  refine WL.q (Y.move (.pl rfl)) rfl ?_
  refine WL.q (Y.extract (.pl rfl) rfl) rfl ?_
  refine WL.q (Y.extract (.pl rfl) rfl) rfl ?_
  refine WL.q (Y.extract (.pl rfl) rfl) rfl ?_
  refine WL.q (Y.assign (.pl rfl)) rfl ?_
  refine WL.q (Y.assign (.pl rfl)) rfl ?_
  refine WL.q (Y.assign (.pl rfl)) rfl ?_
  refine WL.next hQ2 (.cons (i := 0) rfl (.cons (i := 1) rfl (.cons (i := 2) rfl (.cons (i := 8) rfl (.cons (i := 9) rfl (.nil)))))) ?_
  refine W.seq fun K3 hK3 => ?_
  -- region 2: search.go:67
  refine W.seqD (by kernel_rfl) (by kernel_rfl) fun R4 hR4 => ?_
  obtain ⟨r15, hr15, hF⟩ := bnd hF
  refine WD.callP isGo35 (.nil) rfl (fun w hw => alibkeep_searchLives_ok (hr15) w ) ?_
  refine WD.q (Y.not (.pl rfl)) rfl ?_
  refine WD.q (Y.move (.pl rfl)) rfl ?_
  refine WD.g (.pl rfl rfl rfl) (fun hg => Y.move (.pl rfl)) rfl ?_
  refine WD.g (.pl rfl rfl rfl) (fun hg => Y.neq (.gd (hg) rfl) (.pl rfl)) rfl ?_
  refine WD.q (Y.or (.pl rfl) (fun h2 => .gd (eqf h2) rfl)) rfl ?_
  refine WD.q (Y.move (.pl rfl)) rfl ?_
  refine WD.g (.pl rfl rfl rfl) (fun hg => Y.move (.pl rfl)) rfl ?_
  refine WD.g (.pl rfl rfl rfl) (fun hg => Y.not (.gd (hg) rfl)) rfl ?_
  refine WD.q (Y.or (.pl rfl) (fun h2 => .gd (eqf h2) rfl)) rfl ?_
  refine WD.q (Y.move (.pl rfl)) rfl ?_
  refine WD.g (.pl rfl rfl rfl) (fun hg => Y.move (.pl rfl)) rfl ?_
  refine WD.g (.pl rfl rfl rfl) (fun hg => Y.lss (.gd (hg) rfl) (.pl rfl)) rfl ?_
  refine WD.q (Y.or (.pl rfl) (fun h2 => .gd (eqf h2) rfl)) rfl ?_
  refine WD.q (Y.move (.pl rfl)) rfl ?_
  refine WD.g (.pl rfl rfl rfl) (fun hg => Y.move (.pl rfl)) rfl ?_
  refine WD.g (.pl rfl rfl rfl) (fun hg => Y.move (.pl rfl)) rfl ?_
  refine WD.g (.pl rfl rfl rfl) (fun hg => Y.len Try.underlying43 (.gd (hg) rfl)) rfl ?_
  obtain ⟨hk16, hF⟩ := ckh hF
  refine WD.g (.pl rfl rfl rfl) (fun hg => Y.sub (.gd (hg) rfl) (.pl rfl) (ok64_lt (gor hg hk16))) rfl ?_
  refine WD.g (.pl rfl rfl rfl) (fun hg => Y.geq (.gd (hg) rfl) (.gd (hg) rfl)) rfl ?_
  refine WD.q (Y.or (.pl rfl) (fun h2 => .gd (eqf h2) rfl)) rfl ?_
  refine WD.q (Y.move (.pl rfl)) rfl ?_
  refine WD.g (.pl rfl rfl rfl) (fun hg => Y.move (.pl rfl)) rfl ?_
  refine WD.g (.pl rfl rfl rfl) (fun hg => Y.move (.pl rfl)) rfl ?_
  obtain ⟨x17, hx17, hF⟩ := bnd hF
  refine WD.g (.pl rfl rfl rfl) (fun hg => Y.slEl Try.underlying43 cells49 hs9 (.gd (hg) rfl) (.gd (hg) rfl) (ix_lt (gpos hg hx17))) rfl ?_
  refine WD.g (.pl rfl rfl rfl) (fun hg => Y.slField (off := 0) (ft := 3) Try.underlying49 rfl cells3 (hs9) (ix_lt (gpos hg hx17)) (.gd (hg) rfl)) rfl ?_
  refine WD.g (.pl rfl rfl rfl) (fun hg => Y.loadS (enc := encEvent) (v := .int .i64 x17.who) (j := 0) Try.underlying3 rfl hs9 (.gd (hg) rfl) (gpos hg hx17) rfl rfl) rfl ?_
  refine WD.g (.pl rfl rfl rfl) (fun hg => Y.move (.pl rfl)) rfl ?_
  refine WD.g (.pl rfl rfl rfl) (fun hg => Y.move (.pl rfl)) rfl ?_
  obtain ⟨hk18, hF⟩ := ckh hF
  refine WD.g (.pl rfl rfl rfl) (fun hg => Y.add (.gd (hg) rfl) (.pl rfl) (ok64_lt (gor hg hk18))) rfl ?_
  obtain ⟨x19, hx19, hF⟩ := bnd hF
  refine WD.g (.pl rfl rfl rfl) (fun hg => Y.slEl Try.underlying43 cells49 hs9 (.gd (hg) rfl) (.gd (hg) rfl) (ix_lt (gpos hg hx19))) rfl ?_
  refine WD.g (.pl rfl rfl rfl) (fun hg => Y.slField (off := 0) (ft := 3) Try.underlying49 rfl cells3 (hs9) (ix_lt (gpos hg hx19)) (.gd (hg) rfl)) rfl ?_
  refine WD.g (.pl rfl rfl rfl) (fun hg => Y.loadS (enc := encEvent) (v := .int .i64 x19.who) (j := 0) Try.underlying3 rfl hs9 (.gd (hg) rfl) (gpos hg hx19) rfl rfl) rfl ?_
  refine WD.g (.pl rfl rfl rfl) (fun hg => Y.eql (.gd (hg) rfl) (.gd (hg) rfl)) rfl ?_
  refine WD.q (Y.or (.pl rfl) (fun h2 => .gd (eqf h2) rfl)) rfl ?_
  refine WD.next hR4 (.cons (i := 0) rfl (.cons (i := 1) rfl (.cons (i := 2) rfl (.cons (i := 55) rfl (.nil))))) ?_
  refine W.cond (.pl rfl) (fun hC5 => ?_) (fun hC5 => ?_)
  · replace hF := cpos hC5 hF
    -- region 3: search.go:68
    refine W.seqR fun Q6 hQ6 => ?_
    obtain ⟨r20, hr20, hF⟩ := bnd hF
    refine WL.step (WO.callP isGo35 (.nil) rfl (fun w hw => alibkeep_searchLives_ok (hr20) w ) ?_)
    refine WL.q (Y.assign (.pl rfl)) rfl ?_
    refine WL.next hQ6 (.cons (i := 6) rfl (.nil)) ?_
    obtain rfl := Option.some.inj hF
    refine W.retV (fn := Try.f9) (vs := [.bool r20]) Try.results9 ⟨.tmp rfl, trivial⟩ (fun _ _ h => h) (fun w hw => ?_)
    exact hR _ _ ⟨rfl, (hw.pick [] rfl)⟩
  · replace hF := cneg hC5 hF
    refine W.skip ?_
    refine W.go hK3 (.cons (i := 0) rfl (.cons (i := 1) rfl (.cons (i := 2) rfl (.nil)))) ?_
    refine W.seq fun K7 hK7 => ?_
    -- region 4: search.go:70
    refine W.seqR fun Q8 hQ8 => ?_
    refine WL.q (Y.move (.pl rfl)) rfl ?_
    refine WL.q (Y.move (.pl rfl)) rfl ?_
    obtain ⟨x21, hx21, hF⟩ := bnd hF
    refine WL.q (Y.slEl Try.underlying43 cells49 hs9 (.pl rfl) (.pl rfl) (ix_lt (hx21))) rfl ?_
    refine WL.q (Y.slField (off := 2) (ft := 3) Try.underlying49 rfl cells3 (hs9) (ix_lt (hx21)) (.pl rfl)) rfl ?_
    refine WL.q (Y.loadS (enc := encEvent) (v := .int .i64 x21.kind) (j := 2) Try.underlying3 rfl hs9 (.pl rfl) (hx21) rfl rfl) rfl ?_
    refine WL.q (Y.neq (.pl rfl) (.pl rfl)) rfl ?_
    refine WL.q (Y.move (.pl rfl)) rfl ?_
    refine WL.g (.pl rfl rfl rfl) (fun hg => Y.move (.pl rfl)) rfl ?_
    refine WL.g (.pl rfl rfl rfl) (fun hg => Y.move (.pl rfl)) rfl ?_
    obtain ⟨hk22, hF⟩ := ckh hF
    refine WL.g (.pl rfl rfl rfl) (fun hg => Y.add (.gd (hg) rfl) (.pl rfl) (ok64_lt (gor hg hk22))) rfl ?_
    obtain ⟨x23, hx23, hF⟩ := bnd hF
    refine WL.g (.pl rfl rfl rfl) (fun hg => Y.slEl Try.underlying43 cells49 hs9 (.gd (hg) rfl) (.gd (hg) rfl) (ix_lt (gpos hg hx23))) rfl ?_
    refine WL.g (.pl rfl rfl rfl) (fun hg => Y.slField (off := 2) (ft := 3) Try.underlying49 rfl cells3 (hs9) (ix_lt (gpos hg hx23)) (.gd (hg) rfl)) rfl ?_
    refine WL.g (.pl rfl rfl rfl) (fun hg => Y.loadS (enc := encEvent) (v := .int .i64 x23.kind) (j := 2) Try.underlying3 rfl hs9 (.gd (hg) rfl) (gpos hg hx23) rfl rfl) rfl ?_
    refine WL.g (.pl rfl rfl rfl) (fun hg => Y.eql (.gd (hg) rfl) (.pl rfl)) rfl ?_
    refine WL.q (Y.and (.pl rfl) (fun h2 => .gd (eqt h2) rfl)) rfl ?_
    refine WL.next hQ8 (.cons (i := 0) rfl (.cons (i := 1) rfl (.cons (i := 2) rfl (.cons (i := 71) rfl (.nil))))) ?_
    refine W.cond (.pl rfl) (fun hC9 => ?_) (fun hC9 => ?_)
    · replace hF := cpos hC9 hF
      -- region 5: search.go:71
      refine W.seqR fun Q10 hQ10 => ?_
      refine WL.q (Y.assign (.pl rfl)) rfl ?_
      refine WL.next hQ10 (.cons (i := 6) rfl (.nil)) ?_
      obtain rfl := Option.some.inj hF
      refine W.retV (fn := Try.f9) (vs := [.bool true]) Try.results9 ⟨.tmp rfl, trivial⟩ (fun _ _ h => h) (fun w hw => ?_)
      exact hR _ _ ⟨rfl, (hw.pick [] rfl)⟩
    · replace hF := cneg hC9 hF
      refine W.skip ?_
      refine W.go hK7 (.cons (i := 0) rfl (.cons (i := 1) rfl (.cons (i := 2) rfl (.nil)))) ?_
      -- region 6: search.go:73
      refine W.seqR fun Q11 hQ11 => ?_
      refine WL.q (Y.move (.pl rfl)) rfl ?_
      obtain ⟨hk24, hF⟩ := ckh hF
      refine WL.step (WO.callM isGo36 (.cons (.pl rfl) (.nil)) rfl (fun w hw => slices_Clone_api_Event_api_Event_ok (hk24) w (hs9.mono hw)) ?_)
      rintro ⟨A25, c26⟩ -
      refine WL.q (Y.assign (.pl rfl)) rfl ?_
      refine WL.next hQ11 (.cons (i := 0) rfl (.cons (i := 2) rfl (.cons (i := 10) rfl (.nil)))) ?_
      -- region 7: search.go:74
      refine W.know (fun w hw => (hw.row_lim (i := 0) rfl).2.2) (fun hok13 => ?_)
      refine W.seqX 15 (by kernel_rfl) fun K12 hK12 => ?_
      refine WX.pure 0 #[true, false, false, false, false, false, false, false, false, false, false, false, false, false, false, false, false, false] rfl (by kernel_rfl) (fun _ _ => Y.move (.pl rfl)) rfl ?_
      refine WX.pure 1 #[true, true, false, false, false, false, false, false, false, false, false, false, false, false, false, false, false, false] rfl (by kernel_rfl) (fun _ _ => Y.move (.pl rfl)) rfl ?_
      refine WX.pure 2 #[true, true, true, false, false, false, false, false, false, false, false, false, false, false, false, false, false, false] rfl (by kernel_rfl) (fun _ _ => Y.move (.pl rfl)) rfl ?_
      refine WX.pure 3 #[true, true, true, true, false, false, false, false, false, false, false, false, false, false, false, false, false, false] rfl (by kernel_rfl) (fun _ _ => Y.move (.pl rfl)) rfl ?_
      obtain ⟨hk27, hF⟩ := ckh hF
      refine WX.pure 4 #[true, true, true, true, true, false, false, false, false, false, false, false, false, false, false, false, false, false] rfl (by kernel_rfl) (fun _ _ => Y.add (.pl rfl) (.pl rfl) (ok64_lt (hk27))) rfl ?_
      refine WX.pure 5 #[true, true, true, true, true, true, false, false, false, false, false, false, false, false, false, false, false, false] rfl (by kernel_rfl) (fun _ _ => Y.move (.pl rfl)) rfl ?_
      refine WX.pure 6 #[true, true, true, true, true, true, true, false, false, false, false, false, false, false, false, false, false, false] rfl (by kernel_rfl) (fun _ _ => Y.move (.pl rfl)) rfl ?_
      obtain ⟨hk28, hF⟩ := ckh hF
      refine WX.pure 7 #[true, true, true, true, true, true, true, true, false, false, false, false, false, false, false, false, false, false] rfl (by kernel_rfl) (fun _ _ => Y.add (.pl rfl) (.pl rfl) (ok64_lt (hk28))) rfl ?_
      obtain ⟨x29, hx29, hF⟩ := bnd hF
      refine WX.pure 8 #[true, true, true, true, true, true, true, true, true, false, false, false, false, false, false, false, false, false] rfl (by kernel_rfl) (fun _ _ => Y.okEl (xs := l6) Try.underlying43 cells49 hok13 (.pl rfl) rfl (.pl rfl) (ix_lt (hx29))) rfl ?_
      refine WX.take 9 #[true, true, true, true, true, true, true, true, true, true, false, false, false, false, false, false, false, false] (fun w hw => St.tail [] hw) rfl (by kernel_rfl) (Y.loadRA (enc := encEvent) (ds := (encEvent x29)) (a := x29) (idx := (k11 + 1)) (j := 0) Try.underlying49 rfl cells49 lenEvent (i := 0) rfl (.pl rfl) (ix_get (hx29)) rfl rfl subW) rfl ?_
      refine WX.pure 10 #[true, true, true, true, true, true, true, true, true, true, true, false, false, false, false, false, false, false] rfl (by kernel_rfl) (fun _ _ => Y.move (.pl rfl)) rfl ?_
      refine WX.pure 11 #[true, true, true, true, true, true, true, true, true, true, true, true, false, false, false, false, false, false] rfl (by kernel_rfl) (fun _ _ => Y.move (.pl rfl)) rfl ?_
      refine WX.pure 12 #[true, true, true, true, true, true, true, true, true, true, true, true, true, false, false, false, false, false] rfl (by kernel_rfl) (fun _ _ => Y.okEl (xs := l6) Try.underlying43 cells49 hok13 (.pl rfl) rfl (.pl rfl) (ix_lt (hx21))) rfl ?_
      refine WX.take 13 #[true, true, true, true, true, true, true, true, true, true, true, true, true, true, false, false, false, false] (fun w hw => St.tail [] hw) rfl (by kernel_rfl) (Y.loadRA (enc := encEvent) (ds := (encEvent x21)) (a := x21) (idx := k11) (j := 0) Try.underlying49 rfl cells49 lenEvent (i := 0) rfl (.pl rfl) (ix_get (hx21)) rfl rfl subW) rfl ?_
      refine WX.pure 14 #[true, true, true, true, true, true, true, true, true, true, true, true, true, true, true, false, false, false] rfl (by kernel_rfl) (fun _ _ => Y.okEl (xs := l6) Try.underlying43 cells49 hok13 (.pl rfl) rfl (.pl rfl) (ix_lt (hx21))) rfl ?_
      refine WX.stop #[true, true, true, true, true, true, true, true, true, true, true, true, true, true, true, true, false, false] (fun w hw => St.tail [] hw) rfl (by kernel_rfl) (WO.storeSA (enc := encEvent) (a' := x29) (idx := k11) cells49 (.pl rfl) (.pl rfl) lenEvent rfl (oneEvent _) (i := 0) rfl (ix_lt (hx21)) rfl ?_)
      obtain ⟨x30, hx30, hF⟩ := bnd hF
      refine WA.take 16 #[true, true, true, true, true, true, true, true, true, true, true, true, true, true, true, true, true, false] rfl (by kernel_rfl) (fun _ _ => Y.okEl (xs := (l6.set k11.toNat x29)) Try.underlying43 cells49 (by simpa only [List.length_set] using hok13) (.pl rfl) (by simp) (.pl rfl) (ix_lt (hx30))) rfl ?_
      refine WA.branch [17] (by kernel_rfl) ⟨?_, trivial⟩
      refine WI.step #[true, true, true, true, true, true, true, true, true, true, true, true, true, true, true, true, true, true] rfl rfl (WO.storeSA (enc := encEvent) (a' := x21) (idx := (k11 + 1)) cells49 (.pl rfl) (.pl rfl) lenEvent rfl (oneEvent _) (i := 0) rfl (ix_lt (hx30)) rfl ?_)
      refine WA.done (by kernel_rfl) ?_
      refine KK.next hK12 (.cons (i := 0) rfl (.cons (i := 10) rfl (.nil))) ?_
      -- region 8: search.go:75
      refine W.seqR fun Q14 hQ14 => ?_
      refine WL.q (Y.move (.pl rfl)) rfl ?_
      refine WL.q (Y.move (.pl rfl)) rfl ?_
      obtain ⟨r31, hr31, hF⟩ := bnd hF
      refine WL.step (WO.callM isGo34 (.cons (.pl rfl) (.cons (.pl rfl) (.nil))) rfl (fun w hw => search_Find_ok (hr31) w (hs4.mono hw) (SlIn.ofRow lenEvent hw (i := 0) rfl (by simp))) ?_)
      rintro ⟨A32, c33⟩ -
      refine WL.q (Y.move (.pl rfl)) rfl ?_
      refine WL.q (Y.extract (.pl rfl) rfl) rfl ?_
      refine WL.q (Y.extract (.pl rfl) rfl) rfl ?_
      refine WL.q (Y.extract (.pl rfl) rfl) rfl ?_
      refine WL.q (Y.assign (.pl rfl)) rfl ?_
      refine WL.q (Y.assign (.pl rfl)) rfl ?_
      refine WL.q (Y.assign (.pl rfl)) rfl ?_
      refine WL.next hQ14 (.cons (i := 12) rfl (.cons (i := 13) rfl (.nil))) ?_
      -- region 9: search.go:76
      refine W.seqR fun Q15 hQ15 => ?_
      refine WL.q (Y.move (.pl rfl)) rfl ?_
      refine WL.q (Y.eql (.pl rfl) (.pl rfl)) rfl ?_
      refine WL.q (Y.move (.pl rfl)) rfl ?_
      refine WL.g (.pl rfl rfl rfl) (fun hg => Y.move (.pl rfl)) rfl ?_
      refine WL.q (Y.and (.pl rfl) (fun h2 => .gd (eqt h2) rfl)) rfl ?_
      refine WL.q (Y.assign (.pl rfl)) rfl ?_
      refine WL.next hQ15 (.cons (i := 6) rfl (.nil)) ?_
      obtain rfl := Option.some.inj hF
      refine W.retV (fn := Try.f9) (vs := [.bool ((decide (r31.2.2 = 0)) && r31.2.1)]) Try.results9 ⟨.tmp rfl, trivial⟩ (fun _ _ h => h) (fun w hw => ?_)
      exact hR _ _ ⟨rfl, (hw.pick [] rfl)⟩

end Go.Proofs.Ytpakplmpihhmbaa
