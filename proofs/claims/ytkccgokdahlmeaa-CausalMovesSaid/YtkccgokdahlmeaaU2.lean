/- CausalMoves: what its code computes, and the walks. -/
import Derived.Test.YtkccgokdahlmeaaU1
set_option linter.unusedVariables false
set_option linter.unusedSimpArgs false
set_option linter.unusedSectionVars false
set_option maxRecDepth 100000
namespace Go.Proofs.Ytkccgokdahlmeaa
open Go.RowKit
theorem isGo23 : IsGo Try.prog 23 := ⟨_, Try.func23, by kernel_rfl, rfl⟩
def alibkeep_CausalMoves (N : Nat) (types1 : (List Int)) (l6 : (List Event)) (k11 : Int) : Option Bool :=
  bd (causal_Check N types1 l6) fun (r12 : (Bool × Bool × Int)) =>
  bd (alibkeep_causalLives N) fun (r13 : Bool) =>
  ck (!((((!r13) || (!(decide (r12.2.2 = 0)))) || (decide (k11 < 0))) == false) || (ok64 (((l6).length : Int) - 1))) <|
  bd ((cond (((((!r13) || (!(decide (r12.2.2 = 0)))) || (decide (k11 < 0))) || (decide ((((l6).length : Int) - 1) ≤ k11))) == false) (ix l6 k11) (some Event.z))) fun (x15 : Event) =>
  ck (!(((((!r13) || (!(decide (r12.2.2 = 0)))) || (decide (k11 < 0))) || (decide ((((l6).length : Int) - 1) ≤ k11))) == false) || (ok64 (k11 + 1))) <|
  bd ((cond (((((!r13) || (!(decide (r12.2.2 = 0)))) || (decide (k11 < 0))) || (decide ((((l6).length : Int) - 1) ≤ k11))) == false) (ix l6 (k11 + 1)) (some Event.z))) fun (x17 : Event) =>
  cond (((((!r13) || (!(decide (r12.2.2 = 0)))) || (decide (k11 < 0))) || (decide ((((l6).length : Int) - 1) ≤ k11))) || (decide (x15.who = x17.who)))
    (bd (alibkeep_causalLives N) fun (r18 : Bool) =>
    some r18)
    (ck (limB 32 ((([] : List Event)).length + (l6).length)) <|
    ck (ok64 (k11 + 1)) <|
    ck (ok64 (k11 + 1)) <|
    bd (ix (([] : List Event) ++ l6) (k11 + 1)) fun (x25 : Event) =>
    bd (ix (([] : List Event) ++ l6) k11) fun (x26 : Event) =>
    bd (ix (([] : List Event) ++ l6) k11) fun (x27 : Event) =>
    bd (ix ((([] : List Event) ++ l6).set k11.toNat x25) (k11 + 1)) fun (x28 : Event) =>
    bd (causal_Check N types1 (((([] : List Event) ++ l6).set k11.toNat x25).set (k11 + 1).toNat x26)) fun (r29 : (Bool × Bool × Int)) =>
    some (((decide (r29.2.2 = 0)) && (r12.1 == r29.1)) && (r12.2.1 == r29.2.1)))

theorem alibkeep_CausalMoves_ok {N : Nat} {types1 : (List Int)} {l6 : (List Event)} {k11 : Int} {res : Bool} (hF : alibkeep_CausalMoves N types1 l6 k11 = some res) (w : World) {v5 : Value} (hs4 : SlIn (eI .i64) 1 w v5 types1) {v10 : Value} (hs9 : SlIn encEvent 4 w v10 l6) :
    Pure Try.prog 4 [v5, v10, .int .i64 k11] w (.bool res) := by
  obtain ⟨A2, c3, rfl, hcc3, hs4⟩ := hs4.form
  obtain ⟨A7, c8, rfl, hcc8, hs9⟩ := hs9.form
  refine W.enter (n := 91) Try.func4 rfl rfl Sub.refl (by simp) (St.start w) fun R hR => ?_
  unfold alibkeep_CausalMoves at hF
  -- region 0: causal.go:64
  refine W.seqR fun Q1 hQ1 => ?_
  refine WL.q (Y.assign (.pl rfl)) rfl ?_
  refine WL.next hQ1 (.cons (i := 0) rfl (.cons (i := 1) rfl (.cons (i := 2) rfl (.nil)))) ?_
  -- region 1: causal.go:65
  refine W.seqR fun Q2 hQ2 => ?_
  refine WL.q (Y.move (.pl rfl)) rfl ?_
  refine WL.q (Y.move (.pl rfl)) rfl ?_
  obtain ⟨r12, hr12, hF⟩ := bnd hF
  refine WL.step (WO.callP isGo22 (.cons (.pl rfl) (.cons (.pl rfl) (.nil))) rfl (fun w hw => causal_Check_ok (hr12) w (hs4.mono hw) (hs9.mono hw)) ?_)
  refine WL.q (Y.move (.pl rfl)) rfl ?_
  refine WL.q (Y.extract (.pl rfl) rfl) rfl ?_
  refine WL.q (Y.extract (.pl rfl) rfl) rfl ?_
  refine WL.q (Y.extract (.pl rfl) rfl) rfl ?_
  refine WL.q (Y.assign (.pl rfl)) rfl ?_
  refine WL.q (Y.assign (.pl rfl)) rfl ?_
  refine WL.q (Y.assign (.pl rfl)) rfl ?_
  refine WL.next hQ2 (.cons (i := 0) rfl (.cons (i := 1) rfl (.cons (i := 2) rfl (.cons (i := 7) rfl (.cons (i := 8) rfl (.cons (i := 9) rfl (.nil))))))) ?_
  refine W.seq fun K3 hK3 => ?_
  -- region 2: causal.go:66
  refine W.seqD (by kernel_rfl) (by kernel_rfl) fun R4 hR4 => ?_
  obtain ⟨r13, hr13, hF⟩ := bnd hF
  refine WD.callP isGo23 (.nil) rfl (fun w hw => alibkeep_causalLives_ok (hr13) w ) ?_
  refine WD.q (Y.not (.pl rfl)) rfl ?_
  refine WD.q (Y.move (.pl rfl)) rfl ?_
  refine WD.g (.pl rfl rfl rfl) (fun hg => Y.move (.pl rfl)) rfl ?_
  refine WD.g (.pl rfl rfl rfl) (fun hg => Y.neq (.gd (hg) rfl) (.pl rfl)) rfl ?_
  refine WD.q (Y.or (.pl rfl) (fun h2 => .gd (eqf h2) rfl)) rfl ?_
  refine WD.q (Y.move (.pl rfl)) rfl ?_
  refine WD.g (.pl rfl rfl rfl) (fun hg => Y.move (.pl rfl)) rfl ?_
  refine WD.g (.pl rfl rfl rfl) (fun hg => Y.lss (.gd (hg) rfl) (.pl rfl)) rfl ?_
  refine WD.q (Y.or (.pl rfl) (fun h2 => .gd (eqf h2) rfl)) rfl ?_
  refine WD.q (Y.move (.pl rfl)) rfl ?_
  refine WD.g (.pl rfl rfl rfl) (fun hg => Y.move (.pl rfl)) rfl ?_
  refine WD.g (.pl rfl rfl rfl) (fun hg => Y.move (.pl rfl)) rfl ?_
  refine WD.g (.pl rfl rfl rfl) (fun hg => Y.len Try.underlying42 (.gd (hg) rfl)) rfl ?_
  obtain ⟨hk14, hF⟩ := ckh hF
  refine WD.g (.pl rfl rfl rfl) (fun hg => Y.sub (.gd (hg) rfl) (.pl rfl) (ok64_lt (gor hg hk14))) rfl ?_
  refine WD.g (.pl rfl rfl rfl) (fun hg => Y.geq (.gd (hg) rfl) (.gd (hg) rfl)) rfl ?_
  refine WD.q (Y.or (.pl rfl) (fun h2 => .gd (eqf h2) rfl)) rfl ?_
  refine WD.q (Y.move (.pl rfl)) rfl ?_
  refine WD.g (.pl rfl rfl rfl) (fun hg => Y.move (.pl rfl)) rfl ?_
  refine WD.g (.pl rfl rfl rfl) (fun hg => Y.move (.pl rfl)) rfl ?_
  obtain ⟨x15, hx15, hF⟩ := bnd hF
  refine WD.g (.pl rfl rfl rfl) (fun hg => Y.slEl Try.underlying42 cells46 hs9 (.gd (hg) rfl) (.gd (hg) rfl) (ix_lt (gpos hg hx15))) rfl ?_
  refine WD.g (.pl rfl rfl rfl) (fun hg => Y.slField (off := 0) (ft := 3) Try.underlying46 rfl cells3 (hs9) (ix_lt (gpos hg hx15)) (.gd (hg) rfl)) rfl ?_
  refine WD.g (.pl rfl rfl rfl) (fun hg => Y.loadS (enc := encEvent) (v := .int .i64 x15.who) (j := 0) Try.underlying3 rfl hs9 (.gd (hg) rfl) (gpos hg hx15) rfl rfl) rfl ?_
  refine WD.g (.pl rfl rfl rfl) (fun hg => Y.move (.pl rfl)) rfl ?_
  refine WD.g (.pl rfl rfl rfl) (fun hg => Y.move (.pl rfl)) rfl ?_
  obtain ⟨hk16, hF⟩ := ckh hF
  refine WD.g (.pl rfl rfl rfl) (fun hg => Y.add (.gd (hg) rfl) (.pl rfl) (ok64_lt (gor hg hk16))) rfl ?_
  obtain ⟨x17, hx17, hF⟩ := bnd hF
  refine WD.g (.pl rfl rfl rfl) (fun hg => Y.slEl Try.underlying42 cells46 hs9 (.gd (hg) rfl) (.gd (hg) rfl) (ix_lt (gpos hg hx17))) rfl ?_
  refine WD.g (.pl rfl rfl rfl) (fun hg => Y.slField (off := 0) (ft := 3) Try.underlying46 rfl cells3 (hs9) (ix_lt (gpos hg hx17)) (.gd (hg) rfl)) rfl ?_
  refine WD.g (.pl rfl rfl rfl) (fun hg => Y.loadS (enc := encEvent) (v := .int .i64 x17.who) (j := 0) Try.underlying3 rfl hs9 (.gd (hg) rfl) (gpos hg hx17) rfl rfl) rfl ?_
  refine WD.g (.pl rfl rfl rfl) (fun hg => Y.eql (.gd (hg) rfl) (.gd (hg) rfl)) rfl ?_
  refine WD.q (Y.or (.pl rfl) (fun h2 => .gd (eqf h2) rfl)) rfl ?_
  refine WD.next hR4 (.cons (i := 0) rfl (.cons (i := 1) rfl (.cons (i := 2) rfl (.cons (i := 7) rfl (.cons (i := 8) rfl (.cons (i := 51) rfl (.nil))))))) ?_
  refine W.cond (.pl rfl) (fun hC5 => ?_) (fun hC5 => ?_)
  · replace hF := cpos hC5 hF
    -- region 3: causal.go:67
    refine W.seqR fun Q6 hQ6 => ?_
    obtain ⟨r18, hr18, hF⟩ := bnd hF
    refine WL.step (WO.callP isGo23 (.nil) rfl (fun w hw => alibkeep_causalLives_ok (hr18) w ) ?_)
    refine WL.q (Y.assign (.pl rfl)) rfl ?_
    refine WL.next hQ6 (.cons (i := 6) rfl (.nil)) ?_
    obtain rfl := Option.some.inj hF
    refine W.retV (fn := Try.f4) (vs := [.bool r18]) Try.results4 ⟨.tmp rfl, trivial⟩ (fun _ _ h => h) (fun w hw => ?_)
    exact hR _ _ ⟨rfl, (hw.pick [] rfl)⟩
  · replace hF := cneg hC5 hF
    refine W.skip ?_
    refine W.go hK3 (.cons (i := 0) rfl (.cons (i := 1) rfl (.cons (i := 2) rfl (.cons (i := 7) rfl (.cons (i := 8) rfl (.nil)))))) ?_
    -- region 4: causal.go:69
    refine W.seqR fun Q7 hQ7 => ?_
    refine WL.step (WO.bsliceC (enc := encEvent) (ys := ([] : List Event)) Try.underlying42 bz46 (.nil) rfl lenEvent rfl rfl (by decide) (by decide) rfl fun b19 => ?_)
    refine WL.q (Y.move (.pl rfl)) rfl ?_
    obtain ⟨hk22, hF⟩ := ckh hF
    refine WL.step (WO.appendSO (enc := encEvent) (ys := l6) (xs := ([] : List Event)) Try.underlying42 ap46 lenEvent oneEvent (.pl rfl) rfl (.pl rfl) (i := 0) rfl (fun w hw => (hs9.mono hw)) (hk22) rfl fun A20 c21 => ?_)
    refine WL.q (Y.assign (.pl rfl)) rfl ?_
    refine WL.next hQ7 (.cons (i := 0) rfl (.cons (i := 2) rfl (.cons (i := 7) rfl (.cons (i := 8) rfl (.cons (i := 10) rfl (.nil)))))) ?_
    -- region 5: causal.go:70
    refine W.know (fun w hw => (hw.row_lim (i := 0) rfl).2.2) (fun hok9 => ?_)
    refine W.seqX 15 (by kernel_rfl) fun K8 hK8 => ?_
    refine WX.pure 0 #[true, false, false, false, false, false, false, false, false, false, false, false, false, false, false, false, false, false] rfl (by kernel_rfl) (fun _ _ => Y.move (.pl rfl)) rfl ?_
    refine WX.pure 1 #[true, true, false, false, false, false, false, false, false, false, false, false, false, false, false, false, false, false] rfl (by kernel_rfl) (fun _ _ => Y.move (.pl rfl)) rfl ?_
    refine WX.pure 2 #[true, true, true, false, false, false, false, false, false, false, false, false, false, false, false, false, false, false] rfl (by kernel_rfl) (fun _ _ => Y.move (.pl rfl)) rfl ?_
    refine WX.pure 3 #[true, true, true, true, false, false, false, false, false, false, false, false, false, false, false, false, false, false] rfl (by kernel_rfl) (fun _ _ => Y.move (.pl rfl)) rfl ?_
    obtain ⟨hk23, hF⟩ := ckh hF
    refine WX.pure 4 #[true, true, true, true, true, false, false, false, false, false, false, false, false, false, false, false, false, false] rfl (by kernel_rfl) (fun _ _ => Y.add (.pl rfl) (.pl rfl) (ok64_lt (hk23))) rfl ?_
    refine WX.pure 5 #[true, true, true, true, true, true, false, false, false, false, false, false, false, false, false, false, false, false] rfl (by kernel_rfl) (fun _ _ => Y.move (.pl rfl)) rfl ?_
    refine WX.pure 6 #[true, true, true, true, true, true, true, false, false, false, false, false, false, false, false, false, false, false] rfl (by kernel_rfl) (fun _ _ => Y.move (.pl rfl)) rfl ?_
    obtain ⟨hk24, hF⟩ := ckh hF
    refine WX.pure 7 #[true, true, true, true, true, true, true, true, false, false, false, false, false, false, false, false, false, false] rfl (by kernel_rfl) (fun _ _ => Y.add (.pl rfl) (.pl rfl) (ok64_lt (hk24))) rfl ?_
    obtain ⟨x25, hx25, hF⟩ := bnd hF
    refine WX.pure 8 #[true, true, true, true, true, true, true, true, true, false, false, false, false, false, false, false, false, false] rfl (by kernel_rfl) (fun _ _ => Y.okEl (xs := (([] : List Event) ++ l6)) Try.underlying42 cells46 hok9 (.pl rfl) rfl (.pl rfl) (ix_lt (hx25))) rfl ?_
    refine WX.take 9 #[true, true, true, true, true, true, true, true, true, true, false, false, false, false, false, false, false, false] (fun w hw => St.tail [] hw) rfl (by kernel_rfl) (Y.loadRA (enc := encEvent) (ds := (encEvent x25)) (a := x25) (idx := (k11 + 1)) (j := 0) Try.underlying46 rfl cells46 lenEvent (i := 0) rfl (.pl rfl) (ix_get (hx25)) rfl rfl subW) rfl ?_
    refine WX.pure 10 #[true, true, true, true, true, true, true, true, true, true, true, false, false, false, false, false, false, false] rfl (by kernel_rfl) (fun _ _ => Y.move (.pl rfl)) rfl ?_
    refine WX.pure 11 #[true, true, true, true, true, true, true, true, true, true, true, true, false, false, false, false, false, false] rfl (by kernel_rfl) (fun _ _ => Y.move (.pl rfl)) rfl ?_
    obtain ⟨x26, hx26, hF⟩ := bnd hF
    refine WX.pure 12 #[true, true, true, true, true, true, true, true, true, true, true, true, true, false, false, false, false, false] rfl (by kernel_rfl) (fun _ _ => Y.okEl (xs := (([] : List Event) ++ l6)) Try.underlying42 cells46 hok9 (.pl rfl) rfl (.pl rfl) (ix_lt (hx26))) rfl ?_
    refine WX.take 13 #[true, true, true, true, true, true, true, true, true, true, true, true, true, true, false, false, false, false] (fun w hw => St.tail [] hw) rfl (by kernel_rfl) (Y.loadRA (enc := encEvent) (ds := (encEvent x26)) (a := x26) (idx := k11) (j := 0) Try.underlying46 rfl cells46 lenEvent (i := 0) rfl (.pl rfl) (ix_get (hx26)) rfl rfl subW) rfl ?_
    obtain ⟨x27, hx27, hF⟩ := bnd hF
    refine WX.pure 14 #[true, true, true, true, true, true, true, true, true, true, true, true, true, true, true, false, false, false] rfl (by kernel_rfl) (fun _ _ => Y.okEl (xs := (([] : List Event) ++ l6)) Try.underlying42 cells46 hok9 (.pl rfl) rfl (.pl rfl) (ix_lt (hx27))) rfl ?_
    refine WX.stop #[true, true, true, true, true, true, true, true, true, true, true, true, true, true, true, true, false, false] (fun w hw => St.tail [] hw) rfl (by kernel_rfl) (WO.storeSA (enc := encEvent) (a' := x25) (idx := k11) cells46 (.pl rfl) (.pl rfl) lenEvent rfl (oneEvent _) (i := 0) rfl (ix_lt (hx27)) rfl ?_)
    obtain ⟨x28, hx28, hF⟩ := bnd hF
    refine WA.take 16 #[true, true, true, true, true, true, true, true, true, true, true, true, true, true, true, true, true, false] rfl (by kernel_rfl) (fun _ _ => Y.okEl (xs := ((([] : List Event) ++ l6).set k11.toNat x25)) Try.underlying42 cells46 (by simpa only [List.length_set] using hok9) (.pl rfl) (by simp) (.pl rfl) (ix_lt (hx28))) rfl ?_
    refine WA.branch [17] (by kernel_rfl) ⟨?_, trivial⟩
    refine WI.step #[true, true, true, true, true, true, true, true, true, true, true, true, true, true, true, true, true, true] rfl rfl (WO.storeSA (enc := encEvent) (a' := x26) (idx := (k11 + 1)) cells46 (.pl rfl) (.pl rfl) lenEvent rfl (oneEvent _) (i := 0) rfl (ix_lt (hx28)) rfl ?_)
    refine WA.done (by kernel_rfl) ?_
    refine KK.next hK8 (.cons (i := 0) rfl (.cons (i := 7) rfl (.cons (i := 8) rfl (.cons (i := 10) rfl (.nil))))) ?_
    -- region 6: causal.go:71
    refine W.seqR fun Q10 hQ10 => ?_
    refine WL.q (Y.move (.pl rfl)) rfl ?_
    refine WL.q (Y.move (.pl rfl)) rfl ?_
    obtain ⟨r29, hr29, hF⟩ := bnd hF
    refine WL.step (WO.callP isGo22 (.cons (.pl rfl) (.cons (.pl rfl) (.nil))) rfl (fun w hw => causal_Check_ok (hr29) w (hs4.mono hw) (SlIn.ofRow lenEvent hw (i := 0) rfl (by simp))) ?_)
    refine WL.q (Y.move (.pl rfl)) rfl ?_
    refine WL.q (Y.extract (.pl rfl) rfl) rfl ?_
    refine WL.q (Y.extract (.pl rfl) rfl) rfl ?_
    refine WL.q (Y.extract (.pl rfl) rfl) rfl ?_
    refine WL.q (Y.assign (.pl rfl)) rfl ?_
    refine WL.q (Y.assign (.pl rfl)) rfl ?_
    refine WL.q (Y.assign (.pl rfl)) rfl ?_
    refine WL.next hQ10 (.cons (i := 7) rfl (.cons (i := 8) rfl (.cons (i := 11) rfl (.cons (i := 12) rfl (.cons (i := 13) rfl (.nil)))))) ?_
    -- region 7: causal.go:72
    refine W.seqR fun Q11 hQ11 => ?_
    refine WL.q (Y.move (.pl rfl)) rfl ?_
    refine WL.q (Y.eql (.pl rfl) (.pl rfl)) rfl ?_
    refine WL.q (Y.move (.pl rfl)) rfl ?_
    refine WL.g (.pl rfl rfl rfl) (fun hg => Y.move (.pl rfl)) rfl ?_
    refine WL.g (.pl rfl rfl rfl) (fun hg => Y.move (.pl rfl)) rfl ?_
    refine WL.g (.pl rfl rfl rfl) (fun hg => Y.eqlB Try.underlying4 (.gd (hg) rfl) (.gd (hg) rfl)) rfl ?_
    refine WL.q (Y.and (.pl rfl) (fun h2 => .gd (eqt h2) rfl)) rfl ?_
    refine WL.q (Y.move (.pl rfl)) rfl ?_
    refine WL.g (.pl rfl rfl rfl) (fun hg => Y.move (.pl rfl)) rfl ?_
    refine WL.g (.pl rfl rfl rfl) (fun hg => Y.move (.pl rfl)) rfl ?_
    refine WL.g (.pl rfl rfl rfl) (fun hg => Y.eqlB Try.underlying4 (.gd (hg) rfl) (.gd (hg) rfl)) rfl ?_
    refine WL.q (Y.and (.pl rfl) (fun h2 => .gd (eqt h2) rfl)) rfl ?_
    refine WL.q (Y.assign (.pl rfl)) rfl ?_
    refine WL.next hQ11 (.cons (i := 6) rfl (.nil)) ?_
    obtain rfl := Option.some.inj hF
    refine W.retV (fn := Try.f4) (vs := [.bool (((decide (r29.2.2 = 0)) && (r12.1 == r29.1)) && (r12.2.1 == r29.2.1))]) Try.results4 ⟨.tmp rfl, trivial⟩ (fun _ _ h => h) (fun w hw => ?_)
    exact hR _ _ ⟨rfl, (hw.pick [] rfl)⟩

end Go.Proofs.Ytkccgokdahlmeaa
