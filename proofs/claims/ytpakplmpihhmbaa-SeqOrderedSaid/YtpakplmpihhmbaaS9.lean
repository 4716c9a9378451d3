/- SeqMoves: what its code computes, and the walk. -/
import Derived.Test.YtpakplmpihhmbaaS8
set_option linter.unusedVariables false
set_option linter.unusedSimpArgs false
set_option linter.unusedSectionVars false
set_option maxRecDepth 100000
namespace Go.Proofs.Ytpakplmpihhmbaa
open Go.RowKit
theorem isGo36 : IsGo Try.prog 36 := ⟨_, Try.func36, by kernel_rfl, rfl⟩
/-- slices.Clone -/
theorem slices_Clone_api_Event_api_Event_ok {xs : List Event} (hb : limB 32 xs.length = true) (w : World) {v : Value} (h : SlIn encEvent 4 w v xs) :
    Made Try.prog 36 [v] w (fun g : Option Addr × Nat => .slice g.1 xs.length g.2) (fun g => [cR encEvent 4 g.1 g.2 49 xs]) (fun _ => True) := by
  obtain ⟨A1, c1, rfl, hc1, hs⟩ := h.form
  refine W.enter (n := 8) Try.func36 rfl rfl Sub.refl (by simp) (St.start w) fun R hR => ?_
  refine W.seqR fun Q1 hQ1 => ?_
  refine WL.q (Y.assign (.pl rfl)) rfl ?_
  refine WL.next hQ1 (.cons (i := 0) rfl (.nil)) ?_
  refine W.seq fun K2 hK2 => ?_
  refine W.seqR fun Q3 hQ3 => ?_
  refine WL.q (Y.move (.pl rfl)) rfl ?_
  refine WL.q (Y.eqNil Try.underlying43 (.pl rfl)) rfl ?_
  refine WL.next hQ3 (.cons (i := 0) rfl (.cons (i := 4) rfl (.nil))) ?_
  refine W.cond (.pl rfl) (fun hC => ?_) (fun hC => ?_)
  · refine W.seqR fun Q4 hQ4 => ?_
    refine WL.q (Y.assign (.pl rfl)) rfl ?_
    refine WL.next hQ4 (.cons (i := 2) rfl (.nil)) ?_
    have hx : xs = [] := by
      cases xs with
      | nil => rfl
      | cons a r =>
        have := (hs.okA' (idx := 0) ⟨Int.le_refl _, by simp⟩).1
        rw [Option.isNone_iff_eq_none] at hC
        rw [hC] at this; cases this
    subst hx
    refine W.retV (fn := Try.f36) (vs := [.slice none 0 0]) Try.results36 ⟨.tmp rfl, trivial⟩ (fun _ _ h => h) (fun w hw => ?_)
    exact hR _ _ ⟨(none, 0), trivial, rfl, St.nilR hw encEvent 4 49⟩
  · refine W.skip ?_
    refine W.go hK2 (.cons (i := 0) rfl (.nil)) ?_
    obtain ⟨a1, rfl⟩ : ∃ a, A1 = some a := by cases A1 with
      | none => cases hC
      | some a => exact ⟨a, rfl⟩
    refine W.seqR fun Q5 hQ5 => ?_
    refine WL.step (WO.bsliceC (enc := encEvent) (ys := []) Try.underlying43 bz49 (.nil) rfl lenEvent rfl rfl (by decide) (by decide) rfl fun b => ?_)
    refine WL.q (Y.move (.pl rfl)) rfl ?_
    refine WL.step (WO.appendS (enc := encEvent) (ys := xs) (xs := []) Try.underlying43 ap49 lenEvent oneEvent (.pl rfl) rfl (.pl rfl) (i := 0) rfl (fun w hw => hs.mono hw) (by simpa using hb) rfl fun A c => ?_)
    refine WL.q (Y.assign (.pl rfl)) rfl ?_
    refine WL.next hQ5 (.cons (i := 2) rfl (.nil)) ?_
    refine W.retV (fn := Try.f36) (vs := [.slice A xs.length c]) Try.results36 ⟨.tmp rfl, trivial⟩ (fun _ _ h => h) (fun w hw => ?_)
    exact hR _ _ ⟨(A, c), trivial, rfl, hw⟩

def alibkeep_SeqMoves (N : Nat) (types1 : (List Int)) (l6 : (List Event)) (k11 : Int) : Option Bool :=
  bd (seq_Find N types1 l6) fun (r12 : ((List Step) × Bool × Int)) =>
  bd (alibkeep_seqLives N) fun (r15 : Bool) =>
  ck (!((((!r15) || (!(decide (r12.2.2 = 0)))) || (decide (k11 < 0))) == false) || (ok64 (((l6).length : Int) - 1))) <|
  bd ((cond (((((!r15) || (!(decide (r12.2.2 = 0)))) || (decide (k11 < 0))) || (decide ((((l6).length : Int) - 1) ≤ k11))) == false) (ix l6 k11) (some Event.z))) fun (x17 : Event) =>
  ck (!(((((!r15) || (!(decide (r12.2.2 = 0)))) || (decide (k11 < 0))) || (decide ((((l6).length : Int) - 1) ≤ k11))) == false) || (ok64 (k11 + 1))) <|
  bd ((cond (((((!r15) || (!(decide (r12.2.2 = 0)))) || (decide (k11 < 0))) || (decide ((((l6).length : Int) - 1) ≤ k11))) == false) (ix l6 (k11 + 1)) (some Event.z))) fun (x19 : Event) =>
  cond (((((!r15) || (!(decide (r12.2.2 = 0)))) || (decide (k11 < 0))) || (decide ((((l6).length : Int) - 1) ≤ k11))) || (decide (x17.who = x19.who)))
    (bd (alibkeep_seqLives N) fun (r20 : Bool) =>
    some r20)
    (ck (limB 32 (l6).length) <|
    ck (ok64 (k11 + 1)) <|
    ck (ok64 (k11 + 1)) <|
    bd (ix l6 (k11 + 1)) fun (x26 : Event) =>
    bd (ix l6 k11) fun (x27 : Event) =>
    bd (ix (l6.set k11.toNat x26) (k11 + 1)) fun (x28 : Event) =>
    bd (seq_Find N types1 ((l6.set k11.toNat x26).set (k11 + 1).toNat x27)) fun (r29 : ((List Step) × Bool × Int)) =>
    some ((decide (r29.2.2 = 0)) && (r29.2.1 == r12.2.1)))

theorem alibkeep_SeqMoves_ok {N : Nat} {types1 : (List Int)} {l6 : (List Event)} {k11 : Int} {res : Bool} (hF : alibkeep_SeqMoves N types1 l6 k11 = some res) (w : World) {v5 : Value} (hs4 : SlIn (eI .i64) 1 w v5 types1) {v10 : Value} (hs9 : SlIn encEvent 4 w v10 l6) :
    Pure Try.prog 13 [v5, v10, .int .i64 k11] w (.bool res) := by
  obtain ⟨A2, c3, rfl, hcc3, hs4⟩ := hs4.form
  obtain ⟨A7, c8, rfl, hcc8, hs9⟩ := hs9.form
  refine W.enter (n := 85) Try.func13 rfl rfl Sub.refl (by simp) (St.start w) fun R hR => ?_
  unfold alibkeep_SeqMoves at hF
  -- region 0: seq.go:69
  refine W.seqR fun Q1 hQ1 => ?_
  refine WL.q (Y.assign (.pl rfl)) rfl ?_
  refine WL.next hQ1 (.cons (i := 0) rfl (.cons (i := 1) rfl (.cons (i := 2) rfl (.nil)))) ?_
  -- region 1: seq.go:70
  refine W.seqR fun Q2 hQ2 => ?_
  refine WL.q (Y.move (.pl rfl)) rfl ?_
  refine WL.q (Y.move (.pl rfl)) rfl ?_
  obtain ⟨r12, hr12, hF⟩ := bnd hF
  refine WL.step (WO.callM isGo46 (.cons (.pl rfl) (.cons (.pl rfl) (.nil))) rfl (fun w hw => seq_Find_ok (hr12) w (hs4.mono hw) (hs9.mono hw)) ?_)
  rintro ⟨A13, c14⟩ -
  refine WL.q (Y.move (.pl rfl)) rfl ?_
  refine WL.q (Y.extract (.pl rfl) rfl) rfl ?_
  refine WL.q (Y.extract (.pl rfl) rfl) rfl ?_
  refine WL.q (Y.extract (.pl rfl) rfl) rfl ?_
  refine WL.q (Y.assign (.pl rfl)) rfl ?_
  refine WL.q (Y.assign (.pl rfl)) rfl ?_
  refine WL.q (Y.assign (.pl rfl)) rfl ?_
  refine WL.next hQ2 (.cons (i := 0) rfl (.cons (i := 1) rfl (.cons (i := 2) rfl (.cons (i := 8) rfl (.cons (i := 9) rfl (.nil)))))) ?_
  refine W.seq fun K3 hK3 => ?_
  -- region 2: seq.go:71
  refine W.seqD (by kernel_rfl) (by kernel_rfl) fun R4 hR4 => ?_
  obtain ⟨r15, hr15, hF⟩ := bnd hF
  refine WD.callP isGo47 (.nil) rfl (fun w hw => alibkeep_seqLives_ok (hr15) w ) ?_
  refine WD.q (Y.not (.pl rfl)) rfl ?_
  refine WD.q (Y.move (.pl rfl)) rfl ?_
  refine WD.g (.pl rfl rfl rfl) (fun hg => Y.move (.pl rfl)) rfl ?_
  refine WD.g (.pl rfl rfl rfl) (fun hg => Y.neq (.gd (hg) rfl) (.pl rfl)) rfl ?_
  refine WD.q (Y.or (.pl rfl) (fun h2 => .gd (eqf h2) rfl)) rfl ?_
  refine WD.q (Y.move (.pl rfl)) rfl ?_
  refine WD.g (.pl rfl rfl rfl) (fun hg => Y.move (.pl rfl)) rfl ?_
  refine WD.g (.pl rfl rfl rfl) (fun hg => Y.lss (.gd (hg) rfl) (.pl rfl)) rfl ?_
  refine WD.q (Y.or (.pl rfl) (fun h2 => .gd (eqf h2) rfl)) rfl ?_
  refine WD.q (Y.move (.pl rfl)) rfl ?_
  refine WD.g (.pl rfl rfl rfl) (fun hg => Y.move (.pl rfl)) rfl ?_
  refine WD.g (.pl rfl rfl rfl) (fun hg => Y.move (.pl rfl)) rfl ?_
  refine WD.g (.pl rfl rfl rfl) (fun hg => Y.len Try.underlying43 (.gd (hg) rfl)) rfl ?_
  obtain ⟨hk16, hF⟩ := ckh hF
  refine WD.g (.pl rfl rfl rfl) (fun hg => Y.sub (.gd (hg) rfl) (.pl rfl) (ok64_lt (gor hg hk16))) rfl ?_
  refine WD.g (.pl rfl rfl rfl) (fun hg => Y.geq (.gd (hg) rfl) (.gd (hg) rfl)) rfl ?_
  refine WD.q (Y.or (.pl rfl) (fun h2 => .gd (eqf h2) rfl)) rfl ?_
  refine WD.q (Y.move (.pl rfl)) rfl ?_
  refine WD.g (.pl rfl rfl rfl) (fun hg => Y.move (.pl rfl)) rfl ?_
  refine WD.g (.pl rfl rfl rfl) (fun hg => Y.move (.pl rfl)) rfl ?_
  obtain ⟨x17, hx17, hF⟩ := bnd hF
  refine WD.g (.pl rfl rfl rfl) (fun hg => Y.slEl Try.underlying43 cells49 hs9 (.gd (hg) rfl) (.gd (hg) rfl) (ix_lt (gpos hg hx17))) rfl ?_
  refine WD.g (.pl rfl rfl rfl) (fun hg => Y.slField (off := 0) (ft := 3) Try.underlying49 rfl cells3 (hs9) (ix_lt (gpos hg hx17)) (.gd (hg) rfl)) rfl ?_
  refine WD.g (.pl rfl rfl rfl) (fun hg => Y.loadS (enc := encEvent) (v := .int .i64 x17.who) (j := 0) Try.underlying3 rfl hs9 (.gd (hg) rfl) (gpos hg hx17) rfl rfl) rfl ?_
  refine WD.g (.pl rfl rfl rfl) (fun hg => Y.move (.pl rfl)) rfl ?_
  refine WD.g (.pl rfl rfl rfl) (fun hg => Y.move (.pl rfl)) rfl ?_
  obtain ⟨hk18, hF⟩ := ckh hF
  refine WD.g (.pl rfl rfl rfl) (fun hg => Y.add (.gd (hg) rfl) (.pl rfl) (ok64_lt (gor hg hk18))) rfl ?_
  obtain ⟨x19, hx19, hF⟩ := bnd hF
  refine WD.g (.pl rfl rfl rfl) (fun hg => Y.slEl Try.underlying43 cells49 hs9 (.gd (hg) rfl) (.gd (hg) rfl) (ix_lt (gpos hg hx19))) rfl ?_
  refine WD.g (.pl rfl rfl rfl) (fun hg => Y.slField (off := 0) (ft := 3) Try.underlying49 rfl cells3 (hs9) (ix_lt (gpos hg hx19)) (.gd (hg) rfl)) rfl ?_
  refine WD.g (.pl rfl rfl rfl) (fun hg => Y.loadS (enc := encEvent) (v := .int .i64 x19.who) (j := 0) Try.underlying3 rfl hs9 (.gd (hg) rfl) (gpos hg hx19) rfl rfl) rfl ?_
  refine WD.g (.pl rfl rfl rfl) (fun hg => Y.eql (.gd (hg) rfl) (.gd (hg) rfl)) rfl ?_
  refine WD.q (Y.or (.pl rfl) (fun h2 => .gd (eqf h2) rfl)) rfl ?_
  refine WD.next hR4 (.cons (i := 0) rfl (.cons (i := 1) rfl (.cons (i := 2) rfl (.cons (i := 8) rfl (.cons (i := 51) rfl (.nil)))))) ?_
  refine W.cond (.pl rfl) (fun hC5 => ?_) (fun hC5 => ?_)
  · replace hF := cpos hC5 hF
    -- region 3: seq.go:72
    refine W.seqR fun Q6 hQ6 => ?_
    obtain ⟨r20, hr20, hF⟩ := bnd hF
    refine WL.step (WO.callP isGo47 (.nil) rfl (fun w hw => alibkeep_seqLives_ok (hr20) w ) ?_)
    refine WL.q (Y.assign (.pl rfl)) rfl ?_
    refine WL.next hQ6 (.cons (i := 6) rfl (.nil)) ?_
    obtain rfl := Option.some.inj hF
    refine W.retV (fn := Try.f13) (vs := [.bool r20]) Try.results13 ⟨.tmp rfl, trivial⟩ (fun _ _ h => h) (fun w hw => ?_)
    exact hR _ _ ⟨rfl, (hw.pick [] rfl)⟩
  · replace hF := cneg hC5 hF
    refine W.skip ?_
    refine W.go hK3 (.cons (i := 0) rfl (.cons (i := 1) rfl (.cons (i := 2) rfl (.cons (i := 8) rfl (.nil))))) ?_
    -- region 4: seq.go:74
    refine W.seqR fun Q7 hQ7 => ?_
    refine WL.q (Y.move (.pl rfl)) rfl ?_
    obtain ⟨hk21, hF⟩ := ckh hF
    refine WL.step (WO.callM isGo36 (.cons (.pl rfl) (.nil)) rfl (fun w hw => slices_Clone_api_Event_api_Event_ok (hk21) w (hs9.mono hw)) ?_)
    rintro ⟨A22, c23⟩ -
    refine WL.q (Y.assign (.pl rfl)) rfl ?_
    refine WL.next hQ7 (.cons (i := 0) rfl (.cons (i := 2) rfl (.cons (i := 8) rfl (.cons (i := 10) rfl (.nil))))) ?_
    -- region 5: seq.go:75
    refine W.know (fun w hw => (hw.row_lim (i := 0) rfl).2.2) (fun hok9 => ?_)
    refine W.seqX 15 (by kernel_rfl) fun K8 hK8 => ?_
    refine WX.pure 0 #[true, false, false, false, false, false, false, false, false, false, false, false, false, false, false, false, false, false] rfl (by kernel_rfl) (fun _ _ => Y.move (.pl rfl)) rfl ?_
    refine WX.pure 1 #[true, true, false, false, false, false, false, false, false, false, false, false, false, false, false, false, false, false] rfl (by kernel_rfl) (fun _ _ => Y.move (.pl rfl)) rfl ?_
    refine WX.pure 2 #[true, true, true, false, false, false, false, false, false, false, false, false, false, false, false, false, false, false] rfl (by kernel_rfl) (fun _ _ => Y.move (.pl rfl)) rfl ?_
    refine WX.pure 3 #[true, true, true, true, false, false, false, false, false, false, false, false, false, false, false, false, false, false] rfl (by kernel_rfl) (fun _ _ => Y.move (.pl rfl)) rfl ?_
    obtain ⟨hk24, hF⟩ := ckh hF
    refine WX.pure 4 #[true, true, true, true, true, false, false, false, false, false, false, false, false, false, false, false, false, false] rfl (by kernel_rfl) (fun _ _ => Y.add (.pl rfl) (.pl rfl) (ok64_lt (hk24))) rfl ?_
    refine WX.pure 5 #[true, true, true, true, true, true, false, false, false, false, false, false, false, false, false, false, false, false] rfl (by kernel_rfl) (fun _ _ => Y.move (.pl rfl)) rfl ?_
    refine WX.pure 6 #[true, true, true, true, true, true, true, false, false, false, false, false, false, false, false, false, false, false] rfl (by kernel_rfl) (fun _ _ => Y.move (.pl rfl)) rfl ?_
    obtain ⟨hk25, hF⟩ := ckh hF
    refine WX.pure 7 #[true, true, true, true, true, true, true, true, false, false, false, false, false, false, false, false, false, false] rfl (by kernel_rfl) (fun _ _ => Y.add (.pl rfl) (.pl rfl) (ok64_lt (hk25))) rfl ?_
    obtain ⟨x26, hx26, hF⟩ := bnd hF
    refine WX.pure 8 #[true, true, true, true, true, true, true, true, true, false, false, false, false, false, false, false, false, false] rfl (by kernel_rfl) (fun _ _ => Y.okEl (xs := l6) Try.underlying43 cells49 hok9 (.pl rfl) rfl (.pl rfl) (ix_lt (hx26))) rfl ?_
    refine WX.take 9 #[true, true, true, true, true, true, true, true, true, true, false, false, false, false, false, false, false, false] (fun w hw => St.tail [] hw) rfl (by kernel_rfl) (Y.loadRA (enc := encEvent) (ds := (encEvent x26)) (a := x26) (idx := (k11 + 1)) (j := 0) Try.underlying49 rfl cells49 lenEvent (i := 0) rfl (.pl rfl) (ix_get (hx26)) rfl rfl subW) rfl ?_
    refine WX.pure 10 #[true, true, true, true, true, true, true, true, true, true, true, false, false, false, false, false, false, false] rfl (by kernel_rfl) (fun _ _ => Y.move (.pl rfl)) rfl ?_
    refine WX.pure 11 #[true, true, true, true, true, true, true, true, true, true, true, true, false, false, false, false, false, false] rfl (by kernel_rfl) (fun _ _ => Y.move (.pl rfl)) rfl ?_
    obtain ⟨x27, hx27, hF⟩ := bnd hF
    refine WX.pure 12 #[true, true, true, true, true, true, true, true, true, true, true, true, true, false, false, false, false, false] rfl (by kernel_rfl) (fun _ _ => Y.okEl (xs := l6) Try.underlying43 cells49 hok9 (.pl rfl) rfl (.pl rfl) (ix_lt (hx27))) rfl ?_
    refine WX.take 13 #[true, true, true, true, true, true, true, true, true, true, true, true, true, true, false, false, false, false] (fun w hw => St.tail [] hw) rfl (by kernel_rfl) (Y.loadRA (enc := encEvent) (ds := (encEvent x27)) (a := x27) (idx := k11) (j := 0) Try.underlying49 rfl cells49 lenEvent (i := 0) rfl (.pl rfl) (ix_get (hx27)) rfl rfl subW) rfl ?_
    refine WX.pure 14 #[true, true, true, true, true, true, true, true, true, true, true, true, true, true, true, false, false, false] rfl (by kernel_rfl) (fun _ _ => Y.okEl (xs := l6) Try.underlying43 cells49 hok9 (.pl rfl) rfl (.pl rfl) (ix_lt (hx27))) rfl ?_
    refine WX.stop #[true, true, true, true, true, true, true, true, true, true, true, true, true, true, true, true, false, false] (fun w hw => St.tail [] hw) rfl (by kernel_rfl) (WO.storeSA (enc := encEvent) (a' := x26) (idx := k11) cells49 (.pl rfl) (.pl rfl) lenEvent rfl (oneEvent _) (i := 0) rfl (ix_lt (hx27)) rfl ?_)
    obtain ⟨x28, hx28, hF⟩ := bnd hF
    refine WA.take 16 #[true, true, true, true, true, true, true, true, true, true, true, true, true, true, true, true, true, false] rfl (by kernel_rfl) (fun _ _ => Y.okEl (xs := (l6.set k11.toNat x26)) Try.underlying43 cells49 (by simpa only [List.length_set] using hok9) (.pl rfl) (by simp) (.pl rfl) (ix_lt (hx28))) rfl ?_
    refine WA.branch [17] (by kernel_rfl) ⟨?_, trivial⟩
    refine WI.step #[true, true, true, true, true, true, true, true, true, true, true, true, true, true, true, true, true, true] rfl rfl (WO.storeSA (enc := encEvent) (a' := x27) (idx := (k11 + 1)) cells49 (.pl rfl) (.pl rfl) lenEvent rfl (oneEvent _) (i := 0) rfl (ix_lt (hx28)) rfl ?_)
    refine WA.done (by kernel_rfl) ?_
    refine KK.next hK8 (.cons (i := 0) rfl (.cons (i := 8) rfl (.cons (i := 10) rfl (.nil)))) ?_
    -- region 6: seq.go:76
    refine W.seqR fun Q10 hQ10 => ?_
    refine WL.q (Y.move (.pl rfl)) rfl ?_
    refine WL.q (Y.move (.pl rfl)) rfl ?_
    obtain ⟨r29, hr29, hF⟩ := bnd hF
    refine WL.step (WO.callM isGo46 (.cons (.pl rfl) (.cons (.pl rfl) (.nil))) rfl (fun w hw => seq_Find_ok (hr29) w (hs4.mono hw) (SlIn.ofRow lenEvent hw (i := 0) rfl (by simp))) ?_)
    rintro ⟨A30, c31⟩ -
    refine WL.q (Y.move (.pl rfl)) rfl ?_
    refine WL.q (Y.extract (.pl rfl) rfl) rfl ?_
    refine WL.q (Y.extract (.pl rfl) rfl) rfl ?_
    refine WL.q (Y.extract (.pl rfl) rfl) rfl ?_
    refine WL.q (Y.assign (.pl rfl)) rfl ?_
    refine WL.q (Y.assign (.pl rfl)) rfl ?_
    refine WL.q (Y.assign (.pl rfl)) rfl ?_
    refine WL.next hQ10 (.cons (i := 8) rfl (.cons (i := 12) rfl (.cons (i := 13) rfl (.nil)))) ?_
    -- region 7: seq.go:77
    refine W.seqR fun Q11 hQ11 => ?_
    refine WL.q (Y.move (.pl rfl)) rfl ?_
    refine WL.q (Y.eql (.pl rfl) (.pl rfl)) rfl ?_
    refine WL.q (Y.move (.pl rfl)) rfl ?_
    refine WL.g (.pl rfl rfl rfl) (fun hg => Y.move (.pl rfl)) rfl ?_
    refine WL.g (.pl rfl rfl rfl) (fun hg => Y.move (.pl rfl)) rfl ?_
    refine WL.g (.pl rfl rfl rfl) (fun hg => Y.eqlB Try.underlying4 (.gd (hg) rfl) (.gd (hg) rfl)) rfl ?_
    refine WL.q (Y.and (.pl rfl) (fun h2 => .gd (eqt h2) rfl)) rfl ?_
    refine WL.q (Y.assign (.pl rfl)) rfl ?_
    refine WL.next hQ11 (.cons (i := 6) rfl (.nil)) ?_
    obtain rfl := Option.some.inj hF
    refine W.retV (fn := Try.f13) (vs := [.bool ((decide (r29.2.2 = 0)) && (r29.2.1 == r12.2.1))]) Try.results13 ⟨.tmp rfl, trivial⟩ (fun _ _ h => h) (fun w hw => ?_)
    exact hR _ _ ⟨rfl, (hw.pick [] rfl)⟩

end Go.Proofs.Ytpakplmpihhmbaa
