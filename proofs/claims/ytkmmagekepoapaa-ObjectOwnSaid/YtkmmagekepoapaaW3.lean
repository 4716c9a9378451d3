/- ObjectOwn: the walk. -/
import Derived.Test.YtkmmagekepoapaaW2
import Derived.Test.YtkmmagekepoapaaOwn
set_option linter.unusedVariables false
set_option linter.unusedSimpArgs false
set_option linter.unusedSectionVars false
set_option maxRecDepth 100000
namespace Go.Proofs.Ytkmmagekepoapaa
open Go.RowKit
theorem isGo6 : IsGo Try.prog 6 := ⟨_, Try.func6, by kernel_rfl, rfl⟩
theorem isGo24 : IsGo Try.prog 24 := ⟨_, Try.func24, by kernel_rfl, rfl⟩
theorem isGo25 : IsGo Try.prog 25 := ⟨_, Try.func25, by kernel_rfl, rfl⟩
theorem ap3F : ∃ i, Try.prog.info? 3 = some i ∧ i.zero = some (.int .i64 0) ∧ i.size = 1 ∧ i.bytes = 8 := ⟨_, rfl, by kernel_rfl, by kernel_rfl, by kernel_rfl⟩

theorem slices_Clone_okF {xs : List Int} (hb : limB 8 xs.length = true) (w : World) {v : Value} (h : SlIn (eI .i64) 1 w v xs) :
    Made Try.prog 12 [v] w (fun g : Option Addr × Nat × List Int => .slice g.1 xs.length g.2.1) (fun g => [cR (eI .i64) 1 g.1 g.2.1 3 (xs ++ g.2.2)]) (fun g => (xs ++ g.2.2).length = g.2.1) := by
  obtain ⟨A1, c1, rfl, hc1, hs⟩ := h.form
  refine W.enter (n := 8) Try.func12 rfl rfl Sub.refl (by simp) (St.start w) fun R hR => ?_
  refine W.seqR fun Q1 hQ1 => ?_
  refine WL.q (Y.assign (.pl rfl)) rfl ?_
  refine WL.next hQ1 (.cons (i := 0) rfl (.nil)) ?_
  refine W.seq fun K2 hK2 => ?_
  refine W.seqR fun Q3 hQ3 => ?_
  refine WL.q (Y.move (.pl rfl)) rfl ?_
  refine WL.q (Y.eqNil Try.underlying23 (.pl rfl)) rfl ?_
  refine WL.next hQ3 (.cons (i := 0) rfl (.cons (i := 4) rfl (.nil))) ?_
  refine W.cond (.pl rfl) (fun hC => ?_) (fun hC => ?_)
  · refine W.seqR fun Q4 hQ4 => ?_
    refine WL.q (Y.assign (.pl rfl)) rfl ?_
    refine WL.next hQ4 (.cons (i := 2) rfl (.nil)) ?_
    have hx : xs = [] := by
      cases xs with
      | nil => rfl
      | cons a r =>
        have := (hs.okA' (idx := 0) ⟨Int.le_refl _, by simp⟩).1
        rw [Option.isNone_iff_eq_none] at hC
        rw [hC] at this; cases this
    subst hx
    refine W.retV (fn := Try.f12) (vs := [.slice none 0 0]) Try.results12 ⟨.tmp rfl, trivial⟩ (fun _ _ h => h) (fun w hw => ?_)
    exact hR _ _ ⟨(none, 0, []), rfl, rfl, St.nilR hw (eI .i64) 1 3⟩
  · refine W.skip ?_
    refine W.go hK2 (.cons (i := 0) rfl (.nil)) ?_
    obtain ⟨a1, rfl⟩ : ∃ a, A1 = some a := by cases A1 with
      | none => cases hC
      | some a => exact ⟨a, rfl⟩
    refine W.seqR fun Q5 hQ5 => ?_
    refine WL.step (WO.bsliceC (enc := (eI .i64)) (ys := []) Try.underlying23 bz3 (.nil) rfl (fun _ => rfl) rfl rfl (by decide) (by decide) rfl fun b => ?_)
    refine WL.q (Y.move (.pl rfl)) rfl ?_
    refine WL.step (WO.appendF (xs := xs) Try.underlying23 ap3F (.pl rfl) (.pl rfl) (i := 0) rfl (fun w hw => hs.mono hw) hb rfl fun A c ys hys => ?_)
    refine WL.q (Y.assign (.pl rfl)) rfl ?_
    refine WL.next hQ5 (.cons (i := 2) rfl (.nil)) ?_
    refine W.retV (fn := Try.f12) (vs := [.slice A xs.length c]) Try.results12 ⟨.tmp rfl, trivial⟩ (fun _ _ h => h) (fun w hw => ?_)
    exact hR _ _ ⟨(A, c, ys), hys, rfl, hw⟩


theorem object_Step_okF {N : Nat} {typ1 : Int} {s2 : (List Int)} {kind7 : Int} {arg8 : Int} {res : ((List Int) × Int × Int)} (hF : object_Step N typ1 s2 kind7 arg8 = some res) (w : World) {v6 : Value} (hs5 : SlIn (eI .i64) 1 w v6 s2) :
    Made Try.prog 23 [.int .i64 typ1, v6, .int .i64 kind7, .int .i64 arg8] w (fun g : (Option Addr × Nat × List Int) => .tuple #[.slice g.1 (res.1).length g.2.1, .int .i64 res.2.1, .int .i64 res.2.2]) (fun g => [cR (eI .i64) 1 g.1 g.2.1 3 (res.1 ++ g.2.2)]) (fun g => (res.1 ++ g.2.2).length = g.2.1) := by
  obtain ⟨A3, c4, rfl, hcc4, hs5⟩ := hs5.form
  refine W.enter (n := 49) Try.func23 rfl rfl Sub.refl (by simp) (St.start w) fun R hR => ?_
  unfold object_Step at hF
  refine W.seqR fun Q1 hQ1 => ?_
  refine WL.q (Y.assign (.pl rfl)) rfl ?_
  refine WL.q (Y.assign (.pl rfl)) rfl ?_
  refine WL.q (Y.assign (.pl rfl)) rfl ?_
  refine WL.next hQ1 (.cons (i := 0) rfl (.cons (i := 1) rfl (.cons (i := 2) rfl (.cons (i := 3) rfl (.nil))))) ?_
  refine W.seq fun K2 hK2 => ?_
  refine W.seqR fun Q3 hQ3 => ?_
  refine WL.q (Y.move (.pl rfl)) rfl ?_
  refine WL.q (Y.move (.pl rfl)) rfl ?_
  obtain ⟨r9, hr9, hF⟩ := bnd hF
  refine WL.step (WO.callP isGo43 (.cons (.pl rfl) (.cons (.pl rfl) (.nil))) rfl (fun wz hw => object_Check_ok (hr9) wz (hs5.mono hw)) ?_)
  refine WL.q (Y.assign (.pl rfl)) rfl ?_
  refine WL.next hQ3 (.cons (i := 0) rfl (.cons (i := 1) rfl (.cons (i := 2) rfl (.cons (i := 3) rfl (.cons (i := 11) rfl (.nil)))))) ?_
  refine W.seqR fun Q4 hQ4 => ?_
  refine WL.q (Y.move (.pl rfl)) rfl ?_
  refine WL.q (Y.neq (.pl rfl) (.pl rfl)) rfl ?_
  refine WL.next hQ4 (.cons (i := 0) rfl (.cons (i := 1) rfl (.cons (i := 2) rfl (.cons (i := 3) rfl (.cons (i := 11) rfl (.cons (i := 19) rfl (.nil))))))) ?_
  refine W.cond (.pl rfl) (fun hC5 => ?_) (fun hC5 => ?_)
  · replace hF := cpos hC5 hF
    refine W.seqR fun Q6 hQ6 => ?_
    refine WL.q (Y.move (.pl rfl)) rfl ?_
    refine WL.q (Y.assign (.pl rfl)) rfl ?_
    refine WL.q (Y.assign (.pl rfl)) rfl ?_
    refine WL.q (Y.assign (.pl rfl)) rfl ?_
    refine WL.next hQ6 (.cons (i := 8) rfl (.cons (i := 9) rfl (.cons (i := 10) rfl (.nil)))) ?_
    obtain rfl := Option.some.inj hF
    refine W.retV (fn := Try.f23) (vs := [.slice none 0 0, .int .i64 0, .int .i64 r9]) Try.results23 ⟨.tmp rfl, ⟨.tmp rfl, ⟨.tmp rfl, trivial⟩⟩⟩ (fun _ _ h => h) (fun wz hw => ?_)
    exact hR _ _ ⟨(none, 0, []), rfl, rfl, ((St.nilR (hw.pick [] rfl) (eI .i64) 1 3).pick [0] rfl)⟩
  · replace hF := cneg hC5 hF
    refine W.skip ?_
    refine W.go hK2 (.cons (i := 0) rfl (.cons (i := 1) rfl (.cons (i := 2) rfl (.cons (i := 3) rfl (.nil))))) ?_
    refine W.seq fun K7 hK7 => ?_
    refine W.seqR fun Q8 hQ8 => ?_
    refine WL.q (Y.move (.pl rfl)) rfl ?_
    refine WL.q (Y.move (.pl rfl)) rfl ?_
    obtain ⟨r10, hr10, hF⟩ := bnd hF
    refine WL.step (WO.callP isGo44 (.cons (.pl rfl) (.cons (.pl rfl) (.nil))) rfl (fun wz hw => history_Fits_ok (hr10) wz ) ?_)
    refine WL.q (Y.not (.pl rfl)) rfl ?_
    refine WL.q (Y.move (.pl rfl)) rfl ?_
    refine WL.g (.pl rfl rfl rfl) (fun hg => Y.move (.pl rfl)) rfl ?_
    refine WL.g (.pl rfl rfl rfl) (fun hg => Y.move (.pl rfl)) rfl ?_
    obtain ⟨r11, hr11, hF⟩ := bnd hF
    refine WL.gP (.pl rfl rfl rfl) isGo45 (fun hg => (.cons (.gd (hg) rfl) (.cons (.gd (hg) rfl) (.nil)))) rfl (fun hg wz hw => history_Argument_ok (gpos hg hr11) wz ) ?_
    refine WL.g (.pl rfl rfl rfl) (fun hg => Y.not (.gd (hg) rfl)) rfl ?_
    refine WL.q (Y.or (.pl rfl) (fun h2 => .gd (eqf h2) rfl)) rfl ?_
    refine WL.next hQ8 (.cons (i := 0) rfl (.cons (i := 1) rfl (.cons (i := 2) rfl (.cons (i := 3) rfl (.cons (i := 30) rfl (.nil)))))) ?_
    refine W.cond (.pl rfl) (fun hC9 => ?_) (fun hC9 => ?_)
    · replace hF := cpos hC9 hF
      refine W.seqR fun Q10 hQ10 => ?_
      refine WL.q (Y.assign (.pl rfl)) rfl ?_
      refine WL.q (Y.assign (.pl rfl)) rfl ?_
      refine WL.q (Y.assign (.pl rfl)) rfl ?_
      refine WL.next hQ10 (.cons (i := 8) rfl (.cons (i := 9) rfl (.cons (i := 10) rfl (.nil)))) ?_
      obtain rfl := Option.some.inj hF
      refine W.retV (fn := Try.f23) (vs := [.slice none 0 0, .int .i64 0, .int .i64 3]) Try.results23 ⟨.tmp rfl, ⟨.tmp rfl, ⟨.tmp rfl, trivial⟩⟩⟩ (fun _ _ h => h) (fun wz hw => ?_)
      exact hR _ _ ⟨(none, 0, []), rfl, rfl, ((St.nilR (hw.pick [] rfl) (eI .i64) 1 3).pick [0] rfl)⟩
    · replace hF := cneg hC9 hF
      refine W.skip ?_
      refine W.go hK7 (.cons (i := 0) rfl (.cons (i := 1) rfl (.cons (i := 2) rfl (.cons (i := 3) rfl (.nil))))) ?_
      obtain ⟨o11, hF11, hF⟩ := bnd hF
      refine W.join6 (Em := fun (next15 : (List Int)) (res16 : Int) (e17 : Int) (o12 : Option Nat) (A13 : Option Addr) (c14 : Nat) => [(12, .slice A13 (next15).length c14), (13, .int .i64 res16), (14, .int .i64 e17)]) (M := fun next15 res16 e17 o12 A13 c14 => [cV o12 (eI .i64) 1 A13 c14 next15]) (I := fun next15 res16 e17 o12 A13 c14 => (next15, res16, e17) = o11) (.nil) (fun K12 hK12 => ?_) ?_
      · -- up to
        refine W.regX 16 (by kernel_rfl) ?_
        refine WX.pure 0 #[true, false, false, false, false, false, false, false, false, false, false, false, false, false, false, false, false] rfl (by kernel_rfl) (fun _ _ => Y.move (.pl rfl)) rfl ?_
        refine WX.pure 2 #[true, false, true, false, false, false, false, false, false, false, false, false, false, false, false, false, false] rfl (by kernel_rfl) (fun _ _ => Y.move (.pl rfl)) rfl ?_
        refine WX.pure 4 #[true, false, true, false, true, false, false, false, false, false, false, false, false, false, false, false, false] rfl (by kernel_rfl) (fun _ _ => Y.move (.pl rfl)) rfl ?_
        refine WX.pure 5 #[true, false, true, false, true, true, false, false, false, false, false, false, false, false, false, false, false] rfl (by kernel_rfl) (fun _ _ => Y.move (.pl rfl)) rfl ?_
        obtain ⟨r18, hr18, hF11⟩ := bnd hF11
        refine WX.one 1 #[true, true, true, false, true, true, false, false, false, false, false, false, false, false, false, false, false] (fun wz hw => St.tail [] hw) rfl (by kernel_rfl) (WO.callP isGo46 (.cons (.pl rfl) (.nil)) rfl (fun wz hw => object_of_ok (hr18) wz ) ?_)
        refine bsplit (decide (r18 = 142)) (fun hT14 => ?_) (fun hT14 => ?_)
        · replace hF11 := cpos hT14 hF11
          refine WX.pure 6 #[true, true, true, false, true, true, true, false, false, false, false, false, false, false, false, false, false] rfl (by kernel_rfl) (fun _ _ => Y.fn (f := .method "alibi/object.step") (.cons (Evs.ifE (k := 142) (of_decide_eq_true hT14) rfl (.pl rfl)) (.nil))) rfl ?_
          refine WX.pure 7 #[true, true, true, false, true, true, true, true, false, false, false, false, false, false, false, false, false] rfl (by kernel_rfl) (fun _ _ => Y.nilM nah142_step (.pl rfl)) rfl ?_
          refine WX.pure 8 #[true, true, true, false, true, true, true, true, true, false, false, false, false, false, false, false, false] rfl (by kernel_rfl) (fun _ _ => Y.move (.pl rfl)) rfl ?_
          obtain ⟨hk19, hF11⟩ := ckh hF11
          refine WX.one 3 #[true, true, true, true, true, true, true, true, true, false, false, false, false, false, false, false, false] (fun wz hw => St.tail [] hw) rfl (by kernel_rfl) (WO.callM isGo12 (.cons (.pl rfl) (.nil)) rfl (fun wz hw => slices_Clone_int_int_ok (hk19) wz (hs5.mono hw)) ?_)
          rintro ⟨A20, c21⟩ -
          obtain ⟨r22, hr22, hF11⟩ := bnd hF11
          refine WX.one 9 #[true, true, true, true, true, true, true, true, true, true, false, false, false, false, false, false, false] (fun wz hw => St.tail [_] hw) rfl (by kernel_rfl) (WO.callI (γ := (Option Addr × Nat)) (u := .agg #[]) (v := .agg #[]) (fun g => .tuple #[.slice g.1 (r22.1).length g.2, .int .i64 r22.2, .int .i64 0]) (fun g => [cR (eI .i64) 1 g.1 g.2 3 r22.1]) (fun g => True) meth142_step isGo144 (Evs.ifE (k := 142) (of_decide_eq_true hT14) rfl (.pl rfl)) (.cons (.pl rfl) (.cons (.pl rfl) (.cons (.pl rfl) (.nil)))) rfl (fun wz hw => object_register_step_ok (T := []) (hr22) (hw.pick [0] rfl) ) ?_)
          rintro ⟨A23, c24⟩ -
          refine WX.pure 10 #[true, true, true, true, true, true, true, true, true, true, true, false, false, false, false, false, false] rfl (by kernel_rfl) (fun _ _ => Y.move (.pl rfl)) rfl ?_
          refine WX.pure 11 #[true, true, true, true, true, true, true, true, true, true, true, true, false, false, false, false, false] rfl (by kernel_rfl) (fun _ _ => Y.extract (.pl rfl) rfl) rfl ?_
          refine WX.pure 12 #[true, true, true, true, true, true, true, true, true, true, true, true, true, false, false, false, false] rfl (by kernel_rfl) (fun _ _ => Y.extract (.pl rfl) rfl) rfl ?_
          refine WX.pure 13 #[true, true, true, true, true, true, true, true, true, true, true, true, true, true, false, false, false] rfl (by kernel_rfl) (fun _ _ => Y.extract (.pl rfl) rfl) rfl ?_
          refine WX.pure 14 #[true, true, true, true, true, true, true, true, true, true, true, true, true, true, true, false, false] rfl (by kernel_rfl) (fun _ _ => Y.assign (.pl rfl)) rfl ?_
          refine WX.pure 15 #[true, true, true, true, true, true, true, true, true, true, true, true, true, true, true, true, false] rfl (by kernel_rfl) (fun _ _ => Y.assign (.pl rfl)) rfl ?_
          refine WX.stop #[true, true, true, true, true, true, true, true, true, true, true, true, true, true, true, true, true] (fun wz hw => St.tail [_] hw) rfl (by kernel_rfl) (WO.q (Y.assign (.pl rfl)) rfl ?_)
          refine WA.done (by kernel_rfl) ?_
          exact W.joinAt6 hK12 r22.1 r22.2 0 (blkA A23) A23 c24 (Option.some.inj hF11) (.cons rfl (.cons rfl (.cons rfl (.nil)))) (.nil) (fun wz hw => (St.toV (enc := (eI .i64)) (sz := 1) (A' := A23) (cap' := c24) (ys := r22.1) (fun _ => rfl) hw (i := 0) rfl (fun wz h => h)).pick [0] rfl)
        · replace hF11 := cneg hT14 hF11
          refine bsplit (decide (r18 = 145)) (fun hT15 => ?_) (fun hT15 => ?_)
          · replace hF11 := cpos hT15 hF11
            refine WX.pure 6 #[true, true, true, false, true, true, true, false, false, false, false, false, false, false, false, false, false] rfl (by kernel_rfl) (fun _ _ => Y.fn (f := .method "alibi/object.step") (.cons (Evs.ifE (k := 145) (of_decide_eq_true hT15) rfl (.pl rfl)) (.nil))) rfl ?_
            refine WX.pure 7 #[true, true, true, false, true, true, true, true, false, false, false, false, false, false, false, false, false] rfl (by kernel_rfl) (fun _ _ => Y.nilM nah145_step (.pl rfl)) rfl ?_
            refine WX.pure 8 #[true, true, true, false, true, true, true, true, true, false, false, false, false, false, false, false, false] rfl (by kernel_rfl) (fun _ _ => Y.move (.pl rfl)) rfl ?_
            obtain ⟨hk25, hF11⟩ := ckh hF11
            refine WX.one 3 #[true, true, true, true, true, true, true, true, true, false, false, false, false, false, false, false, false] (fun wz hw => St.tail [] hw) rfl (by kernel_rfl) (WO.callM isGo12 (.cons (.pl rfl) (.nil)) rfl (fun wz hw => slices_Clone_int_int_ok (hk25) wz (hs5.mono hw)) ?_)
            rintro ⟨A26, c27⟩ -
            obtain ⟨r28, hr28, hF11⟩ := bnd hF11
            refine WX.one 9 #[true, true, true, true, true, true, true, true, true, true, false, false, false, false, false, false, false] (fun wz hw => St.tail [_] hw) rfl (by kernel_rfl) (WO.callI (γ := (Option Nat × Option Addr × Nat)) (u := .agg #[]) (v := .agg #[]) (fun g => .tuple #[.slice g.2.1 (r28.1).length g.2.2, .int .i64 r28.2.1, .int .i64 r28.2.2]) (fun g => [cV g.1 (eI .i64) 1 g.2.1 g.2.2 r28.1]) (fun g => True) meth145_step isGo148 (Evs.ifE (k := 145) (of_decide_eq_true hT15) rfl (.pl rfl)) (.cons (.pl rfl) (.cons (.pl rfl) (.cons (.pl rfl) (.nil)))) rfl (fun wz hw => object_queue_step_ok (T := []) (hr28) (hw.pick [0] rfl) ) ?_)
            rintro ⟨o29, A30, c31⟩ -
            refine WX.pure 10 #[true, true, true, true, true, true, true, true, true, true, true, false, false, false, false, false, false] rfl (by kernel_rfl) (fun _ _ => Y.move (.pl rfl)) rfl ?_
            refine WX.pure 11 #[true, true, true, true, true, true, true, true, true, true, true, true, false, false, false, false, false] rfl (by kernel_rfl) (fun _ _ => Y.extract (.pl rfl) rfl) rfl ?_
            refine WX.pure 12 #[true, true, true, true, true, true, true, true, true, true, true, true, true, false, false, false, false] rfl (by kernel_rfl) (fun _ _ => Y.extract (.pl rfl) rfl) rfl ?_
            refine WX.pure 13 #[true, true, true, true, true, true, true, true, true, true, true, true, true, true, false, false, false] rfl (by kernel_rfl) (fun _ _ => Y.extract (.pl rfl) rfl) rfl ?_
            refine WX.pure 14 #[true, true, true, true, true, true, true, true, true, true, true, true, true, true, true, false, false] rfl (by kernel_rfl) (fun _ _ => Y.assign (.pl rfl)) rfl ?_
            refine WX.pure 15 #[true, true, true, true, true, true, true, true, true, true, true, true, true, true, true, true, false] rfl (by kernel_rfl) (fun _ _ => Y.assign (.pl rfl)) rfl ?_
            refine WX.stop #[true, true, true, true, true, true, true, true, true, true, true, true, true, true, true, true, true] (fun wz hw => St.tail [_] hw) rfl (by kernel_rfl) (WO.q (Y.assign (.pl rfl)) rfl ?_)
            refine WA.done (by kernel_rfl) ?_
            exact W.joinAt6 hK12 r28.1 r28.2.1 r28.2.2 o29 A30 c31 (Option.some.inj hF11) (.cons rfl (.cons rfl (.cons rfl (.nil)))) (.nil) (fun wz hw => hw.pick [0] rfl)
          · replace hF11 := cneg hT15 hF11
            refine bsplit (decide (r18 = 146)) (fun hT16 => ?_) (fun hT16 => ?_)
            · replace hF11 := cpos hT16 hF11
              refine WX.pure 6 #[true, true, true, false, true, true, true, false, false, false, false, false, false, false, false, false, false] rfl (by kernel_rfl) (fun _ _ => Y.fn (f := .method "alibi/object.step") (.cons (Evs.ifE (k := 146) (of_decide_eq_true hT16) rfl (.pl rfl)) (.nil))) rfl ?_
              refine WX.pure 7 #[true, true, true, false, true, true, true, true, false, false, false, false, false, false, false, false, false] rfl (by kernel_rfl) (fun _ _ => Y.nilM nah146_step (.pl rfl)) rfl ?_
              refine WX.pure 8 #[true, true, true, false, true, true, true, true, true, false, false, false, false, false, false, false, false] rfl (by kernel_rfl) (fun _ _ => Y.move (.pl rfl)) rfl ?_
              obtain ⟨hk32, hF11⟩ := ckh hF11
              refine WX.one 3 #[true, true, true, true, true, true, true, true, true, false, false, false, false, false, false, false, false] (fun wz hw => St.tail [] hw) rfl (by kernel_rfl) (WO.callM isGo12 (.cons (.pl rfl) (.nil)) rfl (fun wz hw => slices_Clone_int_int_ok (hk32) wz (hs5.mono hw)) ?_)
              rintro ⟨A33, c34⟩ -
              obtain ⟨r35, hr35, hF11⟩ := bnd hF11
              refine WX.one 9 #[true, true, true, true, true, true, true, true, true, true, false, false, false, false, false, false, false] (fun wz hw => St.tail [_] hw) rfl (by kernel_rfl) (WO.callI (γ := (Option Addr × Nat)) (u := .agg #[]) (v := .agg #[]) (fun g => .tuple #[.slice g.1 (r35.1).length g.2, .int .i64 r35.2.1, .int .i64 r35.2.2]) (fun g => [cR (eI .i64) 1 g.1 g.2 3 r35.1]) (fun g => True) meth146_step isGo150 (Evs.ifE (k := 146) (of_decide_eq_true hT16) rfl (.pl rfl)) (.cons (.pl rfl) (.cons (.pl rfl) (.cons (.pl rfl) (.nil)))) rfl (fun wz hw => object_stack_step_ok (T := []) (hr35) (hw.pick [0] rfl) ) ?_)
              rintro ⟨A36, c37⟩ -
              refine WX.pure 10 #[true, true, true, true, true, true, true, true, true, true, true, false, false, false, false, false, false] rfl (by kernel_rfl) (fun _ _ => Y.move (.pl rfl)) rfl ?_
              refine WX.pure 11 #[true, true, true, true, true, true, true, true, true, true, true, true, false, false, false, false, false] rfl (by kernel_rfl) (fun _ _ => Y.extract (.pl rfl) rfl) rfl ?_
              refine WX.pure 12 #[true, true, true, true, true, true, true, true, true, true, true, true, true, false, false, false, false] rfl (by kernel_rfl) (fun _ _ => Y.extract (.pl rfl) rfl) rfl ?_
              refine WX.pure 13 #[true, true, true, true, true, true, true, true, true, true, true, true, true, true, false, false, false] rfl (by kernel_rfl) (fun _ _ => Y.extract (.pl rfl) rfl) rfl ?_
              refine WX.pure 14 #[true, true, true, true, true, true, true, true, true, true, true, true, true, true, true, false, false] rfl (by kernel_rfl) (fun _ _ => Y.assign (.pl rfl)) rfl ?_
              refine WX.pure 15 #[true, true, true, true, true, true, true, true, true, true, true, true, true, true, true, true, false] rfl (by kernel_rfl) (fun _ _ => Y.assign (.pl rfl)) rfl ?_
              refine WX.stop #[true, true, true, true, true, true, true, true, true, true, true, true, true, true, true, true, true] (fun wz hw => St.tail [_] hw) rfl (by kernel_rfl) (WO.q (Y.assign (.pl rfl)) rfl ?_)
              refine WA.done (by kernel_rfl) ?_
              exact W.joinAt6 hK12 r35.1 r35.2.1 r35.2.2 (blkA A36) A36 c37 (Option.some.inj hF11) (.cons rfl (.cons rfl (.cons rfl (.nil)))) (.nil) (fun wz hw => (St.toV (enc := (eI .i64)) (sz := 1) (A' := A36) (cap' := c37) (ys := r35.1) (fun _ => rfl) hw (i := 0) rfl (fun wz h => h)).pick [0] rfl)
            · replace hF11 := cneg hT16 hF11
              refine bsplit (decide (r18 = 147)) (fun hT17 => ?_) (fun hT17 => ?_)
              · replace hF11 := cpos hT17 hF11
                refine WX.pure 6 #[true, true, true, false, true, true, true, false, false, false, false, false, false, false, false, false, false] rfl (by kernel_rfl) (fun _ _ => Y.fn (f := .method "alibi/object.step") (.cons (Evs.ifE (k := 147) (of_decide_eq_true hT17) rfl (.pl rfl)) (.nil))) rfl ?_
                refine WX.pure 7 #[true, true, true, false, true, true, true, true, false, false, false, false, false, false, false, false, false] rfl (by kernel_rfl) (fun _ _ => Y.nilM nah147_step (.pl rfl)) rfl ?_
                refine WX.pure 8 #[true, true, true, false, true, true, true, true, true, false, false, false, false, false, false, false, false] rfl (by kernel_rfl) (fun _ _ => Y.move (.pl rfl)) rfl ?_
                obtain ⟨hk38, hF11⟩ := ckh hF11
                refine WX.one 3 #[true, true, true, true, true, true, true, true, true, false, false, false, false, false, false, false, false] (fun wz hw => St.tail [] hw) rfl (by kernel_rfl) (WO.callM isGo12 (.cons (.pl rfl) (.nil)) rfl (fun wz hw => slices_Clone_int_int_ok (hk38) wz (hs5.mono hw)) ?_)
                rintro ⟨A39, c40⟩ -
                obtain ⟨r41, hr41, hF11⟩ := bnd hF11
                refine WX.one 9 #[true, true, true, true, true, true, true, true, true, true, false, false, false, false, false, false, false] (fun wz hw => St.tail [_] hw) rfl (by kernel_rfl) (WO.callI (γ := (Option Addr × Nat)) (u := .agg #[]) (v := .agg #[]) (fun g => .tuple #[.slice g.1 (r41.1).length g.2, .int .i64 r41.2.1, .int .i64 r41.2.2]) (fun g => [cR (eI .i64) 1 g.1 g.2 3 r41.1]) (fun g => True) meth147_step isGo151 (Evs.ifE (k := 147) (of_decide_eq_true hT17) rfl (.pl rfl)) (.cons (.pl rfl) (.cons (.pl rfl) (.cons (.pl rfl) (.nil)))) rfl (fun wz hw => object_set_step_ok (T := []) (hr41) (hw.pick [0] rfl) ) ?_)
                rintro ⟨A42, c43⟩ -
                refine WX.pure 10 #[true, true, true, true, true, true, true, true, true, true, true, false, false, false, false, false, false] rfl (by kernel_rfl) (fun _ _ => Y.move (.pl rfl)) rfl ?_
                refine WX.pure 11 #[true, true, true, true, true, true, true, true, true, true, true, true, false, false, false, false, false] rfl (by kernel_rfl) (fun _ _ => Y.extract (.pl rfl) rfl) rfl ?_
                refine WX.pure 12 #[true, true, true, true, true, true, true, true, true, true, true, true, true, false, false, false, false] rfl (by kernel_rfl) (fun _ _ => Y.extract (.pl rfl) rfl) rfl ?_
                refine WX.pure 13 #[true, true, true, true, true, true, true, true, true, true, true, true, true, true, false, false, false] rfl (by kernel_rfl) (fun _ _ => Y.extract (.pl rfl) rfl) rfl ?_
                refine WX.pure 14 #[true, true, true, true, true, true, true, true, true, true, true, true, true, true, true, false, false] rfl (by kernel_rfl) (fun _ _ => Y.assign (.pl rfl)) rfl ?_
                refine WX.pure 15 #[true, true, true, true, true, true, true, true, true, true, true, true, true, true, true, true, false] rfl (by kernel_rfl) (fun _ _ => Y.assign (.pl rfl)) rfl ?_
                refine WX.stop #[true, true, true, true, true, true, true, true, true, true, true, true, true, true, true, true, true] (fun wz hw => St.tail [_] hw) rfl (by kernel_rfl) (WO.q (Y.assign (.pl rfl)) rfl ?_)
                refine WA.done (by kernel_rfl) ?_
                exact W.joinAt6 hK12 r41.1 r41.2.1 r41.2.2 (blkA A42) A42 c43 (Option.some.inj hF11) (.cons rfl (.cons rfl (.cons rfl (.nil)))) (.nil) (fun wz hw => (St.toV (enc := (eI .i64)) (sz := 1) (A' := A42) (cap' := c43) (ys := r41.1) (fun _ => rfl) hw (i := 0) rfl (fun wz h => h)).pick [0] rfl)
              · replace hF11 := cneg hT17 hF11
                refine bsplit (decide (r18 = 148)) (fun hT18 => ?_) (fun hT18 => ?_)
                · replace hF11 := cpos hT18 hF11
                  refine WX.pure 6 #[true, true, true, false, true, true, true, false, false, false, false, false, false, false, false, false, false] rfl (by kernel_rfl) (fun _ _ => Y.fn (f := .method "alibi/object.step") (.cons (Evs.ifE (k := 148) (of_decide_eq_true hT18) rfl (.pl rfl)) (.nil))) rfl ?_
                  refine WX.pure 7 #[true, true, true, false, true, true, true, true, false, false, false, false, false, false, false, false, false] rfl (by kernel_rfl) (fun _ _ => Y.nilM nah148_step (.pl rfl)) rfl ?_
                  refine WX.pure 8 #[true, true, true, false, true, true, true, true, true, false, false, false, false, false, false, false, false] rfl (by kernel_rfl) (fun _ _ => Y.move (.pl rfl)) rfl ?_
                  obtain ⟨hk44, hF11⟩ := ckh hF11
                  refine WX.one 3 #[true, true, true, true, true, true, true, true, true, false, false, false, false, false, false, false, false] (fun wz hw => St.tail [] hw) rfl (by kernel_rfl) (WO.callM isGo12 (.cons (.pl rfl) (.nil)) rfl (fun wz hw => slices_Clone_int_int_ok (hk44) wz (hs5.mono hw)) ?_)
                  rintro ⟨A45, c46⟩ -
                  obtain ⟨r47, hr47, hF11⟩ := bnd hF11
                  refine WX.one 9 #[true, true, true, true, true, true, true, true, true, true, false, false, false, false, false, false, false] (fun wz hw => St.tail [_] hw) rfl (by kernel_rfl) (WO.callI (γ := (Option Addr × Nat)) (u := .agg #[]) (v := .agg #[]) (fun g => .tuple #[.slice g.1 (r47.1).length g.2, .int .i64 r47.2.1, .int .i64 r47.2.2]) (fun g => [cR (eI .i64) 1 g.1 g.2 3 r47.1, cR (eI .i64) 1 A45 c46 3 s2]) (fun g => True) meth148_step isGo162 (Evs.ifE (k := 148) (of_decide_eq_true hT18) rfl (.pl rfl)) (.cons (.pl rfl) (.cons (.pl rfl) (.cons (.pl rfl) (.nil)))) rfl (fun wz hw => (object_ticket_step_ok (hr47) wz (SlIn.ofRow (fun _ => rfl) hw (i := 0) rfl)).calls hw) ?_)
                  rintro ⟨A48, c49⟩ -
                  refine WX.pure 10 #[true, true, true, true, true, true, true, true, true, true, true, false, false, false, false, false, false] rfl (by kernel_rfl) (fun _ _ => Y.move (.pl rfl)) rfl ?_
                  refine WX.pure 11 #[true, true, true, true, true, true, true, true, true, true, true, true, false, false, false, false, false] rfl (by kernel_rfl) (fun _ _ => Y.extract (.pl rfl) rfl) rfl ?_
                  refine WX.pure 12 #[true, true, true, true, true, true, true, true, true, true, true, true, true, false, false, false, false] rfl (by kernel_rfl) (fun _ _ => Y.extract (.pl rfl) rfl) rfl ?_
                  refine WX.pure 13 #[true, true, true, true, true, true, true, true, true, true, true, true, true, true, false, false, false] rfl (by kernel_rfl) (fun _ _ => Y.extract (.pl rfl) rfl) rfl ?_
                  refine WX.pure 14 #[true, true, true, true, true, true, true, true, true, true, true, true, true, true, true, false, false] rfl (by kernel_rfl) (fun _ _ => Y.assign (.pl rfl)) rfl ?_
                  refine WX.pure 15 #[true, true, true, true, true, true, true, true, true, true, true, true, true, true, true, true, false] rfl (by kernel_rfl) (fun _ _ => Y.assign (.pl rfl)) rfl ?_
                  refine WX.stop #[true, true, true, true, true, true, true, true, true, true, true, true, true, true, true, true, true] (fun wz hw => St.tail [_, _] hw) rfl (by kernel_rfl) (WO.q (Y.assign (.pl rfl)) rfl ?_)
                  refine WA.done (by kernel_rfl) ?_
                  exact W.joinAt6 hK12 r47.1 r47.2.1 r47.2.2 (blkA A48) A48 c49 (Option.some.inj hF11) (.cons rfl (.cons rfl (.cons rfl (.nil)))) (.nil) (fun wz hw => (St.toV (enc := (eI .i64)) (sz := 1) (A' := A48) (cap' := c49) (ys := r47.1) (fun _ => rfl) hw (i := 0) rfl (fun wz h => h)).pick [0] rfl)
                · replace hF11 := cneg hT18 hF11
                  exact nomatch hF11
      · -- behind
        rintro next15 res16 e17 o12 A13 c14 rfl
        refine W.seqR fun Q19 hQ19 => ?_
        refine WL.q (Y.move (.pl rfl)) rfl ?_
        obtain ⟨hk50, hF⟩ := ckh hF
        refine WL.step (WO.callM isGo12 (.cons (.pl rfl) (.nil)) rfl (fun wz hw => slices_Clone_okF (hk50) wz (SlIn.ofV (enc := (eI .i64)) (sz := 1) hw (i := 0) rfl)) ?_)
        rintro ⟨A51, c52, ys⟩ hys
        refine WL.q (Y.move (.pl rfl)) rfl ?_
        refine WL.q (Y.move (.pl rfl)) rfl ?_
        refine WL.q (Y.assign (.pl rfl)) rfl ?_
        refine WL.q (Y.assign (.pl rfl)) rfl ?_
        refine WL.q (Y.assign (.pl rfl)) rfl ?_
        refine WL.next hQ19 (.cons (i := 8) rfl (.cons (i := 9) rfl (.cons (i := 10) rfl (.nil)))) ?_
        obtain rfl := Option.some.inj hF
        refine W.retV (fn := Try.f23) (vs := [.slice A51 (next15).length c52, .int .i64 res16, .int .i64 e17]) Try.results23 ⟨.tmp rfl, ⟨.tmp rfl, ⟨.tmp rfl, trivial⟩⟩⟩ (fun _ _ h => h) (fun wz hw => ?_)
        exact hR _ _ ⟨(A51, c52, ys), hys, rfl, (hw.pick [0] rfl)⟩



/-- The walk of ObjectOwn. -/
theorem ObjectOwn_ok {N : Nat} {typ kind arg : Int} {s : List Int} {r : List Int × Int × Int} (hS : object_Step N typ s kind arg = some r) (hE : slices_Equal_int_int N s s = some true) (hL : alibkeep_objectLives N = some true) (hb : limB 8 s.length = true)
    (w : World) {v : Value} (hs : SlIn (eI .i64) 1 w v s) : Pure Try.prog 6 [.int .i64 typ, v, .int .i64 kind, .int .i64 arg] w (.bool true) := by
  obtain ⟨A1, c1, rfl, hcc1, hs⟩ := hs.form
  refine W.enter (n := 54) Try.func6 rfl rfl Sub.refl (by simp) (St.start w) fun R hR => ?_
  refine W.seqR fun Q1 hQ1 => ?_
  refine WL.q (Y.assign (.pl rfl)) rfl ?_
  refine WL.next hQ1 (.cons (i := 0) rfl (.cons (i := 1) rfl (.cons (i := 2) rfl (.cons (i := 3) rfl (.nil))))) ?_
  refine W.seqR fun Q2 hQ2 => ?_
  refine WL.q (Y.move (.pl rfl)) rfl ?_
  refine WL.step (WO.callM isGo12 (.cons (.pl rfl) (.nil)) rfl (fun wz hw => slices_Clone_int_int_ok hb wz (hs.mono hw)) ?_)
  rintro ⟨A2, c2⟩ -
  refine WL.q (Y.assign (.pl rfl)) rfl ?_
  refine WL.next hQ2 (.cons (i := 0) rfl (.cons (i := 1) rfl (.cons (i := 2) rfl (.cons (i := 3) rfl (.cons (i := 9) rfl (.nil)))))) ?_
  refine W.seqR fun Q3 hQ3 => ?_
  refine WL.q (Y.move (.pl rfl)) rfl ?_
  refine WL.q (Y.move (.pl rfl)) rfl ?_
  refine WL.q (Y.move (.pl rfl)) rfl ?_
  refine WL.q (Y.move (.pl rfl)) rfl ?_
  refine WL.step (WO.callM isGo23 (.cons (.pl rfl) (.cons (.pl rfl) (.cons (.pl rfl) (.cons (.pl rfl) (.nil))))) rfl (fun wz hw => object_Step_okF hS wz (hs.mono hw)) ?_)
  rintro ⟨A3, c3, ys⟩ hys
  refine WL.q (Y.move (.pl rfl)) rfl ?_
  refine WL.q (Y.extract (.pl rfl) rfl) rfl ?_
  refine WL.q (Y.extract (.pl rfl) rfl) rfl ?_
  refine WL.q (Y.extract (.pl rfl) rfl) rfl ?_
  refine WL.q (Y.assign (.pl rfl)) rfl ?_
  refine WL.q (Y.assign (.pl rfl)) rfl ?_
  refine WL.q (Y.assign (.pl rfl)) rfl ?_
  refine WL.next hQ3 (.cons (i := 0) rfl (.cons (i := 1) rfl (.cons (i := 9) rfl (.cons (i := 10) rfl (.nil))))) ?_
  refine W.seqR fun Q4 hQ4 => ?_
  refine WL.q (Y.move (.pl rfl)) rfl ?_
  refine WL.q (Y.move (.pl rfl)) rfl ?_
  refine WL.step (WO.callP isGo24 (.cons (.pl rfl) (.cons (.pl rfl) (.nil))) rfl (fun wz hw => slices_Equal_int_int_ok hE wz (hs.mono hw) (SlIn.ofRow (fun _ => rfl) hw (i := 1) rfl)) ?_)
  refine WL.q (Y.assign (.pl rfl)) rfl ?_
  refine WL.next hQ4 (.cons (i := 1) rfl (.cons (i := 9) rfl (.cons (i := 10) rfl (.cons (i := 13) rfl (.nil))))) ?_
  refine W.seqR fun Q5 hQ5 => ?_
  refine WL.q (Y.move (.pl rfl)) rfl ?_
  refine WL.q (Y.move (.pl rfl)) rfl ?_
  refine WL.q (Y.cap Try.underlying23 (.pl rfl)) rfl ?_
  refine WL.q (Y.sliceTo Try.underlying23 cells3 (.pl rfl) (.pl rfl) ⟨Int.natCast_nonneg _, Int.le_refl _⟩) rfl ?_
  refine WL.q (Y.assign (.pl rfl)) rfl ?_
  refine WL.next hQ5 (.cons (i := 1) rfl (.cons (i := 9) rfl (.cons (i := 10) rfl (.cons (i := 13) rfl (.nil))))) ?_
  have hys' : (r.1 ++ ys).length = c3 := hys
  have hc3 : ((c3 : Int)).toNat = c3 := Int.toNat_natCast _
  refine W.know (F := c3 ≤ maxLen) (fun wz hw => hw.row_max (i := 0) rfl) fun hcl => ?_
  refine W.join0 (Em := []) (M := [cR (eI .i64) 1 A2 c2 3 s]) (I := True) (.cons (i := 1) rfl (.cons (i := 9) rfl (.cons (i := 13) rfl (.nil)))) (fun K7 hK7 => ?_) ?_
  · refine W.seqR fun Q6 hQ6 => ?_
    refine WL.q (Y.move (.pl rfl)) rfl ?_
    refine WL.q (Y.len Try.underlying23 (.pl rfl)) rfl ?_
    refine WL.q (Y.move (.pl rfl)) rfl ?_
    refine WL.next hQ6 (.cons (i := 1) rfl (.cons (i := 9) rfl (.cons (i := 10) rfl (.cons (i := 13) rfl (.cons (i := 34) rfl (.cons (i := 35) rfl (.nil))))))) ?_
    refine W.block ?_
    refine W.loop2 (Em := fun (i : Int) (zs : List Int) => [(35, .int .i64 i)]) (M := fun i zs => [cR (eI .i64) 1 A3 c3 3 zs, cR (eI .i64) 1 A2 c2 3 s]) (I := fun i zs k => 0 ≤ i ∧ i + k = c3 + 1 ∧ 1 ≤ k ∧ zs.length = c3) 0 (r.1 ++ ys) (c3 + 1) (by omega) (.cons rfl (.nil)) (.cons (i := 1) rfl (.cons (i := 9) rfl (.cons (i := 10) rfl (.cons (i := 13) rfl (.cons (i := 34) rfl (.nil)))))) (fun wz hw => hw) (fun i zs k hI K8 hK8 => ?_)
    obtain ⟨hi0, hik, hk1, hzl⟩ := hI
    refine W.seqR fun Q9 hQ9 => ?_
    refine WL.q (Y.lss (.pl rfl) (.pl rfl)) rfl ?_
    refine WL.next hQ9 (.cons (i := 1) rfl (.cons (i := 9) rfl (.cons (i := 10) rfl (.cons (i := 13) rfl (.cons (i := 34) rfl (.cons (i := 35) rfl (.cons (i := 36) rfl (.nil)))))))) ?_
    refine W.seq fun K10 hK10 => ?_
    refine W.cond (.pl rfl) (fun hC => ?_) (fun hC => ?_)
    · have hlt : i < (c3 : Int) := by have h9 : i < ((c3 : Int).toNat : Int) := of_decide_eq_true hC; omega
      have hb0 : 0 ≤ i ∧ i < zs.length := by omega
      obtain ⟨z, hz⟩ : ∃ z, zs[i.toNat]? = some z := ⟨_, List.getElem?_eq_getElem (by omega)⟩
      refine W.skip ?_
      refine W.go hK10 (.cons (i := 1) rfl (.cons (i := 9) rfl (.cons (i := 10) rfl (.cons (i := 13) rfl (.cons (i := 34) rfl (.cons (i := 35) rfl (.nil))))))) ?_
      refine W.seq fun K11 hK11 => ?_
      refine W.block ?_
      refine W.seqR fun Q12 hQ12 => ?_
      refine WL.q (Y.move (.pl rfl)) rfl ?_
      refine WL.q (Y.assign (.pl rfl)) rfl ?_
      refine WL.next hQ12 (.cons (i := 1) rfl (.cons (i := 9) rfl (.cons (i := 10) rfl (.cons (i := 13) rfl (.cons (i := 34) rfl (.cons (i := 35) rfl (.cons (i := 14) rfl (.nil)))))))) ?_
      refine W.reg ?_
      refine WL.q (Y.move (.pl rfl)) rfl ?_
      refine WL.q (Y.move (.pl rfl)) rfl ?_
      refine WL.q (Y.rowEl Try.underlying23 cells3 (i := 0) rfl (.pl rfl) (hc3.trans hzl.symm) (.pl rfl) hb0) rfl ?_
      refine WL.q (Y.loadR (enc := (eI .i64)) (v := .int .i64 z) (a := z) (idx := i) (j := 0) Try.underlying3 rfl (fun _ => rfl) (i := 0) rfl (.pl rfl) hz rfl rfl) rfl ?_
      refine WL.q (Y.addW (.pl rfl) (.pl rfl)) rfl ?_
      refine WL.q (Y.rowEl Try.underlying23 cells3 (i := 0) rfl (.pl rfl) (hc3.trans hzl.symm) (.pl rfl) hb0) rfl ?_
      refine WL.step (WO.storeS (enc := (eI .i64)) (a := z) (a' := (IntKind.i64.wrap (z + 1))) (idx := i) (j := 0) cells3 (.pl rfl) (.pl rfl) rfl (fun _ => rfl) (i := 0) rfl hz rfl (by decide) rfl ?_)
      refine WL.nil ?_
      refine W.go hK11 (.cons (i := 1) rfl (.cons (i := 9) rfl (.cons (i := 10) rfl (.cons (i := 13) rfl (.cons (i := 34) rfl (.cons (i := 35) rfl (.nil))))))) ?_
      refine W.reg ?_
      refine WL.q (Y.add (.pl rfl) (.pl rfl) (by unfold maxLen at hcl; omega)) rfl ?_
      refine WL.q (Y.move (.pl rfl)) rfl ?_
      refine WL.nil ?_
      exact W.again2 hK8 (i + 1) (zs.set i.toNat (IntKind.i64.wrap (z + 1))) (k - 1) ⟨by omega, by omega, by omega, by simpa using hzl⟩ (by omega) (.cons rfl (.nil)) (.cons (i := 1) rfl (.cons (i := 9) rfl (.cons (i := 10) rfl (.cons (i := 13) rfl (.cons (i := 34) rfl (.nil)))))) (fun wz hw => hw)
    · refine W.exit ?_
      exact W.joinAt0 hK7 trivial (.nil) (.cons (i := 1) rfl (.cons (i := 9) rfl (.cons (i := 13) rfl (.nil)))) (fun wz hw => hw.pick [1] rfl)
  · rintro -
    refine W.seqR fun Q13 hQ13 => ?_
    refine WL.step (WO.callP isGo25 (.nil) rfl (fun wz hw => alibkeep_objectLives_ok hL wz) ?_)
    refine WL.q (Y.move (.pl rfl)) rfl ?_
    refine WL.g (.pl rfl rfl rfl) (fun hg => Y.move (.pl rfl)) rfl ?_
    refine WL.q (Y.and (.pl rfl) (fun h2 => .gd (eqt h2) rfl)) rfl ?_
    refine WL.q (Y.move (.pl rfl)) rfl ?_
    refine WL.g (.pl rfl rfl rfl) (fun hg => Y.move (.pl rfl)) rfl ?_
    refine WL.g (.pl rfl rfl rfl) (fun hg => Y.move (.pl rfl)) rfl ?_
    refine WL.gP (.pl rfl rfl rfl) isGo24 (fun hg => (.cons (.gd (hg) rfl) (.cons (.gd (hg) rfl) (.nil)))) rfl (fun hg wz hw => slices_Equal_int_int_ok hE wz (hs.mono hw) (SlIn.ofRow (fun _ => rfl) hw (i := 0) rfl)) ?_
    refine WL.q (Y.and (.pl rfl) (fun h2 => .gd (eqt h2) rfl)) rfl ?_
    refine WL.q (Y.assign (.pl rfl)) rfl ?_
    refine WL.next hQ13 (.cons (i := 8) rfl (.nil)) ?_
    refine W.retV (fn := Try.f6) (vs := [.bool true]) Try.results6 ⟨.tmp rfl, trivial⟩ (fun _ _ h => h) (fun wz hw => ?_)
    exact hR _ _ ⟨rfl, (hw.pick [] rfl)⟩

end Go.Proofs.Ytkmmagekepoapaa
