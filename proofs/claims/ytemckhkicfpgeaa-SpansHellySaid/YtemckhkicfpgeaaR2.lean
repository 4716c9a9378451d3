/- The laws of orders: what their code computes, and the walks. -/
import Derived.Test.YtemckhkicfpgeaaR1
set_option linter.unusedVariables false
set_option linter.unusedSimpArgs false
set_option linter.unusedSectionVars false
set_option maxRecDepth 100000
namespace Go.Proofs.Ytemckhkicfpgeaa
open Go.RowKit
theorem isGo16 : IsGo Try.prog 16 := ⟨_, Try.func16, by kernel_rfl, rfl⟩
theorem isGo21 : IsGo Try.prog 21 := ⟨_, Try.func21, by kernel_rfl, rfl⟩
theorem isGo22 : IsGo Try.prog 22 := ⟨_, Try.func22, by kernel_rfl, rfl⟩
theorem isGo44 : IsGo Try.prog 44 := ⟨_, Try.func44, by kernel_rfl, rfl⟩
theorem eqg25 : EqIA Try.prog 25 12 .i64 .u16 := ⟨3, 23, 22, .u16, by kernel_rfl, by kernel_rfl, by kernel_rfl, by kernel_rfl, by kernel_rfl, by kernel_rfl, by kernel_rfl, by kernel_rfl, by kernel_rfl, by decide⟩
def alibkeep_OrderClosed_L3 (N : Nat) (r1 : Rel) (r3 : (Int × (List Int) × Bool × Int)) : Int → Option (Int ⊕ (Unit ⊕ Bool))
  | v9 =>
    cond (decide (v9 < 12))
      (bd (ax 12 0 r1.after v9) fun (x10 : Int) =>
      bd (ax 12 0 r3.2.1 v9) fun (x11 : Int) =>
      cond (!(decide ((bclrI .u16 x10 x11) = 0)))
        (some (.inr (.inr false)))
        (ck (ok64 (v9 + 1)) <|
        some (.inl (v9 + 1))))
      (some (.inr (.inl ())))

def alibkeep_OrderClosed (N : Nat) (r1 : Rel) : Option Bool :=
  bd (order_Close N r1) fun (r3 : (Int × (List Int) × Bool × Int)) =>
  bd (alibkeep_orderLives N) fun (r5 : Bool) =>
  cond ((!r5) || (!(decide (r3.2.2.2 = 0))))
    (bd (alibkeep_orderLives N) fun (r6 : Bool) =>
    some (r6 && (decide (r3.1 = 0) && eqA 12 r3.2.1 [])))
    (bd (order_Close N (Rel.mk r3.1 r3.2.1)) fun (r7 : (Int × (List Int) × Bool × Int)) =>
    bd (α := (Unit ⊕ Bool)) (iter (alibkeep_OrderClosed_L3 N r1 r3) N 0) <|
    Sum.elim (fun _ => 
      bd (order_Count N r1) fun (r13 : (Int × Int)) =>
      bd (order_Count N (Rel.mk r3.1 r3.2.1)) fun (r14 : (Int × Int)) =>
      some (((((decide (r7.2.2.2 = 0)) && (decide (r7.1 = r3.1) && eqA 12 r7.2.1 r3.2.1)) && (r7.2.2.1 == r3.2.2.1)) && (decide (r13.1 = r14.1))) && (decide (r13.2 = r14.2)))) (fun p => some p))

theorem alibkeep_OrderClosed_ok {N : Nat} {r1 : Rel} {res : Bool} (hF : alibkeep_OrderClosed N r1 = some res) (w : World) :
    Pure Try.prog 3 [.agg (encRel r1).toArray] w (.bool res) := by
  refine W.enter (n := 84) Try.func3 rfl rfl Sub.refl (by simp) (St.start w) fun R hR => ?_
  unfold alibkeep_OrderClosed at hF
  -- region 0: order.go:68
  refine W.seqR fun Q1 hQ1 => ?_
  refine WL.step (WO.boxA (.pl rfl) rfl fun b2 => ?_)
  refine WL.q (Y.assign (.pl rfl)) rfl ?_
  refine WL.next hQ1 (.cons (i := 1) rfl (.nil)) ?_
  -- region 1: order.go:69
  refine W.seqR fun Q2 hQ2 => ?_
  refine WL.q (Y.loadBA (ds := (encRel r1)) Try.underlying25 rfl cells25 (.pl rfl) (i := 0) rfl rfl subW) rfl ?_
  obtain ⟨r3, hr3, hF⟩ := bnd hF
  refine WL.step (WO.callP isGo15 (.cons (.pl rfl) (.nil)) rfl (fun w hw => order_Close_ok (hr3) w ) ?_)
  refine WL.q (Y.move (.pl rfl)) rfl ?_
  refine WL.q (Y.extract (.pl rfl) rfl) rfl ?_
  refine WL.q (Y.extract (.pl rfl) rfl) rfl ?_
  refine WL.q (Y.extract (.pl rfl) rfl) rfl ?_
  refine WL.step (WO.alloc (cs := (encRel (Rel.mk 0 [])).toArray) zero25 rfl rfl fun b4 => ?_)
  refine WL.step (WO.storeBA (ds := (encRel (Rel.mk r3.1 r3.2.1))) (cs' := (encRel (Rel.mk r3.1 r3.2.1))) cells25 (.pl rfl) (.pl rfl) rfl (oneRel _) (i := 0) rfl (lel (o := 0) (l := 13) (m := 13) (by decide) rfl rfl) (putW rfl) ?_)
  refine WL.q (Y.assign (.pl rfl)) rfl ?_
  refine WL.q (Y.assign (.pl rfl)) rfl ?_
  refine WL.next hQ2 (.cons (i := 1) rfl (.cons (i := 3) rfl (.cons (i := 4) rfl (.cons (i := 5) rfl (.nil))))) ?_
  refine W.seq fun K3 hK3 => ?_
  -- region 2: order.go:70
  refine W.seqR fun Q4 hQ4 => ?_
  obtain ⟨r5, hr5, hF⟩ := bnd hF
  refine WL.step (WO.callP isGo16 (.nil) rfl (fun w hw => alibkeep_orderLives_ok (hr5) w ) ?_)
  refine WL.q (Y.not (.pl rfl)) rfl ?_
  refine WL.q (Y.move (.pl rfl)) rfl ?_
  refine WL.g (.pl rfl rfl rfl) (fun hg => Y.move (.pl rfl)) rfl ?_
  refine WL.g (.pl rfl rfl rfl) (fun hg => Y.neq (.gd (hg) rfl) (.pl rfl)) rfl ?_
  refine WL.q (Y.or (.pl rfl) (fun h2 => .gd (eqf h2) rfl)) rfl ?_
  refine WL.next hQ4 (.cons (i := 1) rfl (.cons (i := 3) rfl (.cons (i := 4) rfl (.cons (i := 25) rfl (.nil))))) ?_
  refine W.cond (.pl rfl) (fun hC5 => ?_) (fun hC5 => ?_)
  · replace hF := cpos hC5 hF
    -- region 3: order.go:71
    refine W.seqR fun Q6 hQ6 => ?_
    obtain ⟨r6, hr6, hF⟩ := bnd hF
    refine WL.step (WO.callP isGo16 (.nil) rfl (fun w hw => alibkeep_orderLives_ok (hr6) w ) ?_)
    refine WL.q (Y.move (.pl rfl)) rfl ?_
    refine WL.g (.pl rfl rfl rfl) (fun hg => Y.loadBA (ds := (encRel (Rel.mk r3.1 r3.2.1))) Try.underlying25 rfl cells25 (.pl rfl) (i := 0) rfl rfl subW) rfl ?_
    refine WL.g (.pl rfl rfl rfl) (fun hg => Y.build (cs := (encRel (Rel.mk 0 [])).toArray) shape25 (.nil) (one_parts trivial) rfl) rfl ?_
    refine WL.g (.pl rfl rfl rfl) (fun hg => Y.eqlG eqg25 (.gd (hg) rfl) (.gd (hg) rfl)) rfl ?_
    refine WL.q (Y.and (.pl rfl) (fun h2 => .gd (eqt h2) rfl)) rfl ?_
    refine WL.q (Y.assign (.pl rfl)) rfl ?_
    refine WL.next hQ6 (.cons (i := 2) rfl (.nil)) ?_
    obtain rfl := Option.some.inj hF
    refine W.retV (fn := Try.f3) (vs := [.bool (r6 && (decide (r3.1 = 0) && eqA 12 r3.2.1 []))]) Try.results3 ⟨.tmp rfl, trivial⟩ (fun _ _ h => h) (fun w hw => ?_)
    exact hR _ _ ⟨rfl, (hw.pick [] rfl)⟩
  · replace hF := cneg hC5 hF
    refine W.skip ?_
    refine W.go hK3 (.cons (i := 1) rfl (.cons (i := 3) rfl (.cons (i := 4) rfl (.nil)))) ?_
    -- region 4: order.go:73
    refine W.seqR fun Q7 hQ7 => ?_
    refine WL.q (Y.loadBA (ds := (encRel (Rel.mk r3.1 r3.2.1))) Try.underlying25 rfl cells25 (.pl rfl) (i := 0) rfl rfl subW) rfl ?_
    obtain ⟨r7, hr7, hF⟩ := bnd hF
    refine WL.step (WO.callP isGo15 (.cons (.pl rfl) (.nil)) rfl (fun w hw => order_Close_ok (hr7) w ) ?_)
    refine WL.q (Y.move (.pl rfl)) rfl ?_
    refine WL.q (Y.extract (.pl rfl) rfl) rfl ?_
    refine WL.q (Y.extract (.pl rfl) rfl) rfl ?_
    refine WL.q (Y.extract (.pl rfl) rfl) rfl ?_
    refine WL.step (WO.alloc (cs := (encRel (Rel.mk 0 [])).toArray) zero25 rfl rfl fun b8 => ?_)
    refine WL.step (WO.storeBA (ds := (encRel (Rel.mk r7.1 r7.2.1))) (cs' := (encRel (Rel.mk r7.1 r7.2.1))) cells25 (.pl rfl) (.pl rfl) rfl (oneRel _) (i := 0) rfl (lel (o := 0) (l := 13) (m := 13) (by decide) rfl rfl) (putW rfl) ?_)
    refine WL.q (Y.assign (.pl rfl)) rfl ?_
    refine WL.q (Y.assign (.pl rfl)) rfl ?_
    refine WL.next hQ7 (.cons (i := 1) rfl (.cons (i := 3) rfl (.cons (i := 4) rfl (.cons (i := 6) rfl (.cons (i := 7) rfl (.cons (i := 8) rfl (.nil))))))) ?_
    obtain ⟨o8, hF8, hF⟩ := bnd hF
    refine W.join0 (Em := []) (M := [cBx b2 25 (encRel r1), cBx b4 25 (encRel (Rel.mk r3.1 r3.2.1)), cBx b8 25 (encRel (Rel.mk r7.1 r7.2.1))]) (I := (.inl ()) = o8) (.cons (i := 1) rfl (.cons (i := 3) rfl (.cons (i := 4) rfl (.cons (i := 6) rfl (.cons (i := 7) rfl (.cons (i := 8) rfl (.nil))))))) (fun K9 hK9 => ?_) ?_
    · -- up to
      -- region 5: order.go:74
      refine W.seqR fun Q10 hQ10 => ?_
      refine WL.q (Y.move (.pl rfl)) rfl ?_
      refine WL.next hQ10 (.cons (i := 1) rfl (.cons (i := 3) rfl (.cons (i := 4) rfl (.cons (i := 6) rfl (.cons (i := 7) rfl (.cons (i := 8) rfl (.cons (i := 38) rfl (.nil)))))))) ?_
      refine W.block ?_
      refine W.loop1 (Em := fun (v9 : Int) => [(38, .int .i64 v9)]) (M := fun v9 => [cBx b2 25 (encRel r1), cBx b4 25 (encRel (Rel.mk r3.1 r3.2.1)), cBx b8 25 (encRel (Rel.mk r7.1 r7.2.1))]) (I := fun v9 k11 => iter (alibkeep_OrderClosed_L3 N r1 r3) k11 v9 = some o8) 0 N (hF8) (.cons rfl (.nil)) (.cons (i := 1) rfl (.cons (i := 3) rfl (.cons (i := 4) rfl (.cons (i := 6) rfl (.cons (i := 7) rfl (.cons (i := 8) rfl (.nil))))))) (fun w hw => hw.pick [2, 1, 0] rfl) (fun v9 k11 hI K12 hK12 => ?_)
      obtain ⟨k11, t11, rfl, hF11, hN11⟩ := iter_step hI
      -- region 6: order.go:74
      refine W.seqR fun Q13 hQ13 => ?_
      refine WL.q (Y.lss (.pl rfl) (.pl rfl)) rfl ?_
      refine WL.next hQ13 (.cons (i := 1) rfl (.cons (i := 3) rfl (.cons (i := 4) rfl (.cons (i := 6) rfl (.cons (i := 7) rfl (.cons (i := 8) rfl (.cons (i := 38) rfl (.cons (i := 39) rfl (.nil))))))))) ?_
      refine W.seq fun K14 hK14 => ?_
      refine W.cond (.pl rfl) (fun hC15 => ?_) (fun hC15 => ?_)
      · replace hF11 := cpos hC15 hF11
        refine W.skip ?_
        refine W.go hK14 (.cons (i := 1) rfl (.cons (i := 3) rfl (.cons (i := 4) rfl (.cons (i := 6) rfl (.cons (i := 7) rfl (.cons (i := 8) rfl (.cons (i := 38) rfl (.nil)))))))) ?_
        refine W.seq fun K16 hK16 => ?_
        refine W.block ?_
        -- region 7: order.go:74
        refine W.seqR fun Q17 hQ17 => ?_
        refine WL.q (Y.move (.pl rfl)) rfl ?_
        refine WL.q (Y.assign (.pl rfl)) rfl ?_
        refine WL.next hQ17 (.cons (i := 1) rfl (.cons (i := 3) rfl (.cons (i := 4) rfl (.cons (i := 6) rfl (.cons (i := 7) rfl (.cons (i := 8) rfl (.cons (i := 9) rfl (.cons (i := 38) rfl (.nil))))))))) ?_
        -- region 8: order.go:75
        refine W.seqD (by kernel_rfl) (by kernel_rfl) fun R18 hR18 => ?_
        refine WD.q (Y.move (.pl rfl)) rfl ?_
        refine WD.q (Y.fieldAddr0 (off := 1) (ft := 23) Try.underlying25 rfl cells23 (.pl rfl)) rfl ?_
        obtain ⟨x10, hx10, hF11⟩ := bnd hF11
        refine WD.q (Y.arrZ Try.underlying23 cells22 (.pl rfl) (.pl rfl) (ax_lt (hx10))) rfl ?_
        refine WD.q (Y.loadB (v := .int .u16 x10) Try.underlying22 rfl (.pl rfl) (i := 0) rfl (cellsA (pre := (Value.int .i64 r1.n :: [])) (off := 1) (post := []) (a := r1.after) (enc := (eI .u16)) (d := 0) (n := 12) (sz := 1) (j := 0) (fun _ => rfl) rfl (ax_nat (hx10)) (ax_get (hx10)) rfl)) rfl ?_
        refine WD.q (Y.move (.pl rfl)) rfl ?_
        refine WD.q (Y.fieldAddr0 (off := 1) (ft := 23) Try.underlying25 rfl cells23 (.pl rfl)) rfl ?_
        obtain ⟨x11, hx11, hF11⟩ := bnd hF11
        refine WD.q (Y.arrZ Try.underlying23 cells22 (.pl rfl) (.pl rfl) (ax_lt (hx11))) rfl ?_
        refine WD.q (Y.loadB (v := .int .u16 x11) Try.underlying22 rfl (.pl rfl) (i := 1) rfl (cellsA (pre := (Value.int .i64 r3.1 :: [])) (off := 1) (post := []) (a := r3.2.1) (enc := (eI .u16)) (d := 0) (n := 12) (sz := 1) (j := 0) (fun _ => rfl) rfl (ax_nat (hx11)) (ax_get (hx11)) rfl)) rfl ?_
        refine WD.q (Y.bclr (.pl rfl) (.pl rfl)) rfl ?_
        refine WD.q (Y.neq (.pl rfl) (.pl rfl)) rfl ?_
        refine WD.next hR18 (.cons (i := 1) rfl (.cons (i := 3) rfl (.cons (i := 4) rfl (.cons (i := 6) rfl (.cons (i := 7) rfl (.cons (i := 8) rfl (.cons (i := 38) rfl (.cons (i := 50) rfl (.nil))))))))) ?_
        refine W.cond (.pl rfl) (fun hC19 => ?_) (fun hC19 => ?_)
        · replace hF11 := cpos hC19 hF11
          -- region 9: order.go:76
          refine W.seqR fun Q20 hQ20 => ?_
          refine WL.q (Y.assign (.pl rfl)) rfl ?_
          refine WL.next hQ20 (.cons (i := 2) rfl (.nil)) ?_
          obtain rfl := Option.some.inj hF11
          obtain rfl := einr hN11
          obtain rfl := Option.some.inj hF
          refine W.retV (fn := Try.f3) (vs := [.bool false]) Try.results3 ⟨.tmp rfl, trivial⟩ (fun _ _ h => h) (fun w hw => ?_)
          exact hR _ _ ⟨rfl, (hw.pick [] rfl)⟩
        · replace hF11 := cneg hC19 hF11
          refine W.skip ?_
          refine W.go hK16 (.cons (i := 1) rfl (.cons (i := 3) rfl (.cons (i := 4) rfl (.cons (i := 6) rfl (.cons (i := 7) rfl (.cons (i := 8) rfl (.cons (i := 38) rfl (.nil)))))))) ?_
          -- region 10: order.go:74
          refine W.reg ?_
          obtain ⟨hk12, hF11⟩ := ckh hF11
          refine WL.q (Y.add (.pl rfl) (.pl rfl) (ok64_lt (hk12))) rfl ?_
          refine WL.q (Y.move (.pl rfl)) rfl ?_
          refine WL.nil ?_
          obtain rfl := Option.some.inj hF11
          exact W.again1 hK12 (v9 + 1) k11 hN11 (Nat.lt_succ_self _) (.cons rfl (.nil)) (.cons (i := 1) rfl (.cons (i := 3) rfl (.cons (i := 4) rfl (.cons (i := 6) rfl (.cons (i := 7) rfl (.cons (i := 8) rfl (.nil))))))) (fun w hw => hw.pick [0, 1, 2] rfl)
      · replace hF11 := cneg hC15 hF11
        refine W.exit ?_
        obtain rfl := Option.some.inj hF11
        exact W.joinAt0 hK9  (einr hN11) (.nil) (.cons (i := 1) rfl (.cons (i := 3) rfl (.cons (i := 4) rfl (.cons (i := 6) rfl (.cons (i := 7) rfl (.cons (i := 8) rfl (.nil))))))) (fun w hw => hw.pick [0, 1, 2] rfl)
    · -- behind
      rintro  rfl
      -- region 11: order.go:79
      refine W.seqR fun Q22 hQ22 => ?_
      refine WL.q (Y.loadBA (ds := (encRel r1)) Try.underlying25 rfl cells25 (.pl rfl) (i := 0) rfl rfl subW) rfl ?_
      obtain ⟨r13, hr13, hF⟩ := bnd hF
      refine WL.step (WO.callP isGo17 (.cons (.pl rfl) (.nil)) rfl (fun w hw => order_Count_ok (hr13) w ) ?_)
      refine WL.q (Y.move (.pl rfl)) rfl ?_
      refine WL.q (Y.extract (.pl rfl) rfl) rfl ?_
      refine WL.q (Y.extract (.pl rfl) rfl) rfl ?_
      refine WL.q (Y.assign (.pl rfl)) rfl ?_
      refine WL.q (Y.assign (.pl rfl)) rfl ?_
      refine WL.next hQ22 (.cons (i := 3) rfl (.cons (i := 4) rfl (.cons (i := 6) rfl (.cons (i := 7) rfl (.cons (i := 8) rfl (.cons (i := 10) rfl (.cons (i := 11) rfl (.nil)))))))) ?_
      -- region 12: order.go:80
      refine W.seqR fun Q23 hQ23 => ?_
      refine WL.q (Y.loadBA (ds := (encRel (Rel.mk r3.1 r3.2.1))) Try.underlying25 rfl cells25 (.pl rfl) (i := 1) rfl rfl subW) rfl ?_
      obtain ⟨r14, hr14, hF⟩ := bnd hF
      refine WL.step (WO.callP isGo17 (.cons (.pl rfl) (.nil)) rfl (fun w hw => order_Count_ok (hr14) w ) ?_)
      refine WL.q (Y.move (.pl rfl)) rfl ?_
      refine WL.q (Y.extract (.pl rfl) rfl) rfl ?_
      refine WL.q (Y.extract (.pl rfl) rfl) rfl ?_
      refine WL.q (Y.assign (.pl rfl)) rfl ?_
      refine WL.q (Y.assign (.pl rfl)) rfl ?_
      refine WL.next hQ23 (.cons (i := 3) rfl (.cons (i := 4) rfl (.cons (i := 6) rfl (.cons (i := 7) rfl (.cons (i := 8) rfl (.cons (i := 10) rfl (.cons (i := 11) rfl (.cons (i := 12) rfl (.cons (i := 13) rfl (.nil)))))))))) ?_
      -- region 13: order.go:81
      refine W.seqR fun Q24 hQ24 => ?_
      refine WL.q (Y.move (.pl rfl)) rfl ?_
      refine WL.q (Y.eql (.pl rfl) (.pl rfl)) rfl ?_
      refine WL.q (Y.move (.pl rfl)) rfl ?_
      refine WL.g (.pl rfl rfl rfl) (fun hg => Y.loadBA (ds := (encRel (Rel.mk r7.1 r7.2.1))) Try.underlying25 rfl cells25 (.pl rfl) (i := 2) rfl rfl subW) rfl ?_
      refine WL.g (.pl rfl rfl rfl) (fun hg => Y.loadBA (ds := (encRel (Rel.mk r3.1 r3.2.1))) Try.underlying25 rfl cells25 (.pl rfl) (i := 1) rfl rfl subW) rfl ?_
      refine WL.g (.pl rfl rfl rfl) (fun hg => Y.eqlG eqg25 (.gd (hg) rfl) (.gd (hg) rfl)) rfl ?_
      refine WL.q (Y.and (.pl rfl) (fun h2 => .gd (eqt h2) rfl)) rfl ?_
      refine WL.q (Y.move (.pl rfl)) rfl ?_
      refine WL.g (.pl rfl rfl rfl) (fun hg => Y.move (.pl rfl)) rfl ?_
      refine WL.g (.pl rfl rfl rfl) (fun hg => Y.move (.pl rfl)) rfl ?_
      refine WL.g (.pl rfl rfl rfl) (fun hg => Y.eqlB Try.underlying4 (.gd (hg) rfl) (.gd (hg) rfl)) rfl ?_
      refine WL.q (Y.and (.pl rfl) (fun h2 => .gd (eqt h2) rfl)) rfl ?_
      refine WL.q (Y.move (.pl rfl)) rfl ?_
      refine WL.g (.pl rfl rfl rfl) (fun hg => Y.move (.pl rfl)) rfl ?_
      refine WL.g (.pl rfl rfl rfl) (fun hg => Y.move (.pl rfl)) rfl ?_
      refine WL.g (.pl rfl rfl rfl) (fun hg => Y.eql (.gd (hg) rfl) (.gd (hg) rfl)) rfl ?_
      refine WL.q (Y.and (.pl rfl) (fun h2 => .gd (eqt h2) rfl)) rfl ?_
      refine WL.q (Y.move (.pl rfl)) rfl ?_
      refine WL.g (.pl rfl rfl rfl) (fun hg => Y.move (.pl rfl)) rfl ?_
      refine WL.g (.pl rfl rfl rfl) (fun hg => Y.move (.pl rfl)) rfl ?_
      refine WL.g (.pl rfl rfl rfl) (fun hg => Y.eql (.gd (hg) rfl) (.gd (hg) rfl)) rfl ?_
      refine WL.q (Y.and (.pl rfl) (fun h2 => .gd (eqt h2) rfl)) rfl ?_
      refine WL.q (Y.assign (.pl rfl)) rfl ?_
      refine WL.next hQ24 (.cons (i := 2) rfl (.nil)) ?_
      obtain rfl := Option.some.inj hF
      refine W.retV (fn := Try.f3) (vs := [.bool (((((decide (r7.2.2.2 = 0)) && (decide (r7.1 = r3.1) && eqA 12 r7.2.1 r3.2.1)) && (r7.2.2.1 == r3.2.2.1)) && (decide (r13.1 = r14.1))) && (decide (r13.2 = r14.2)))]) Try.results3 ⟨.tmp rfl, trivial⟩ (fun _ _ h => h) (fun w hw => ?_)
      exact hR _ _ ⟨rfl, (hw.pick [] rfl)⟩

def alibkeep_OrderSplits (N : Nat) (r1 : Rel) (i2 : Int) (j3 : Int) : Option Bool :=
  bd (order_Count N r1) fun (r5 : (Int × Int)) =>
  bd (alibkeep_orderLives N) fun (r6 : Bool) =>
  cond (((((((!r6) || (!(decide (r5.2 = 0)))) || (decide (i2 < 0))) || (decide (j3 < 0))) || (decide (r1.n ≤ i2))) || (decide (r1.n ≤ j3))) || (decide (i2 = j3)))
    (bd (alibkeep_orderLives N) fun (r7 : Bool) =>
    some r7)
    (bd (α := Unit) (some ()) <|
    fun _ => 
      bd (ax 12 0 r1.after i2) fun (x14 : Int) =>
      ck (decide (0 ≤ j3)) <|
      bd (ax 12 0 r1.after i2) fun (x16 : Int) =>
      bd (ax 12 0 r1.after j3) fun (x17 : Int) =>
      ck (decide (0 ≤ i2)) <|
      bd (ax 12 0 r1.after j3) fun (x19 : Int) =>
      bd (order_Count N (Rel.mk r1.n (setA 12 0 r1.after i2 (borI .u16 x14 (shlI .u16 1 j3))))) fun (r20 : (Int × Int)) =>
      bd (order_Count N (Rel.mk r1.n (setA 12 0 r1.after j3 (borI .u16 x17 (shlI .u16 1 i2))))) fun (r21 : (Int × Int)) =>
      ck (!((((decide (r20.2 = 0)) || ((decide (r20.2 = 4)) && (decide (r20.1 = 0)))) && ((decide (r21.2 = 0)) || ((decide (r21.2 = 4)) && (decide (r21.1 = 0))))) == true) || (ok64 (r20.1 + r21.1))) <|
      some ((((decide (r20.2 = 0)) || ((decide (r20.2 = 4)) && (decide (r20.1 = 0)))) && ((decide (r21.2 = 0)) || ((decide (r21.2 = 4)) && (decide (r21.1 = 0))))) && (decide ((r20.1 + r21.1) = r5.1))))

theorem alibkeep_OrderSplits_ok {N : Nat} {r1 : Rel} {i2 : Int} {j3 : Int} {res : Bool} (hF : alibkeep_OrderSplits N r1 i2 j3 = some res) (w : World) :
    Pure Try.prog 4 [.agg (encRel r1).toArray, .int .i64 i2, .int .i64 j3] w (.bool res) := by
  refine W.enter (n := 111) Try.func4 rfl rfl Sub.refl (by simp) (St.start w) fun R hR => ?_
  unfold alibkeep_OrderSplits at hF
  -- region 0: order.go:85
  refine W.seqR fun Q1 hQ1 => ?_
  refine WL.step (WO.boxA (.pl rfl) rfl fun b4 => ?_)
  refine WL.q (Y.assign (.pl rfl)) rfl ?_
  refine WL.next hQ1 (.cons (i := 1) rfl (.cons (i := 2) rfl (.cons (i := 3) rfl (.nil)))) ?_
  -- region 1: order.go:86
  refine W.seqR fun Q2 hQ2 => ?_
  refine WL.q (Y.loadBA (ds := (encRel r1)) Try.underlying25 rfl cells25 (.pl rfl) (i := 0) rfl rfl subW) rfl ?_
  obtain ⟨r5, hr5, hF⟩ := bnd hF
  refine WL.step (WO.callP isGo17 (.cons (.pl rfl) (.nil)) rfl (fun w hw => order_Count_ok (hr5) w ) ?_)
  refine WL.q (Y.move (.pl rfl)) rfl ?_
  refine WL.q (Y.extract (.pl rfl) rfl) rfl ?_
  refine WL.q (Y.extract (.pl rfl) rfl) rfl ?_
  refine WL.q (Y.assign (.pl rfl)) rfl ?_
  refine WL.q (Y.assign (.pl rfl)) rfl ?_
  refine WL.next hQ2 (.cons (i := 1) rfl (.cons (i := 2) rfl (.cons (i := 3) rfl (.cons (i := 7) rfl (.cons (i := 8) rfl (.nil)))))) ?_
  refine W.seq fun K3 hK3 => ?_
  -- region 2: order.go:87
  refine W.seqR fun Q4 hQ4 => ?_
  obtain ⟨r6, hr6, hF⟩ := bnd hF
  refine WL.step (WO.callP isGo16 (.nil) rfl (fun w hw => alibkeep_orderLives_ok (hr6) w ) ?_)
  refine WL.q (Y.not (.pl rfl)) rfl ?_
  refine WL.q (Y.move (.pl rfl)) rfl ?_
  refine WL.g (.pl rfl rfl rfl) (fun hg => Y.move (.pl rfl)) rfl ?_
  refine WL.g (.pl rfl rfl rfl) (fun hg => Y.neq (.gd (hg) rfl) (.pl rfl)) rfl ?_
  refine WL.q (Y.or (.pl rfl) (fun h2 => .gd (eqf h2) rfl)) rfl ?_
  refine WL.q (Y.move (.pl rfl)) rfl ?_
  refine WL.g (.pl rfl rfl rfl) (fun hg => Y.move (.pl rfl)) rfl ?_
  refine WL.g (.pl rfl rfl rfl) (fun hg => Y.lss (.gd (hg) rfl) (.pl rfl)) rfl ?_
  refine WL.q (Y.or (.pl rfl) (fun h2 => .gd (eqf h2) rfl)) rfl ?_
  refine WL.q (Y.move (.pl rfl)) rfl ?_
  refine WL.g (.pl rfl rfl rfl) (fun hg => Y.move (.pl rfl)) rfl ?_
  refine WL.g (.pl rfl rfl rfl) (fun hg => Y.lss (.gd (hg) rfl) (.pl rfl)) rfl ?_
  refine WL.q (Y.or (.pl rfl) (fun h2 => .gd (eqf h2) rfl)) rfl ?_
  refine WL.q (Y.move (.pl rfl)) rfl ?_
  refine WL.g (.pl rfl rfl rfl) (fun hg => Y.move (.pl rfl)) rfl ?_
  refine WL.g (.pl rfl rfl rfl) (fun hg => Y.fieldAddr0 (off := 0) (ft := 3) Try.underlying25 rfl cells3 (.pl rfl)) rfl ?_
  refine WL.g (.pl rfl rfl rfl) (fun hg => Y.loadB (v := .int .i64 r1.n) Try.underlying3 rfl (.gd (hg) rfl) (i := 0) rfl (rfl)) rfl ?_
  refine WL.g (.pl rfl rfl rfl) (fun hg => Y.geq (.gd (hg) rfl) (.gd (hg) rfl)) rfl ?_
  refine WL.q (Y.or (.pl rfl) (fun h2 => .gd (eqf h2) rfl)) rfl ?_
  refine WL.q (Y.move (.pl rfl)) rfl ?_
  refine WL.g (.pl rfl rfl rfl) (fun hg => Y.move (.pl rfl)) rfl ?_
  refine WL.g (.pl rfl rfl rfl) (fun hg => Y.fieldAddr0 (off := 0) (ft := 3) Try.underlying25 rfl cells3 (.pl rfl)) rfl ?_
  refine WL.g (.pl rfl rfl rfl) (fun hg => Y.loadB (v := .int .i64 r1.n) Try.underlying3 rfl (.gd (hg) rfl) (i := 0) rfl (rfl)) rfl ?_
  refine WL.g (.pl rfl rfl rfl) (fun hg => Y.geq (.gd (hg) rfl) (.gd (hg) rfl)) rfl ?_
  refine WL.q (Y.or (.pl rfl) (fun h2 => .gd (eqf h2) rfl)) rfl ?_
  refine WL.q (Y.move (.pl rfl)) rfl ?_
  refine WL.g (.pl rfl rfl rfl) (fun hg => Y.move (.pl rfl)) rfl ?_
  refine WL.g (.pl rfl rfl rfl) (fun hg => Y.move (.pl rfl)) rfl ?_
  refine WL.g (.pl rfl rfl rfl) (fun hg => Y.eql (.gd (hg) rfl) (.gd (hg) rfl)) rfl ?_
  refine WL.q (Y.or (.pl rfl) (fun h2 => .gd (eqf h2) rfl)) rfl ?_
  refine WL.next hQ4 (.cons (i := 1) rfl (.cons (i := 2) rfl (.cons (i := 3) rfl (.cons (i := 7) rfl (.cons (i := 50) rfl (.nil)))))) ?_
  refine W.cond (.pl rfl) (fun hC5 => ?_) (fun hC5 => ?_)
  · replace hF := cpos hC5 hF
    -- region 3: order.go:88
    refine W.seqR fun Q6 hQ6 => ?_
    obtain ⟨r7, hr7, hF⟩ := bnd hF
    refine WL.step (WO.callP isGo16 (.nil) rfl (fun w hw => alibkeep_orderLives_ok (hr7) w ) ?_)
    refine WL.q (Y.assign (.pl rfl)) rfl ?_
    refine WL.next hQ6 (.cons (i := 6) rfl (.nil)) ?_
    obtain rfl := Option.some.inj hF
    refine W.retV (fn := Try.f4) (vs := [.bool r7]) Try.results4 ⟨.tmp rfl, trivial⟩ (fun _ _ h => h) (fun w hw => ?_)
    exact hR _ _ ⟨rfl, (hw.pick [] rfl)⟩
  · replace hF := cneg hC5 hF
    refine W.skip ?_
    refine W.go hK3 (.cons (i := 1) rfl (.cons (i := 2) rfl (.cons (i := 3) rfl (.cons (i := 7) rfl (.nil))))) ?_
    obtain ⟨o7, hF7, hF⟩ := bnd hF
    refine W.join2 (Em := fun (b8 : Nat) (b9 : Nat) => [(9, .pointer (some ⟨b8, 0, none⟩)), (10, .pointer (some ⟨b9, 0, none⟩))]) (M := fun b8 b9 => [cBx b8 25 (encRel r1), cBx b9 25 (encRel r1)]) (I := fun b8 b9 => () = o7) (.cons (i := 1) rfl (.cons (i := 2) rfl (.cons (i := 7) rfl (.nil)))) (fun K8 hK8 => ?_) ?_
    · -- up to
      -- region 4: order.go:90
      refine W.regX 5 (by kernel_rfl) ?_
      refine WX.take 0 #[true, false, false, false, false, false] (fun w hw => St.tail [] hw) rfl (by kernel_rfl) (Y.loadBA (ds := (encRel r1)) Try.underlying25 rfl cells25 (.pl rfl) (i := 0) rfl rfl subW) rfl ?_
      refine WX.take 1 #[true, true, false, false, false, false] (fun w hw => St.tail [] hw) rfl (by kernel_rfl) (Y.loadBA (ds := (encRel r1)) Try.underlying25 rfl cells25 (.pl rfl) (i := 0) rfl rfl subW) rfl ?_
      refine WX.branch [2, 3] (fun w hw => St.tail [] hw) (by kernel_rfl) ⟨?_, ?_, trivial⟩
      · skip
        refine WXI.step #[true, true, true, false, false, false] rfl rfl (WO.alloc (cs := (encRel (Rel.mk 0 [])).toArray) zero25 rfl rfl fun b10 => ?_)
        refine WX.one 3 #[true, true, true, true, false, false] (fun w hw => St.tail [_] hw) rfl (by kernel_rfl) (WO.alloc (cs := (encRel (Rel.mk 0 [])).toArray) zero25 rfl rfl fun b11 => ?_)
        refine WX.one 4 #[true, true, true, true, true, false] (fun w hw => St.tail [_, _] hw) rfl (by kernel_rfl) (WO.storeBA (ds := (encRel r1)) (cs' := (encRel r1)) cells25 (.pl rfl) (.pl rfl) rfl (oneRel _) (i := 1) rfl (lel (o := 0) (l := 13) (m := 13) (by decide) rfl rfl) (putW rfl) ?_)
        refine WX.stop #[true, true, true, true, true, true] (fun w hw => St.tail [_, _] hw) rfl (by kernel_rfl) (WO.storeBA (ds := (encRel r1)) (cs' := (encRel r1)) cells25 (.pl rfl) (.pl rfl) rfl (oneRel _) (i := 0) rfl (lel (o := 0) (l := 13) (m := 13) (by decide) rfl rfl) (putW rfl) ?_)
        refine WA.done (by kernel_rfl) ?_
        exact W.joinAt2 hK8 b10 b11 (Option.some.inj hF7) (.cons rfl (.cons rfl (.nil))) (.cons (i := 1) rfl (.cons (i := 2) rfl (.cons (i := 7) rfl (.nil)))) (fun w hw => hw.pick [1, 0] rfl)
      · skip
        refine WXI.step #[true, true, false, true, false, false] rfl rfl (WO.alloc (cs := (encRel (Rel.mk 0 [])).toArray) zero25 rfl rfl fun b12 => ?_)
        refine WX.one 2 #[true, true, true, true, false, false] (fun w hw => St.tail [_] hw) rfl (by kernel_rfl) (WO.alloc (cs := (encRel (Rel.mk 0 [])).toArray) zero25 rfl rfl fun b13 => ?_)
        refine WX.one 4 #[true, true, true, true, true, false] (fun w hw => St.tail [_, _] hw) rfl (by kernel_rfl) (WO.storeBA (ds := (encRel r1)) (cs' := (encRel r1)) cells25 (.pl rfl) (.pl rfl) rfl (oneRel _) (i := 0) rfl (lel (o := 0) (l := 13) (m := 13) (by decide) rfl rfl) (putW rfl) ?_)
        refine WX.stop #[true, true, true, true, true, true] (fun w hw => St.tail [_, _] hw) rfl (by kernel_rfl) (WO.storeBA (ds := (encRel r1)) (cs' := (encRel r1)) cells25 (.pl rfl) (.pl rfl) rfl (oneRel _) (i := 1) rfl (lel (o := 0) (l := 13) (m := 13) (by decide) rfl rfl) (putW rfl) ?_)
        refine WA.done (by kernel_rfl) ?_
        exact W.joinAt2 hK8 b13 b12 (Option.some.inj hF7) (.cons rfl (.cons rfl (.nil))) (.cons (i := 1) rfl (.cons (i := 2) rfl (.cons (i := 7) rfl (.nil)))) (fun w hw => hw.pick [0, 1] rfl)
    · -- behind
      rintro b8 b9 rfl
      -- region 5: order.go:91
      refine W.seqT 9 (by kernel_rfl) (by kernel_rfl) fun Q10 hQ10 => ?_
      refine WS.q (Y.move (.pl rfl)) rfl ?_
      refine WS.q (Y.fieldAddr0 (off := 1) (ft := 23) Try.underlying25 rfl cells23 (.pl rfl)) rfl ?_
      obtain ⟨x14, hx14, hF⟩ := bnd hF
      refine WS.q (Y.arrZ Try.underlying23 cells22 (.pl rfl) (.pl rfl) (ax_lt (hx14))) rfl ?_
      refine WS.q (Y.loadB (v := .int .u16 x14) Try.underlying22 rfl (.pl rfl) (i := 0) rfl (cellsA (pre := (Value.int .i64 r1.n :: [])) (off := 1) (post := []) (a := r1.after) (enc := (eI .u16)) (d := 0) (n := 12) (sz := 1) (j := 0) (fun _ => rfl) rfl (ax_nat (hx14)) (ax_get (hx14)) rfl)) rfl ?_
      refine WS.q (Y.move (.pl rfl)) rfl ?_
      obtain ⟨hk15, hF⟩ := ckh hF
      refine WS.q (Y.shl (.pl rfl) (.pl rfl) (of_decide_eq_true (hk15))) rfl ?_
      refine WS.q (Y.bor (.pl rfl) (.pl rfl)) rfl ?_
      refine WS.q (Y.fieldAddr0 (off := 1) (ft := 23) Try.underlying25 rfl cells23 (.pl rfl)) rfl ?_
      obtain ⟨x16, hx16, hF⟩ := bnd hF
      refine WS.q (Y.arrZ Try.underlying23 cells22 (.pl rfl) (.pl rfl) (ax_lt (hx16))) rfl ?_
      refine WS.tail ?_
      refine WL.step (WO.storeB (cs' := (encRel (Rel.mk r1.n (setA 12 0 r1.after i2 (borI .u16 x14 (shlI .u16 1 j3)))))) cells22 (.pl rfl) (.pl rfl) rfl (i := 0) rfl (ltl (m := 13) (offlt (off := 1) (sz := 1) (j := 0) (ax_nat (hx16)) (by decide)) rfl) (cellsSet (pre := (Value.int .i64 r1.n :: [])) (off := 1) (post := []) (a := r1.after) (enc := (eI .u16)) (d := 0) (n := 12) (sz := 1) (j := 0) (x := x16) (x' := (borI .u16 x14 (shlI .u16 1 j3))) (fun _ => rfl) rfl (ax_lt (hx16)) (ax_get (hx16)) (by decide) rfl rfl) ?_)
      refine WL.next hQ10 (.cons (i := 1) rfl (.cons (i := 2) rfl (.cons (i := 7) rfl (.cons (i := 9) rfl (.cons (i := 10) rfl (.nil)))))) ?_
      -- region 6: order.go:92
      refine W.seqT 9 (by kernel_rfl) (by kernel_rfl) fun Q11 hQ11 => ?_
      refine WS.q (Y.move (.pl rfl)) rfl ?_
      refine WS.q (Y.fieldAddr0 (off := 1) (ft := 23) Try.underlying25 rfl cells23 (.pl rfl)) rfl ?_
      obtain ⟨x17, hx17, hF⟩ := bnd hF
      refine WS.q (Y.arrZ Try.underlying23 cells22 (.pl rfl) (.pl rfl) (ax_lt (hx17))) rfl ?_
      refine WS.q (Y.loadB (v := .int .u16 x17) Try.underlying22 rfl (.pl rfl) (i := 1) rfl (cellsA (pre := (Value.int .i64 r1.n :: [])) (off := 1) (post := []) (a := r1.after) (enc := (eI .u16)) (d := 0) (n := 12) (sz := 1) (j := 0) (fun _ => rfl) rfl (ax_nat (hx17)) (ax_get (hx17)) rfl)) rfl ?_
      refine WS.q (Y.move (.pl rfl)) rfl ?_
      obtain ⟨hk18, hF⟩ := ckh hF
      refine WS.q (Y.shl (.pl rfl) (.pl rfl) (of_decide_eq_true (hk18))) rfl ?_
      refine WS.q (Y.bor (.pl rfl) (.pl rfl)) rfl ?_
      refine WS.q (Y.fieldAddr0 (off := 1) (ft := 23) Try.underlying25 rfl cells23 (.pl rfl)) rfl ?_
      obtain ⟨x19, hx19, hF⟩ := bnd hF
      refine WS.q (Y.arrZ Try.underlying23 cells22 (.pl rfl) (.pl rfl) (ax_lt (hx19))) rfl ?_
      refine WS.tail ?_
      refine WL.step (WO.storeB (cs' := (encRel (Rel.mk r1.n (setA 12 0 r1.after j3 (borI .u16 x17 (shlI .u16 1 i2)))))) cells22 (.pl rfl) (.pl rfl) rfl (i := 1) rfl (ltl (m := 13) (offlt (off := 1) (sz := 1) (j := 0) (ax_nat (hx19)) (by decide)) rfl) (cellsSet (pre := (Value.int .i64 r1.n :: [])) (off := 1) (post := []) (a := r1.after) (enc := (eI .u16)) (d := 0) (n := 12) (sz := 1) (j := 0) (x := x19) (x' := (borI .u16 x17 (shlI .u16 1 i2))) (fun _ => rfl) rfl (ax_lt (hx19)) (ax_get (hx19)) (by decide) rfl rfl) ?_)
      refine WL.next hQ11 (.cons (i := 7) rfl (.cons (i := 9) rfl (.cons (i := 10) rfl (.nil)))) ?_
      -- region 7: order.go:93
      refine W.seqR fun Q12 hQ12 => ?_
      refine WL.q (Y.loadBA (ds := (encRel (Rel.mk r1.n (setA 12 0 r1.after i2 (borI .u16 x14 (shlI .u16 1 j3)))))) Try.underlying25 rfl cells25 (.pl rfl) (i := 0) rfl rfl subW) rfl ?_
      obtain ⟨r20, hr20, hF⟩ := bnd hF
      refine WL.step (WO.callP isGo17 (.cons (.pl rfl) (.nil)) rfl (fun w hw => order_Count_ok (hr20) w ) ?_)
      refine WL.q (Y.move (.pl rfl)) rfl ?_
      refine WL.q (Y.extract (.pl rfl) rfl) rfl ?_
      refine WL.q (Y.extract (.pl rfl) rfl) rfl ?_
      refine WL.q (Y.assign (.pl rfl)) rfl ?_
      refine WL.q (Y.assign (.pl rfl)) rfl ?_
      refine WL.next hQ12 (.cons (i := 7) rfl (.cons (i := 10) rfl (.cons (i := 11) rfl (.cons (i := 12) rfl (.nil))))) ?_
      -- region 8: order.go:94
      refine W.seqR fun Q13 hQ13 => ?_
      refine WL.q (Y.loadBA (ds := (encRel (Rel.mk r1.n (setA 12 0 r1.after j3 (borI .u16 x17 (shlI .u16 1 i2)))))) Try.underlying25 rfl cells25 (.pl rfl) (i := 1) rfl rfl subW) rfl ?_
      obtain ⟨r21, hr21, hF⟩ := bnd hF
      refine WL.step (WO.callP isGo17 (.cons (.pl rfl) (.nil)) rfl (fun w hw => order_Count_ok (hr21) w ) ?_)
      refine WL.q (Y.move (.pl rfl)) rfl ?_
      refine WL.q (Y.extract (.pl rfl) rfl) rfl ?_
      refine WL.q (Y.extract (.pl rfl) rfl) rfl ?_
      refine WL.q (Y.assign (.pl rfl)) rfl ?_
      refine WL.q (Y.assign (.pl rfl)) rfl ?_
      refine WL.next hQ13 (.cons (i := 7) rfl (.cons (i := 11) rfl (.cons (i := 12) rfl (.cons (i := 13) rfl (.cons (i := 14) rfl (.nil)))))) ?_
      -- region 9: order.go:95
      refine W.seqR fun Q14 hQ14 => ?_
      refine WL.q (Y.move (.pl rfl)) rfl ?_
      refine WL.q (Y.eql (.pl rfl) (.pl rfl)) rfl ?_
      refine WL.q (Y.move (.pl rfl)) rfl ?_
      refine WL.g (.pl rfl rfl rfl) (fun hg => Y.move (.pl rfl)) rfl ?_
      refine WL.g (.pl rfl rfl rfl) (fun hg => Y.eql (.gd (hg) rfl) (.pl rfl)) rfl ?_
      refine WL.g (.pl rfl rfl rfl) (fun hg => Y.move (.gd (hg) rfl)) rfl ?_
      refine WL.g (.gd rfl rfl rfl) (fun hg => Y.move (.pl rfl)) rfl ?_
      refine WL.g (.gd rfl rfl rfl) (fun hg => Y.eql (.gd (hg) rfl) (.pl rfl)) rfl ?_
      refine WL.g (.pl rfl rfl rfl) (fun hg => Y.and (.gd (hg) rfl) (fun h2 => .gd (band hg (eqt h2)) rfl)) rfl ?_
      refine WL.q (Y.or (.pl rfl) (fun h2 => .gd (eqf h2) rfl)) rfl ?_
      refine WL.q (Y.move (.pl rfl)) rfl ?_
      refine WL.g (.pl rfl rfl rfl) (fun hg => Y.move (.pl rfl)) rfl ?_
      refine WL.g (.pl rfl rfl rfl) (fun hg => Y.eql (.gd (hg) rfl) (.pl rfl)) rfl ?_
      refine WL.g (.pl rfl rfl rfl) (fun hg => Y.move (.gd (hg) rfl)) rfl ?_
      refine WL.g (.gd rfl rfl rfl) (fun hg => Y.move (.pl rfl)) rfl ?_
      refine WL.g (.gd rfl rfl rfl) (fun hg => Y.eql (.gd (hg) rfl) (.pl rfl)) rfl ?_
      refine WL.g (.gd rfl rfl rfl) (fun hg => Y.move (.gd (hg) rfl)) rfl ?_
      refine WL.g (.gd rfl rfl rfl) (fun hg => Y.move (.pl rfl)) rfl ?_
      refine WL.g (.gd rfl rfl rfl) (fun hg => Y.eql (.gd (hg) rfl) (.pl rfl)) rfl ?_
      refine WL.g (.gd rfl rfl rfl) (fun hg => Y.and (.gd (hg) rfl) (fun h2 => .gd (band hg (eqt h2)) rfl)) rfl ?_
      refine WL.g (.pl rfl rfl rfl) (fun hg => Y.or (.gd (hg) rfl) (fun h2 => .gd (band hg (eqf h2)) rfl)) rfl ?_
      refine WL.q (Y.and (.pl rfl) (fun h2 => .gd (eqt h2) rfl)) rfl ?_
      refine WL.q (Y.move (.pl rfl)) rfl ?_
      refine WL.g (.pl rfl rfl rfl) (fun hg => Y.move (.pl rfl)) rfl ?_
      refine WL.g (.pl rfl rfl rfl) (fun hg => Y.move (.pl rfl)) rfl ?_
      obtain ⟨hk22, hF⟩ := ckh hF
      refine WL.g (.pl rfl rfl rfl) (fun hg => Y.add (.gd (hg) rfl) (.gd (hg) rfl) (ok64_lt (gor hg hk22))) rfl ?_
      refine WL.g (.pl rfl rfl rfl) (fun hg => Y.move (.pl rfl)) rfl ?_
      refine WL.g (.pl rfl rfl rfl) (fun hg => Y.eql (.gd (hg) rfl) (.gd (hg) rfl)) rfl ?_
      refine WL.q (Y.and (.pl rfl) (fun h2 => .gd (eqt h2) rfl)) rfl ?_
      refine WL.q (Y.assign (.pl rfl)) rfl ?_
      refine WL.next hQ14 (.cons (i := 6) rfl (.nil)) ?_
      obtain rfl := Option.some.inj hF
      refine W.retV (fn := Try.f4) (vs := [.bool ((((decide (r20.2 = 0)) || ((decide (r20.2 = 4)) && (decide (r20.1 = 0)))) && ((decide (r21.2 = 0)) || ((decide (r21.2 = 4)) && (decide (r21.1 = 0))))) && (decide ((r20.1 + r21.1) = r5.1)))]) Try.results4 ⟨.tmp rfl, trivial⟩ (fun _ _ h => h) (fun w hw => ?_)
      exact hR _ _ ⟨rfl, (hw.pick [] rfl)⟩

def alibref_Ahead (N : Nat) (r1 : Rel) (i2 : Int) (j3 : Int) : Option Bool :=
  bd (ax 12 0 r1.after i2) fun (x5 : Int) =>
  ck (decide (0 ≤ j3)) <|
  some (decide ((remI .u16 (shrI .u16 x5 j3) 2) = 1))

theorem alibref_Ahead_ok {N : Nat} {r1 : Rel} {i2 : Int} {j3 : Int} {res : Bool} (hF : alibref_Ahead N r1 i2 j3 = some res) (w : World) :
    Pure Try.prog 21 [.agg (encRel r1).toArray, .int .i64 i2, .int .i64 j3] w (.bool res) := by
  refine W.enter (n := 15) Try.func21 rfl rfl Sub.refl (by simp) (St.start w) fun R hR => ?_
  unfold alibref_Ahead at hF
  -- region 0: order.go:10
  refine W.seqR fun Q1 hQ1 => ?_
  refine WL.step (WO.boxA (.pl rfl) rfl fun b4 => ?_)
  refine WL.q (Y.assign (.pl rfl)) rfl ?_
  refine WL.next hQ1 (.cons (i := 1) rfl (.cons (i := 2) rfl (.cons (i := 3) rfl (.nil)))) ?_
  -- region 1: order.go:10
  refine W.seqR fun Q2 hQ2 => ?_
  refine WL.q (Y.move (.pl rfl)) rfl ?_
  refine WL.q (Y.fieldAddr0 (off := 1) (ft := 23) Try.underlying25 rfl cells23 (.pl rfl)) rfl ?_
  obtain ⟨x5, hx5, hF⟩ := bnd hF
  refine WL.q (Y.arrZ Try.underlying23 cells22 (.pl rfl) (.pl rfl) (ax_lt (hx5))) rfl ?_
  refine WL.q (Y.loadB (v := .int .u16 x5) Try.underlying22 rfl (.pl rfl) (i := 0) rfl (cellsA (pre := (Value.int .i64 r1.n :: [])) (off := 1) (post := []) (a := r1.after) (enc := (eI .u16)) (d := 0) (n := 12) (sz := 1) (j := 0) (fun _ => rfl) rfl (ax_nat (hx5)) (ax_get (hx5)) rfl)) rfl ?_
  refine WL.q (Y.move (.pl rfl)) rfl ?_
  obtain ⟨hk6, hF⟩ := ckh hF
  refine WL.q (Y.shr (.pl rfl) (.pl rfl) (of_decide_eq_true (hk6))) rfl ?_
  refine WL.q (Y.rem (.pl rfl) (.pl rfl) (by decide)) rfl ?_
  refine WL.q (Y.eql (.pl rfl) (.pl rfl)) rfl ?_
  refine WL.q (Y.assign (.pl rfl)) rfl ?_
  refine WL.next hQ2 (.cons (i := 6) rfl (.nil)) ?_
  obtain rfl := Option.some.inj hF
  refine W.retV (fn := Try.f21) (vs := [.bool (decide ((remI .u16 (shrI .u16 x5 j3) 2) = 1))]) Try.results21 ⟨.tmp rfl, trivial⟩ (fun _ _ h => h) (fun w hw => ?_)
  exact hR _ _ ⟨rfl, (hw.pick [] rfl)⟩

def alibkeep_OrderDilworth_L41 (N : Nat) (r6 : ((List Int) × Int)) (v18 : Int) (x20 : Int) (r9 : (Int × (List Int) × Bool × Int)) (many17 : Int) : Int → Option (Int ⊕ (Int ⊕ Bool))
  | v23 =>
    cond (decide (v23 < (((r6.1.take v18.toNat)).length : Int)))
      (bd (ix (r6.1.take v18.toNat) v23) fun (x24 : Int) =>
      bd ((cond ((decide (x20 = x24)) == true) (alibref_Ahead N (Rel.mk r9.1 r9.2.1) v18 v23) (some false))) fun (r25 : Bool) =>
      bd ((cond (((decide (x20 = x24)) && (!r25)) == true) (alibref_Ahead N (Rel.mk r9.1 r9.2.1) v23 v18) (some false))) fun (r26 : Bool) =>
      cond (((decide (x20 = x24)) && (!r25)) && (!r26))
        (some (.inr (.inr false)))
        (ck (ok64 (v23 + 1)) <|
        some (.inl (v23 + 1))))
      (some (.inr (.inl (max many17 (x20 + 1)))))

def alibkeep_OrderDilworth_L39 (N : Nat) (r6 : ((List Int) × Int)) (r9 : (Int × (List Int) × Bool × Int)) : (Int × Int) → Option ((Int × Int) ⊕ (Int ⊕ Bool))
  | (many17, v18) =>
    cond (decide (v18 < ((r6.1).length : Int)))
      (bd (α := (Int ⊕ Bool)) (bd (ix r6.1 v18) fun (x20 : Int) =>
        ck (ok64 (x20 + 1)) <|
        ck (slB (r6.1).length 0 v18) <|
        iter (alibkeep_OrderDilworth_L41 N r6 v18 x20 r9 many17) N 0) <|
      Sum.elim (fun (many19 : Int) => 
        ck (ok64 (v18 + 1)) <|
        some (.inl (many19, (v18 + 1)))) (fun p => some (.inr (.inr p))))
      (some (.inr (.inl many17)))

def alibkeep_OrderDilworth_L55 (N : Nat) (r3 : ((List Int) × Int)) (x30 : Int) (r1 : Rel) (r9 : (Int × (List Int) × Bool × Int)) : Int → Option (Int ⊕ (Unit ⊕ Bool))
  | v31 =>
    cond (decide (v31 < ((r3.1).length : Int)))
      (bd (ix r3.1 v31) fun (x32 : Int) =>
      bd ((cond (((((decide (x30 < 0)) || (decide (x32 < 0))) || (decide (r1.n ≤ x30))) || (decide (r1.n ≤ x32))) == false) (alibref_Ahead N (Rel.mk r9.1 r9.2.1) x30 x32) (some false))) fun (r33 : Bool) =>
      cond (((((decide (x30 < 0)) || (decide (x32 < 0))) || (decide (r1.n ≤ x30))) || (decide (r1.n ≤ x32))) || r33)
        (some (.inr (.inr false)))
        (ck (ok64 (v31 + 1)) <|
        some (.inl (v31 + 1))))
      (some (.inr (.inl ())))

def alibkeep_OrderDilworth_L53 (N : Nat) (r3 : ((List Int) × Int)) (r1 : Rel) (r9 : (Int × (List Int) × Bool × Int)) : Int → Option (Int ⊕ (Unit ⊕ Bool))
  | v29 =>
    cond (decide (v29 < ((r3.1).length : Int)))
      (bd (α := (Unit ⊕ Bool)) (bd (ix r3.1 v29) fun (x30 : Int) =>
        iter (alibkeep_OrderDilworth_L55 N r3 x30 r1 r9) N 0) <|
      Sum.elim (fun _ => 
        ck (ok64 (v29 + 1)) <|
        some (.inl (v29 + 1))) (fun p => some (.inr (.inr p))))
      (some (.inr (.inl ())))

def alibkeep_OrderDilworth (N : Nat) (r1 : Rel) : Option Bool :=
  bd (order_Apart N r1) fun (r3 : ((List Int) × Int)) =>
  bd (order_Chains N r1) fun (r6 : ((List Int) × Int)) =>
  bd (order_Close N r1) fun (r9 : (Int × (List Int) × Bool × Int)) =>
  bd (α := Bool) (bd (alibkeep_orderLives N) fun (r12 : Bool) =>
    cond ((!r12) == false)
      (bd (alibkeep_ok N ([r3.2, r6.2, r9.2.2.2] : List Int)) fun (r14 : Bool) =>
      some (((!r12) || (!r14)) || (!(decide (((r6.1).length : Int) = r1.n)))))
      (some (((!r12) || false) || (!(decide (((r6.1).length : Int) = r1.n)))))) <|
  fun (v11 : Bool) => 
    cond v11
      (bd (alibkeep_orderLives N) fun (r15 : Bool) =>
      some (r15 && ((decide (r3.2 = 0)) == (decide (r6.2 = 0)))))
      (bd (α := (Int ⊕ Bool)) (iter (alibkeep_OrderDilworth_L39 N r6 r9) N (0, 0)) <|
      Sum.elim (fun (many16 : Int) => 
        bd (α := (Unit ⊕ Bool)) (iter (alibkeep_OrderDilworth_L53 N r3 r1 r9) N 0) <|
        Sum.elim (fun _ => 
          some (decide (((r3.1).length : Int) = many16))) (fun p => some p)) (fun p => some p))

theorem alibkeep_OrderDilworth_ok {N : Nat} {r1 : Rel} {res : Bool} (hF : alibkeep_OrderDilworth N r1 = some res) (w : World) :
    Pure Try.prog 5 [.agg (encRel r1).toArray] w (.bool res) := by
  refine W.enter (n := 141) Try.func5 rfl rfl Sub.refl (by simp) (St.start w) fun R hR => ?_
  unfold alibkeep_OrderDilworth at hF
  -- region 0: order.go:124
  refine W.seqR fun Q1 hQ1 => ?_
  refine WL.step (WO.boxA (.pl rfl) rfl fun b2 => ?_)
  refine WL.q (Y.assign (.pl rfl)) rfl ?_
  refine WL.next hQ1 (.cons (i := 1) rfl (.nil)) ?_
  -- region 1: order.go:125
  refine W.seqR fun Q2 hQ2 => ?_
  refine WL.q (Y.loadBA (ds := (encRel r1)) Try.underlying25 rfl cells25 (.pl rfl) (i := 0) rfl rfl subW) rfl ?_
  obtain ⟨r3, hr3, hF⟩ := bnd hF
  refine WL.step (WO.callM isGo18 (.cons (.pl rfl) (.nil)) rfl (fun w hw => order_Apart_ok (hr3) w ) ?_)
  rintro ⟨A4, c5⟩ -
  refine WL.q (Y.move (.pl rfl)) rfl ?_
  refine WL.q (Y.extract (.pl rfl) rfl) rfl ?_
  refine WL.q (Y.extract (.pl rfl) rfl) rfl ?_
  refine WL.q (Y.assign (.pl rfl)) rfl ?_
  refine WL.q (Y.assign (.pl rfl)) rfl ?_
  refine WL.next hQ2 (.cons (i := 1) rfl (.cons (i := 3) rfl (.cons (i := 4) rfl (.nil)))) ?_
  -- region 2: order.go:126
  refine W.seqR fun Q3 hQ3 => ?_
  refine WL.q (Y.loadBA (ds := (encRel r1)) Try.underlying25 rfl cells25 (.pl rfl) (i := 1) rfl rfl subW) rfl ?_
  obtain ⟨r6, hr6, hF⟩ := bnd hF
  refine WL.step (WO.callM isGo19 (.cons (.pl rfl) (.nil)) rfl (fun w hw => order_Chains_ok (hr6) w ) ?_)
  rintro ⟨A7, c8⟩ -
  refine WL.q (Y.move (.pl rfl)) rfl ?_
  refine WL.q (Y.extract (.pl rfl) rfl) rfl ?_
  refine WL.q (Y.extract (.pl rfl) rfl) rfl ?_
  refine WL.q (Y.assign (.pl rfl)) rfl ?_
  refine WL.q (Y.assign (.pl rfl)) rfl ?_
  refine WL.next hQ3 (.cons (i := 1) rfl (.cons (i := 3) rfl (.cons (i := 4) rfl (.cons (i := 5) rfl (.cons (i := 6) rfl (.nil)))))) ?_
  -- region 3: order.go:127
  refine W.seqR fun Q4 hQ4 => ?_
  refine WL.q (Y.loadBA (ds := (encRel r1)) Try.underlying25 rfl cells25 (.pl rfl) (i := 2) rfl rfl subW) rfl ?_
  obtain ⟨r9, hr9, hF⟩ := bnd hF
  refine WL.step (WO.callP isGo15 (.cons (.pl rfl) (.nil)) rfl (fun w hw => order_Close_ok (hr9) w ) ?_)
  refine WL.q (Y.move (.pl rfl)) rfl ?_
  refine WL.q (Y.extract (.pl rfl) rfl) rfl ?_
  refine WL.q (Y.extract (.pl rfl) rfl) rfl ?_
  refine WL.q (Y.extract (.pl rfl) rfl) rfl ?_
  refine WL.step (WO.alloc (cs := (encRel (Rel.mk 0 [])).toArray) zero25 rfl rfl fun b10 => ?_)
  refine WL.step (WO.storeBA (ds := (encRel (Rel.mk r9.1 r9.2.1))) (cs' := (encRel (Rel.mk r9.1 r9.2.1))) cells25 (.pl rfl) (.pl rfl) rfl (oneRel _) (i := 0) rfl (lel (o := 0) (l := 13) (m := 13) (by decide) rfl rfl) (putW rfl) ?_)
  refine WL.q (Y.assign (.pl rfl)) rfl ?_
  refine WL.q (Y.assign (.pl rfl)) rfl ?_
  refine WL.next hQ4 (.cons (i := 1) rfl (.cons (i := 3) rfl (.cons (i := 4) rfl (.cons (i := 5) rfl (.cons (i := 6) rfl (.cons (i := 7) rfl (.cons (i := 9) rfl (.nil)))))))) ?_
  refine W.seq fun K5 hK5 => ?_
  obtain ⟨o6, hF6, hF⟩ := bnd hF
  refine W.join1 (Em := fun (v11 : Bool) => [(51, .bool v11)]) (M := fun v11 => [cBx b2 25 (encRel r1), cR (eI .i64) 1 A4 c5 3 r3.1, cR (eI .i64) 1 A7 c8 3 r6.1, cBx b10 25 (encRel (Rel.mk r9.1 r9.2.1))]) (I := fun v11 => v11 = o6) (.cons (i := 1) rfl (.cons (i := 3) rfl (.cons (i := 4) rfl (.cons (i := 5) rfl (.cons (i := 6) rfl (.cons (i := 7) rfl (.nil))))))) (fun K7 hK7 => ?_) ?_
  · -- up to
    -- region 4: order.go:128
    refine W.reg ?_
    obtain ⟨r12, hr12, hF6⟩ := bnd hF6
    refine WL.step (WO.callP isGo16 (.nil) rfl (fun w hw => alibkeep_orderLives_ok (hr12) w ) ?_)
    refine WL.q (Y.not (.pl rfl)) rfl ?_
    refine WL.q (Y.move (.pl rfl)) rfl ?_
    refine WL.g (.pl rfl rfl rfl) (fun hg => Y.move (.pl rfl)) rfl ?_
    refine WL.g (.pl rfl rfl rfl) (fun hg => Y.move (.pl rfl)) rfl ?_
    refine WL.g (.pl rfl rfl rfl) (fun hg => Y.move (.pl rfl)) rfl ?_
    refine bsplit ((!r12) == false) (fun hg8 => ?_) (fun hg8 => ?_)
    · replace hF6 := cpos hg8 hF6
      refine WL.gd (.pl rfl rfl rfl) (hg8) ?_
      refine WL.step (WO.bsliceC (enc := (eI .i64)) (ys := ([r3.2, r6.2, r9.2.2.2] : List Int)) Try.underlying75 bz26 (.cons (.gd (hg8) rfl) (.cons (.gd (hg8) rfl) (.cons (.gd (hg8) rfl) (.nil)))) rfl (fun _ => rfl) rfl rfl (by decide) (by decide) rfl fun b13 => ?_)
      refine WL.gd (.pl rfl rfl rfl) (hg8) ?_
      obtain ⟨r14, hr14, hF6⟩ := bnd hF6
      refine WL.step (WO.callP isGo20 (.cons (.pl rfl) (.nil)) rfl (fun w hw => alibkeep_ok_ok (hr14) w (SlIn.ofRow (fun _ => rfl) hw (i := 0) rfl)) ?_)
      refine WL.gd (.pl rfl rfl rfl) (hg8) ?_
      refine WL.q (Y.not (.pl rfl)) rfl ?_
      refine WL.q (Y.or (.pl rfl) (fun _ => .pl rfl)) rfl ?_
      refine WL.q (Y.move (.pl rfl)) rfl ?_
      refine WL.g (.pl rfl rfl rfl) (fun hg => Y.move (.pl rfl)) rfl ?_
      refine WL.g (.pl rfl rfl rfl) (fun hg => Y.len Try.underlying34 (.gd (hg) rfl)) rfl ?_
      refine WL.g (.pl rfl rfl rfl) (fun hg => Y.fieldAddr0 (off := 0) (ft := 3) Try.underlying25 rfl cells3 (.pl rfl)) rfl ?_
      refine WL.g (.pl rfl rfl rfl) (fun hg => Y.loadB (v := .int .i64 r1.n) Try.underlying3 rfl (.gd (hg) rfl) (i := 4) rfl (rfl)) rfl ?_
      refine WL.g (.pl rfl rfl rfl) (fun hg => Y.neq (.gd (hg) rfl) (.gd (hg) rfl)) rfl ?_
      refine WL.q (Y.or (.pl rfl) (fun h2 => .gd (eqf h2) rfl)) rfl ?_
      refine WL.nil ?_
      exact W.joinAt1 hK7 (((!r12) || (!r14)) || (!(decide (((r6.1).length : Int) = r1.n)))) (Option.some.inj hF6) (.cons rfl (.nil)) (.cons (i := 1) rfl (.cons (i := 3) rfl (.cons (i := 4) rfl (.cons (i := 5) rfl (.cons (i := 6) rfl (.cons (i := 7) rfl (.nil))))))) (fun w hw => hw.pick [4, 3, 2, 1] rfl)
    · replace hF6 := cneg hg8 hF6
      refine WL.gn (.pl rfl rfl rfl) hg8 rfl ?_
      refine WL.gn (.pl rfl rfl rfl) hg8 rfl ?_
      refine WL.gn (.pl rfl rfl rfl) hg8 rfl ?_
      refine WL.q (Y.or (b := false) (.pl rfl) (fun h2 => (gabsO hg8 h2).elim)) rfl ?_
      refine WL.q (Y.move (.pl rfl)) rfl ?_
      refine WL.g (.pl rfl rfl rfl) (fun hg => Y.move (.pl rfl)) rfl ?_
      refine WL.g (.pl rfl rfl rfl) (fun hg => Y.len Try.underlying34 (.gd (hg) rfl)) rfl ?_
      refine WL.g (.pl rfl rfl rfl) (fun hg => Y.fieldAddr0 (off := 0) (ft := 3) Try.underlying25 rfl cells3 (.pl rfl)) rfl ?_
      refine WL.g (.pl rfl rfl rfl) (fun hg => Y.loadB (v := .int .i64 r1.n) Try.underlying3 rfl (.gd (hg) rfl) (i := 3) rfl (rfl)) rfl ?_
      refine WL.g (.pl rfl rfl rfl) (fun hg => Y.neq (.gd (hg) rfl) (.gd (hg) rfl)) rfl ?_
      refine WL.q (Y.or (.pl rfl) (fun h2 => .gd (eqf h2) rfl)) rfl ?_
      refine WL.nil ?_
      exact W.joinAt1 hK7 (((!r12) || false) || (!(decide (((r6.1).length : Int) = r1.n)))) (Option.some.inj hF6) (.cons rfl (.nil)) (.cons (i := 1) rfl (.cons (i := 3) rfl (.cons (i := 4) rfl (.cons (i := 5) rfl (.cons (i := 6) rfl (.cons (i := 7) rfl (.nil))))))) (fun w hw => hw.pick [3, 2, 1, 0] rfl)
  · -- behind
    rintro v11 rfl
    refine W.cond (.pl rfl) (fun hC9 => ?_) (fun hC9 => ?_)
    · replace hF := cpos hC9 hF
      -- region 5: order.go:129
      refine W.seqR fun Q10 hQ10 => ?_
      obtain ⟨r15, hr15, hF⟩ := bnd hF
      refine WL.step (WO.callP isGo16 (.nil) rfl (fun w hw => alibkeep_orderLives_ok (hr15) w ) ?_)
      refine WL.q (Y.move (.pl rfl)) rfl ?_
      refine WL.g (.pl rfl rfl rfl) (fun hg => Y.move (.pl rfl)) rfl ?_
      refine WL.g (.pl rfl rfl rfl) (fun hg => Y.eql (.gd (hg) rfl) (.pl rfl)) rfl ?_
      refine WL.g (.pl rfl rfl rfl) (fun hg => Y.move (.pl rfl)) rfl ?_
      refine WL.g (.pl rfl rfl rfl) (fun hg => Y.eql (.gd (hg) rfl) (.pl rfl)) rfl ?_
      refine WL.g (.pl rfl rfl rfl) (fun hg => Y.eqlB Try.underlying4 (.gd (hg) rfl) (.gd (hg) rfl)) rfl ?_
      refine WL.q (Y.and (.pl rfl) (fun h2 => .gd (eqt h2) rfl)) rfl ?_
      refine WL.q (Y.assign (.pl rfl)) rfl ?_
      refine WL.next hQ10 (.cons (i := 2) rfl (.nil)) ?_
      obtain rfl := Option.some.inj hF
      refine W.retV (fn := Try.f5) (vs := [.bool (r15 && ((decide (r3.2 = 0)) == (decide (r6.2 = 0))))]) Try.results5 ⟨.tmp rfl, trivial⟩ (fun _ _ h => h) (fun w hw => ?_)
      exact hR _ _ ⟨rfl, (hw.pick [] rfl)⟩
    · replace hF := cneg hC9 hF
      refine W.skip ?_
      refine W.go hK5 (.cons (i := 1) rfl (.cons (i := 3) rfl (.cons (i := 5) rfl (.cons (i := 7) rfl (.nil))))) ?_
      -- region 6: order.go:131
      refine W.seqR fun Q11 hQ11 => ?_
      refine WL.q (Y.assign (.pl rfl)) rfl ?_
      refine WL.next hQ11 (.cons (i := 1) rfl (.cons (i := 3) rfl (.cons (i := 5) rfl (.cons (i := 7) rfl (.cons (i := 10) rfl (.nil)))))) ?_
      obtain ⟨o12, hF12, hF⟩ := bnd hF
      refine W.join1 (Em := fun (many16 : Int) => [(10, .int .i64 many16)]) (M := fun many16 => [cBx b2 25 (encRel r1), cR (eI .i64) 1 A4 c5 3 r3.1, cBx b10 25 (encRel (Rel.mk r9.1 r9.2.1))]) (I := fun many16 => (.inl many16) = o12) (.cons (i := 1) rfl (.cons (i := 3) rfl (.cons (i := 7) rfl (.nil)))) (fun K13 hK13 => ?_) ?_
      · -- up to
        -- region 7: order.go:132
        refine W.seqR fun Q14 hQ14 => ?_
        refine WL.q (Y.move (.pl rfl)) rfl ?_
        refine WL.q (Y.len Try.underlying34 (.pl rfl)) rfl ?_
        refine WL.q (Y.move (.pl rfl)) rfl ?_
        refine WL.next hQ14 (.cons (i := 1) rfl (.cons (i := 3) rfl (.cons (i := 5) rfl (.cons (i := 7) rfl (.cons (i := 10) rfl (.cons (i := 60) rfl (.cons (i := 61) rfl (.cons (i := 62) rfl (.nil))))))))) ?_
        refine W.block ?_
        refine W.loop2 (Em := fun (many17 : Int) (v18 : Int) => [(10, .int .i64 many17), (62, .int .i64 v18)]) (M := fun many17 v18 => [cBx b2 25 (encRel r1), cR (eI .i64) 1 A4 c5 3 r3.1, cR (eI .i64) 1 A7 c8 3 r6.1, cBx b10 25 (encRel (Rel.mk r9.1 r9.2.1))]) (I := fun many17 v18 k15 => iter (alibkeep_OrderDilworth_L39 N r6 r9) k15 (many17, v18) = some o12) 0 0 N (hF12) (.cons rfl (.cons rfl (.nil))) (.cons (i := 1) rfl (.cons (i := 3) rfl (.cons (i := 5) rfl (.cons (i := 7) rfl (.cons (i := 60) rfl (.cons (i := 61) rfl (.nil))))))) (fun w hw => hw.pick [0, 1, 2, 3] rfl) (fun many17 v18 k15 hI K16 hK16 => ?_)
        obtain ⟨k15, t15, rfl, hF15, hN15⟩ := iter_step hI
        -- region 8: order.go:132
        refine W.seqR fun Q17 hQ17 => ?_
        refine WL.q (Y.lss (.pl rfl) (.pl rfl)) rfl ?_
        refine WL.next hQ17 (.cons (i := 1) rfl (.cons (i := 3) rfl (.cons (i := 5) rfl (.cons (i := 7) rfl (.cons (i := 10) rfl (.cons (i := 60) rfl (.cons (i := 61) rfl (.cons (i := 62) rfl (.cons (i := 63) rfl (.nil)))))))))) ?_
        refine W.seq fun K18 hK18 => ?_
        refine W.cond (.pl rfl) (fun hC19 => ?_) (fun hC19 => ?_)
        · replace hF15 := cpos hC19 hF15
          refine W.skip ?_
          refine W.go hK18 (.cons (i := 1) rfl (.cons (i := 3) rfl (.cons (i := 5) rfl (.cons (i := 7) rfl (.cons (i := 10) rfl (.cons (i := 60) rfl (.cons (i := 61) rfl (.cons (i := 62) rfl (.nil))))))))) ?_
          obtain ⟨o20, hF20, hF15⟩ := bnd hF15
          refine W.join1 (Em := fun (many19 : Int) => [(10, .int .i64 many19)]) (M := fun many19 => [cBx b2 25 (encRel r1), cR (eI .i64) 1 A4 c5 3 r3.1, cR (eI .i64) 1 A7 c8 3 r6.1, cBx b10 25 (encRel (Rel.mk r9.1 r9.2.1))]) (I := fun many19 => (.inl many19) = o20) (.cons (i := 1) rfl (.cons (i := 3) rfl (.cons (i := 5) rfl (.cons (i := 7) rfl (.cons (i := 60) rfl (.cons (i := 61) rfl (.cons (i := 62) rfl (.nil)))))))) (fun K21 hK21 => ?_) ?_
          · -- up to
            refine W.block ?_
            -- region 9: order.go:132
            refine W.seqR fun Q22 hQ22 => ?_
            refine WL.q (Y.move (.pl rfl)) rfl ?_
            obtain ⟨x20, hx20, hF20⟩ := bnd hF20
            refine WL.q (Y.rowEl Try.underlying34 cells3 (i := 2) rfl (.pl rfl) rfl (.pl rfl) (ix_lt (hx20))) rfl ?_
            refine WL.q (Y.loadR (enc := (eI .i64)) (v := .int .i64 x20) (a := x20) (idx := v18) (j := 0) Try.underlying3 rfl (fun _ => rfl) (i := 2) rfl (.pl rfl) (ix_get (hx20)) rfl rfl) rfl ?_
            refine WL.q (Y.assign (.pl rfl)) rfl ?_
            refine WL.q (Y.assign (.pl rfl)) rfl ?_
            refine WL.next hQ22 (.cons (i := 1) rfl (.cons (i := 3) rfl (.cons (i := 5) rfl (.cons (i := 7) rfl (.cons (i := 10) rfl (.cons (i := 11) rfl (.cons (i := 12) rfl (.cons (i := 60) rfl (.cons (i := 61) rfl (.cons (i := 62) rfl (.nil))))))))))) ?_
            -- region 10: order.go:133
            refine W.seqR fun Q23 hQ23 => ?_
            refine WL.q (Y.move (.pl rfl)) rfl ?_
            refine WL.q (Y.move (.pl rfl)) rfl ?_
            obtain ⟨hk21, hF20⟩ := ckh hF20
            refine WL.q (Y.add (.pl rfl) (.pl rfl) (ok64_lt (hk21))) rfl ?_
            refine WL.q (Y.max (.pl rfl) (.pl rfl)) rfl ?_
            refine WL.q (Y.assign (.pl rfl)) rfl ?_
            refine WL.next hQ23 (.cons (i := 1) rfl (.cons (i := 3) rfl (.cons (i := 5) rfl (.cons (i := 7) rfl (.cons (i := 10) rfl (.cons (i := 11) rfl (.cons (i := 12) rfl (.cons (i := 60) rfl (.cons (i := 61) rfl (.cons (i := 62) rfl (.nil))))))))))) ?_
            -- region 11: order.go:134
            refine W.seqR fun Q24 hQ24 => ?_
            refine WL.q (Y.move (.pl rfl)) rfl ?_
            refine WL.q (Y.move (.pl rfl)) rfl ?_
            obtain ⟨hk22, hF20⟩ := ckh hF20
            refine WL.q (Y.sliceR0 Try.underlying34 cells3 (i := 2) rfl (.pl rfl) rfl (.pl rfl) (hk22)) rfl ?_
            refine WL.q (Y.len Try.underlying34 (.pl rfl)) rfl ?_
            refine WL.q (Y.move (.pl rfl)) rfl ?_
            refine WL.next hQ24 (.cons (i := 1) rfl (.cons (i := 3) rfl (.cons (i := 5) rfl (.cons (i := 7) rfl (.cons (i := 10) rfl (.cons (i := 11) rfl (.cons (i := 12) rfl (.cons (i := 60) rfl (.cons (i := 61) rfl (.cons (i := 62) rfl (.cons (i := 73) rfl (.cons (i := 74) rfl (.cons (i := 75) rfl (.nil)))))))))))))) ?_
            refine W.block ?_
            refine W.loop1 (Em := fun (v23 : Int) => [(75, .int .i64 v23)]) (M := fun v23 => [cBx b2 25 (encRel r1), cR (eI .i64) 1 A4 c5 3 r3.1, cR (eI .i64) 1 A7 c8 3 r6.1, cBx b10 25 (encRel (Rel.mk r9.1 r9.2.1))]) (I := fun v23 k25 => iter (alibkeep_OrderDilworth_L41 N r6 v18 x20 r9 many17) k25 v23 = some o20) 0 N (hF20) (.cons rfl (.nil)) (.cons (i := 1) rfl (.cons (i := 3) rfl (.cons (i := 5) rfl (.cons (i := 7) rfl (.cons (i := 10) rfl (.cons (i := 11) rfl (.cons (i := 12) rfl (.cons (i := 60) rfl (.cons (i := 61) rfl (.cons (i := 62) rfl (.cons (i := 73) rfl (.cons (i := 74) rfl (.nil))))))))))))) (fun w hw => hw.pick [0, 1, 2, 3] rfl) (fun v23 k25 hI K26 hK26 => ?_)
            obtain ⟨k25, t25, rfl, hF25, hN25⟩ := iter_step hI
            -- region 12: order.go:134
            refine W.seqR fun Q27 hQ27 => ?_
            refine WL.q (Y.lss (.pl rfl) (.pl rfl)) rfl ?_
            refine WL.next hQ27 (.cons (i := 1) rfl (.cons (i := 3) rfl (.cons (i := 5) rfl (.cons (i := 7) rfl (.cons (i := 10) rfl (.cons (i := 11) rfl (.cons (i := 12) rfl (.cons (i := 60) rfl (.cons (i := 61) rfl (.cons (i := 62) rfl (.cons (i := 73) rfl (.cons (i := 74) rfl (.cons (i := 75) rfl (.cons (i := 76) rfl (.nil))))))))))))))) ?_
            refine W.seq fun K28 hK28 => ?_
            refine W.cond (.pl rfl) (fun hC29 => ?_) (fun hC29 => ?_)
            · replace hF25 := cpos hC29 hF25
              refine W.skip ?_
              refine W.go hK28 (.cons (i := 1) rfl (.cons (i := 3) rfl (.cons (i := 5) rfl (.cons (i := 7) rfl (.cons (i := 10) rfl (.cons (i := 11) rfl (.cons (i := 12) rfl (.cons (i := 60) rfl (.cons (i := 61) rfl (.cons (i := 62) rfl (.cons (i := 73) rfl (.cons (i := 74) rfl (.cons (i := 75) rfl (.nil)))))))))))))) ?_
              refine W.seq fun K30 hK30 => ?_
              refine W.block ?_
              -- region 13: order.go:134
              refine W.seqR fun Q31 hQ31 => ?_
              refine WL.q (Y.move (.pl rfl)) rfl ?_
              obtain ⟨x24, hx24, hF25⟩ := bnd hF25
              refine WL.q (Y.viewEl0 (xs := r6.1) Try.underlying34 cells3 (i := 2) rfl (.pl rfl) (.pl rfl) (ix_lt (hx24)) (ix_lt (ix_view0 (hx24))).2) rfl ?_
              refine WL.q (Y.loadR (enc := (eI .i64)) (v := .int .i64 x24) (a := x24) (idx := v23) (j := 0) Try.underlying3 rfl (fun _ => rfl) (i := 2) rfl (.pl rfl) (ix_get (ix_view0 (hx24))) rfl rfl) rfl ?_
              refine WL.q (Y.assign (.pl rfl)) rfl ?_
              refine WL.q (Y.assign (.pl rfl)) rfl ?_
              refine WL.next hQ31 (.cons (i := 1) rfl (.cons (i := 3) rfl (.cons (i := 5) rfl (.cons (i := 7) rfl (.cons (i := 10) rfl (.cons (i := 11) rfl (.cons (i := 12) rfl (.cons (i := 13) rfl (.cons (i := 14) rfl (.cons (i := 60) rfl (.cons (i := 61) rfl (.cons (i := 62) rfl (.cons (i := 73) rfl (.cons (i := 74) rfl (.cons (i := 75) rfl (.nil)))))))))))))))) ?_
              -- region 14: order.go:135
              refine W.seqR fun Q32 hQ32 => ?_
              refine WL.q (Y.move (.pl rfl)) rfl ?_
              refine WL.q (Y.move (.pl rfl)) rfl ?_
              refine WL.q (Y.eql (.pl rfl) (.pl rfl)) rfl ?_
              refine WL.q (Y.move (.pl rfl)) rfl ?_
              refine WL.g (.pl rfl rfl rfl) (fun hg => Y.loadBA (ds := (encRel (Rel.mk r9.1 r9.2.1))) Try.underlying25 rfl cells25 (.pl rfl) (i := 3) rfl rfl subW) rfl ?_
              refine WL.g (.pl rfl rfl rfl) (fun hg => Y.move (.pl rfl)) rfl ?_
              refine WL.g (.pl rfl rfl rfl) (fun hg => Y.move (.pl rfl)) rfl ?_
              obtain ⟨r25, hr25, hF25⟩ := bnd hF25
              refine WL.gP (.pl rfl rfl rfl) isGo21 (fun hg => (.cons (.gd (hg) rfl) (.cons (.gd (hg) rfl) (.cons (.gd (hg) rfl) (.nil))))) rfl (fun hg w hw => alibref_Ahead_ok (gpos hg hr25) w ) ?_
              refine WL.g (.pl rfl rfl rfl) (fun hg => Y.not (.gd (hg) rfl)) rfl ?_
              refine WL.q (Y.and (.pl rfl) (fun h2 => .gd (eqt h2) rfl)) rfl ?_
              refine WL.q (Y.move (.pl rfl)) rfl ?_
              refine WL.g (.pl rfl rfl rfl) (fun hg => Y.loadBA (ds := (encRel (Rel.mk r9.1 r9.2.1))) Try.underlying25 rfl cells25 (.pl rfl) (i := 3) rfl rfl subW) rfl ?_
              refine WL.g (.pl rfl rfl rfl) (fun hg => Y.move (.pl rfl)) rfl ?_
              refine WL.g (.pl rfl rfl rfl) (fun hg => Y.move (.pl rfl)) rfl ?_
              obtain ⟨r26, hr26, hF25⟩ := bnd hF25
              refine WL.gP (.pl rfl rfl rfl) isGo21 (fun hg => (.cons (.gd (hg) rfl) (.cons (.gd (hg) rfl) (.cons (.gd (hg) rfl) (.nil))))) rfl (fun hg w hw => alibref_Ahead_ok (gpos hg hr26) w ) ?_
              refine WL.g (.pl rfl rfl rfl) (fun hg => Y.not (.gd (hg) rfl)) rfl ?_
              refine WL.q (Y.and (.pl rfl) (fun h2 => .gd (eqt h2) rfl)) rfl ?_
              refine WL.next hQ32 (.cons (i := 1) rfl (.cons (i := 3) rfl (.cons (i := 5) rfl (.cons (i := 7) rfl (.cons (i := 10) rfl (.cons (i := 11) rfl (.cons (i := 12) rfl (.cons (i := 60) rfl (.cons (i := 61) rfl (.cons (i := 62) rfl (.cons (i := 73) rfl (.cons (i := 74) rfl (.cons (i := 75) rfl (.cons (i := 96) rfl (.nil))))))))))))))) ?_
              refine W.cond (.pl rfl) (fun hC33 => ?_) (fun hC33 => ?_)
              · replace hF25 := cpos hC33 hF25
                -- region 15: order.go:136
                refine W.seqR fun Q34 hQ34 => ?_
                refine WL.q (Y.assign (.pl rfl)) rfl ?_
                refine WL.next hQ34 (.cons (i := 2) rfl (.nil)) ?_
                obtain rfl := Option.some.inj hF25
                obtain rfl := einr hN25
                obtain rfl := Option.some.inj hF15
                obtain rfl := einr hN15
                obtain rfl := Option.some.inj hF
                refine W.retV (fn := Try.f5) (vs := [.bool false]) Try.results5 ⟨.tmp rfl, trivial⟩ (fun _ _ h => h) (fun w hw => ?_)
                exact hR _ _ ⟨rfl, (hw.pick [] rfl)⟩
              · replace hF25 := cneg hC33 hF25
                refine W.skip ?_
                refine W.go hK30 (.cons (i := 1) rfl (.cons (i := 3) rfl (.cons (i := 5) rfl (.cons (i := 7) rfl (.cons (i := 10) rfl (.cons (i := 11) rfl (.cons (i := 12) rfl (.cons (i := 60) rfl (.cons (i := 61) rfl (.cons (i := 62) rfl (.cons (i := 73) rfl (.cons (i := 74) rfl (.cons (i := 75) rfl (.nil)))))))))))))) ?_
                -- region 16: order.go:134
                refine W.reg ?_
                obtain ⟨hk27, hF25⟩ := ckh hF25
                refine WL.q (Y.add (.pl rfl) (.pl rfl) (ok64_lt (hk27))) rfl ?_
                refine WL.q (Y.move (.pl rfl)) rfl ?_
                refine WL.nil ?_
                obtain rfl := Option.some.inj hF25
                exact W.again1 hK26 (v23 + 1) k25 hN25 (Nat.lt_succ_self _) (.cons rfl (.nil)) (.cons (i := 1) rfl (.cons (i := 3) rfl (.cons (i := 5) rfl (.cons (i := 7) rfl (.cons (i := 10) rfl (.cons (i := 11) rfl (.cons (i := 12) rfl (.cons (i := 60) rfl (.cons (i := 61) rfl (.cons (i := 62) rfl (.cons (i := 73) rfl (.cons (i := 74) rfl (.nil))))))))))))) (fun w hw => hw.pick [0, 1, 2, 3] rfl)
            · replace hF25 := cneg hC29 hF25
              refine W.exit ?_
              obtain rfl := Option.some.inj hF25
              exact W.joinAt1 hK21 (max many17 (x20 + 1)) (einr hN25) (.cons rfl (.nil)) (.cons (i := 1) rfl (.cons (i := 3) rfl (.cons (i := 5) rfl (.cons (i := 7) rfl (.cons (i := 60) rfl (.cons (i := 61) rfl (.cons (i := 62) rfl (.nil)))))))) (fun w hw => hw.pick [0, 1, 2, 3] rfl)
          · -- behind
            rintro many19 rfl
            -- region 17: order.go:132
            refine W.reg ?_
            obtain ⟨hk28, hF15⟩ := ckh hF15
            refine WL.q (Y.add (.pl rfl) (.pl rfl) (ok64_lt (hk28))) rfl ?_
            refine WL.q (Y.move (.pl rfl)) rfl ?_
            refine WL.nil ?_
            obtain rfl := Option.some.inj hF15
            exact W.again2 hK16 many19 (v18 + 1) k15 hN15 (Nat.lt_succ_self _) (.cons rfl (.cons rfl (.nil))) (.cons (i := 1) rfl (.cons (i := 3) rfl (.cons (i := 5) rfl (.cons (i := 7) rfl (.cons (i := 60) rfl (.cons (i := 61) rfl (.nil))))))) (fun w hw => hw.pick [0, 1, 2, 3] rfl)
        · replace hF15 := cneg hC19 hF15
          refine W.exit ?_
          obtain rfl := Option.some.inj hF15
          exact W.joinAt1 hK13 many17 (einr hN15) (.cons rfl (.nil)) (.cons (i := 1) rfl (.cons (i := 3) rfl (.cons (i := 7) rfl (.nil)))) (fun w hw => hw.pick [0, 1, 3] rfl)
      · -- behind
        rintro many16 rfl
        obtain ⟨o37, hF37, hF⟩ := bnd hF
        refine W.join0 (Em := []) (M := [cR (eI .i64) 1 A4 c5 3 r3.1]) (I := (.inl ()) = o37) (.cons (i := 3) rfl (.cons (i := 10) rfl (.nil))) (fun K38 hK38 => ?_) ?_
        · -- up to
          -- region 18: order.go:140
          refine W.seqR fun Q39 hQ39 => ?_
          refine WL.q (Y.move (.pl rfl)) rfl ?_
          refine WL.q (Y.len Try.underlying34 (.pl rfl)) rfl ?_
          refine WL.q (Y.move (.pl rfl)) rfl ?_
          refine WL.next hQ39 (.cons (i := 1) rfl (.cons (i := 3) rfl (.cons (i := 7) rfl (.cons (i := 10) rfl (.cons (i := 99) rfl (.cons (i := 100) rfl (.cons (i := 101) rfl (.nil)))))))) ?_
          refine W.block ?_
          refine W.loop1 (Em := fun (v29 : Int) => [(101, .int .i64 v29)]) (M := fun v29 => [cBx b2 25 (encRel r1), cR (eI .i64) 1 A4 c5 3 r3.1, cBx b10 25 (encRel (Rel.mk r9.1 r9.2.1))]) (I := fun v29 k40 => iter (alibkeep_OrderDilworth_L53 N r3 r1 r9) k40 v29 = some o37) 0 N (hF37) (.cons rfl (.nil)) (.cons (i := 1) rfl (.cons (i := 3) rfl (.cons (i := 7) rfl (.cons (i := 10) rfl (.cons (i := 99) rfl (.cons (i := 100) rfl (.nil))))))) (fun w hw => hw.pick [0, 1, 2] rfl) (fun v29 k40 hI K41 hK41 => ?_)
          obtain ⟨k40, t40, rfl, hF40, hN40⟩ := iter_step hI
          -- region 19: order.go:140
          refine W.seqR fun Q42 hQ42 => ?_
          refine WL.q (Y.lss (.pl rfl) (.pl rfl)) rfl ?_
          refine WL.next hQ42 (.cons (i := 1) rfl (.cons (i := 3) rfl (.cons (i := 7) rfl (.cons (i := 10) rfl (.cons (i := 99) rfl (.cons (i := 100) rfl (.cons (i := 101) rfl (.cons (i := 102) rfl (.nil))))))))) ?_
          refine W.seq fun K43 hK43 => ?_
          refine W.cond (.pl rfl) (fun hC44 => ?_) (fun hC44 => ?_)
          · replace hF40 := cpos hC44 hF40
            refine W.skip ?_
            refine W.go hK43 (.cons (i := 1) rfl (.cons (i := 3) rfl (.cons (i := 7) rfl (.cons (i := 10) rfl (.cons (i := 99) rfl (.cons (i := 100) rfl (.cons (i := 101) rfl (.nil)))))))) ?_
            obtain ⟨o45, hF45, hF40⟩ := bnd hF40
            refine W.join0 (Em := []) (M := [cBx b2 25 (encRel r1), cR (eI .i64) 1 A4 c5 3 r3.1, cBx b10 25 (encRel (Rel.mk r9.1 r9.2.1))]) (I := (.inl ()) = o45) (.cons (i := 1) rfl (.cons (i := 3) rfl (.cons (i := 7) rfl (.cons (i := 10) rfl (.cons (i := 99) rfl (.cons (i := 100) rfl (.cons (i := 101) rfl (.nil)))))))) (fun K46 hK46 => ?_) ?_
            · -- up to
              refine W.block ?_
              -- region 20: order.go:140
              refine W.seqR fun Q47 hQ47 => ?_
              obtain ⟨x30, hx30, hF45⟩ := bnd hF45
              refine WL.q (Y.rowEl Try.underlying34 cells3 (i := 1) rfl (.pl rfl) rfl (.pl rfl) (ix_lt (hx30))) rfl ?_
              refine WL.q (Y.loadR (enc := (eI .i64)) (v := .int .i64 x30) (a := x30) (idx := v29) (j := 0) Try.underlying3 rfl (fun _ => rfl) (i := 1) rfl (.pl rfl) (ix_get (hx30)) rfl rfl) rfl ?_
              refine WL.q (Y.assign (.pl rfl)) rfl ?_
              refine WL.next hQ47 (.cons (i := 1) rfl (.cons (i := 3) rfl (.cons (i := 7) rfl (.cons (i := 10) rfl (.cons (i := 16) rfl (.cons (i := 99) rfl (.cons (i := 100) rfl (.cons (i := 101) rfl (.nil))))))))) ?_
              -- region 21: order.go:141
              refine W.seqR fun Q48 hQ48 => ?_
              refine WL.q (Y.move (.pl rfl)) rfl ?_
              refine WL.q (Y.len Try.underlying34 (.pl rfl)) rfl ?_
              refine WL.q (Y.move (.pl rfl)) rfl ?_
              refine WL.next hQ48 (.cons (i := 1) rfl (.cons (i := 3) rfl (.cons (i := 7) rfl (.cons (i := 10) rfl (.cons (i := 16) rfl (.cons (i := 99) rfl (.cons (i := 100) rfl (.cons (i := 101) rfl (.cons (i := 105) rfl (.cons (i := 106) rfl (.cons (i := 107) rfl (.nil)))))))))))) ?_
              refine W.block ?_
              refine W.loop1 (Em := fun (v31 : Int) => [(107, .int .i64 v31)]) (M := fun v31 => [cBx b2 25 (encRel r1), cR (eI .i64) 1 A4 c5 3 r3.1, cBx b10 25 (encRel (Rel.mk r9.1 r9.2.1))]) (I := fun v31 k49 => iter (alibkeep_OrderDilworth_L55 N r3 x30 r1 r9) k49 v31 = some o45) 0 N (hF45) (.cons rfl (.nil)) (.cons (i := 1) rfl (.cons (i := 3) rfl (.cons (i := 7) rfl (.cons (i := 10) rfl (.cons (i := 16) rfl (.cons (i := 99) rfl (.cons (i := 100) rfl (.cons (i := 101) rfl (.cons (i := 105) rfl (.cons (i := 106) rfl (.nil))))))))))) (fun w hw => hw.pick [0, 1, 2] rfl) (fun v31 k49 hI K50 hK50 => ?_)
              obtain ⟨k49, t49, rfl, hF49, hN49⟩ := iter_step hI
              -- region 22: order.go:141
              refine W.seqR fun Q51 hQ51 => ?_
              refine WL.q (Y.lss (.pl rfl) (.pl rfl)) rfl ?_
              refine WL.next hQ51 (.cons (i := 1) rfl (.cons (i := 3) rfl (.cons (i := 7) rfl (.cons (i := 10) rfl (.cons (i := 16) rfl (.cons (i := 99) rfl (.cons (i := 100) rfl (.cons (i := 101) rfl (.cons (i := 105) rfl (.cons (i := 106) rfl (.cons (i := 107) rfl (.cons (i := 108) rfl (.nil))))))))))))) ?_
              refine W.seq fun K52 hK52 => ?_
              refine W.cond (.pl rfl) (fun hC53 => ?_) (fun hC53 => ?_)
              · replace hF49 := cpos hC53 hF49
                refine W.skip ?_
                refine W.go hK52 (.cons (i := 1) rfl (.cons (i := 3) rfl (.cons (i := 7) rfl (.cons (i := 10) rfl (.cons (i := 16) rfl (.cons (i := 99) rfl (.cons (i := 100) rfl (.cons (i := 101) rfl (.cons (i := 105) rfl (.cons (i := 106) rfl (.cons (i := 107) rfl (.nil)))))))))))) ?_
                refine W.seq fun K54 hK54 => ?_
                refine W.block ?_
                -- region 23: order.go:141
                refine W.seqR fun Q55 hQ55 => ?_
                obtain ⟨x32, hx32, hF49⟩ := bnd hF49
                refine WL.q (Y.rowEl Try.underlying34 cells3 (i := 1) rfl (.pl rfl) rfl (.pl rfl) (ix_lt (hx32))) rfl ?_
                refine WL.q (Y.loadR (enc := (eI .i64)) (v := .int .i64 x32) (a := x32) (idx := v31) (j := 0) Try.underlying3 rfl (fun _ => rfl) (i := 1) rfl (.pl rfl) (ix_get (hx32)) rfl rfl) rfl ?_
                refine WL.q (Y.assign (.pl rfl)) rfl ?_
                refine WL.next hQ55 (.cons (i := 1) rfl (.cons (i := 3) rfl (.cons (i := 7) rfl (.cons (i := 10) rfl (.cons (i := 16) rfl (.cons (i := 18) rfl (.cons (i := 99) rfl (.cons (i := 100) rfl (.cons (i := 101) rfl (.cons (i := 105) rfl (.cons (i := 106) rfl (.cons (i := 107) rfl (.nil))))))))))))) ?_
                -- region 24: order.go:142
                refine W.seqR fun Q56 hQ56 => ?_
                refine WL.q (Y.move (.pl rfl)) rfl ?_
                refine WL.q (Y.lss (.pl rfl) (.pl rfl)) rfl ?_
                refine WL.q (Y.move (.pl rfl)) rfl ?_
                refine WL.g (.pl rfl rfl rfl) (fun hg => Y.move (.pl rfl)) rfl ?_
                refine WL.g (.pl rfl rfl rfl) (fun hg => Y.lss (.gd (hg) rfl) (.pl rfl)) rfl ?_
                refine WL.q (Y.or (.pl rfl) (fun h2 => .gd (eqf h2) rfl)) rfl ?_
                refine WL.q (Y.move (.pl rfl)) rfl ?_
                refine WL.g (.pl rfl rfl rfl) (fun hg => Y.move (.pl rfl)) rfl ?_
                refine WL.g (.pl rfl rfl rfl) (fun hg => Y.fieldAddr0 (off := 0) (ft := 3) Try.underlying25 rfl cells3 (.pl rfl)) rfl ?_
                refine WL.g (.pl rfl rfl rfl) (fun hg => Y.loadB (v := .int .i64 r1.n) Try.underlying3 rfl (.gd (hg) rfl) (i := 0) rfl (rfl)) rfl ?_
                refine WL.g (.pl rfl rfl rfl) (fun hg => Y.geq (.gd (hg) rfl) (.gd (hg) rfl)) rfl ?_
                refine WL.q (Y.or (.pl rfl) (fun h2 => .gd (eqf h2) rfl)) rfl ?_
                refine WL.q (Y.move (.pl rfl)) rfl ?_
                refine WL.g (.pl rfl rfl rfl) (fun hg => Y.move (.pl rfl)) rfl ?_
                refine WL.g (.pl rfl rfl rfl) (fun hg => Y.fieldAddr0 (off := 0) (ft := 3) Try.underlying25 rfl cells3 (.pl rfl)) rfl ?_
                refine WL.g (.pl rfl rfl rfl) (fun hg => Y.loadB (v := .int .i64 r1.n) Try.underlying3 rfl (.gd (hg) rfl) (i := 0) rfl (rfl)) rfl ?_
                refine WL.g (.pl rfl rfl rfl) (fun hg => Y.geq (.gd (hg) rfl) (.gd (hg) rfl)) rfl ?_
                refine WL.q (Y.or (.pl rfl) (fun h2 => .gd (eqf h2) rfl)) rfl ?_
                refine WL.q (Y.move (.pl rfl)) rfl ?_
                refine WL.g (.pl rfl rfl rfl) (fun hg => Y.loadBA (ds := (encRel (Rel.mk r9.1 r9.2.1))) Try.underlying25 rfl cells25 (.pl rfl) (i := 2) rfl rfl subW) rfl ?_
                refine WL.g (.pl rfl rfl rfl) (fun hg => Y.move (.pl rfl)) rfl ?_
                refine WL.g (.pl rfl rfl rfl) (fun hg => Y.move (.pl rfl)) rfl ?_
                obtain ⟨r33, hr33, hF49⟩ := bnd hF49
                refine WL.gP (.pl rfl rfl rfl) isGo21 (fun hg => (.cons (.gd (hg) rfl) (.cons (.gd (hg) rfl) (.cons (.gd (hg) rfl) (.nil))))) rfl (fun hg w hw => alibref_Ahead_ok (gpos hg hr33) w ) ?_
                refine WL.q (Y.or (.pl rfl) (fun h2 => .gd (eqf h2) rfl)) rfl ?_
                refine WL.next hQ56 (.cons (i := 1) rfl (.cons (i := 3) rfl (.cons (i := 7) rfl (.cons (i := 10) rfl (.cons (i := 16) rfl (.cons (i := 99) rfl (.cons (i := 100) rfl (.cons (i := 101) rfl (.cons (i := 105) rfl (.cons (i := 106) rfl (.cons (i := 107) rfl (.cons (i := 134) rfl (.nil))))))))))))) ?_
                refine W.cond (.pl rfl) (fun hC57 => ?_) (fun hC57 => ?_)
                · replace hF49 := cpos hC57 hF49
                  -- region 25: order.go:143
                  refine W.seqR fun Q58 hQ58 => ?_
                  refine WL.q (Y.assign (.pl rfl)) rfl ?_
                  refine WL.next hQ58 (.cons (i := 2) rfl (.nil)) ?_
                  obtain rfl := Option.some.inj hF49
                  obtain rfl := einr hN49
                  obtain rfl := Option.some.inj hF40
                  obtain rfl := einr hN40
                  obtain rfl := Option.some.inj hF
                  refine W.retV (fn := Try.f5) (vs := [.bool false]) Try.results5 ⟨.tmp rfl, trivial⟩ (fun _ _ h => h) (fun w hw => ?_)
                  exact hR _ _ ⟨rfl, (hw.pick [] rfl)⟩
                · replace hF49 := cneg hC57 hF49
                  refine W.skip ?_
                  refine W.go hK54 (.cons (i := 1) rfl (.cons (i := 3) rfl (.cons (i := 7) rfl (.cons (i := 10) rfl (.cons (i := 16) rfl (.cons (i := 99) rfl (.cons (i := 100) rfl (.cons (i := 101) rfl (.cons (i := 105) rfl (.cons (i := 106) rfl (.cons (i := 107) rfl (.nil)))))))))))) ?_
                  -- region 26: order.go:141
                  refine W.reg ?_
                  obtain ⟨hk34, hF49⟩ := ckh hF49
                  refine WL.q (Y.add (.pl rfl) (.pl rfl) (ok64_lt (hk34))) rfl ?_
                  refine WL.q (Y.move (.pl rfl)) rfl ?_
                  refine WL.nil ?_
                  obtain rfl := Option.some.inj hF49
                  exact W.again1 hK50 (v31 + 1) k49 hN49 (Nat.lt_succ_self _) (.cons rfl (.nil)) (.cons (i := 1) rfl (.cons (i := 3) rfl (.cons (i := 7) rfl (.cons (i := 10) rfl (.cons (i := 16) rfl (.cons (i := 99) rfl (.cons (i := 100) rfl (.cons (i := 101) rfl (.cons (i := 105) rfl (.cons (i := 106) rfl (.nil))))))))))) (fun w hw => hw.pick [0, 1, 2] rfl)
              · replace hF49 := cneg hC53 hF49
                refine W.exit ?_
                obtain rfl := Option.some.inj hF49
                exact W.joinAt0 hK46  (einr hN49) (.nil) (.cons (i := 1) rfl (.cons (i := 3) rfl (.cons (i := 7) rfl (.cons (i := 10) rfl (.cons (i := 99) rfl (.cons (i := 100) rfl (.cons (i := 101) rfl (.nil)))))))) (fun w hw => hw.pick [0, 1, 2] rfl)
            · -- behind
              rintro  rfl
              -- region 27: order.go:140
              refine W.reg ?_
              obtain ⟨hk35, hF40⟩ := ckh hF40
              refine WL.q (Y.add (.pl rfl) (.pl rfl) (ok64_lt (hk35))) rfl ?_
              refine WL.q (Y.move (.pl rfl)) rfl ?_
              refine WL.nil ?_
              obtain rfl := Option.some.inj hF40
              exact W.again1 hK41 (v29 + 1) k40 hN40 (Nat.lt_succ_self _) (.cons rfl (.nil)) (.cons (i := 1) rfl (.cons (i := 3) rfl (.cons (i := 7) rfl (.cons (i := 10) rfl (.cons (i := 99) rfl (.cons (i := 100) rfl (.nil))))))) (fun w hw => hw.pick [0, 1, 2] rfl)
          · replace hF40 := cneg hC44 hF40
            refine W.exit ?_
            obtain rfl := Option.some.inj hF40
            exact W.joinAt0 hK38  (einr hN40) (.nil) (.cons (i := 3) rfl (.cons (i := 10) rfl (.nil))) (fun w hw => hw.pick [1] rfl)
        · -- behind
          rintro  rfl
          -- region 28: order.go:147
          refine W.seqR fun Q61 hQ61 => ?_
          refine WL.q (Y.move (.pl rfl)) rfl ?_
          refine WL.q (Y.len Try.underlying34 (.pl rfl)) rfl ?_
          refine WL.q (Y.move (.pl rfl)) rfl ?_
          refine WL.q (Y.eql (.pl rfl) (.pl rfl)) rfl ?_
          refine WL.q (Y.assign (.pl rfl)) rfl ?_
          refine WL.next hQ61 (.cons (i := 2) rfl (.nil)) ?_
          obtain rfl := Option.some.inj hF
          refine W.retV (fn := Try.f5) (vs := [.bool (decide (((r3.1).length : Int) = many16))]) Try.results5 ⟨.tmp rfl, trivial⟩ (fun _ _ h => h) (fun w hw => ?_)
          exact hR _ _ ⟨rfl, (hw.pick [] rfl)⟩

def order_longest_L171 (N : Nat) (c1 : Rel) (v10 : Int) : ((List Int) × Int) → Option (((List Int) × Int) ⊕ (List Int))
  | (out14, v15) =>
    cond (decide (v15 < c1.n))
      (bd (order_has N c1 v10 v15) fun (r16 : Bool) =>
      cond r16
        (bd (ix out14 v10) fun (x17 : Int) =>
        bd (ix out14 v15) fun (x18 : Int) =>
        ck (ok64 (x18 + 1)) <|
        bd (ix out14 v10) fun (x20 : Int) =>
        ck (ok64 (v15 + 1)) <|
        some (.inl ((out14.set v10.toNat (max x17 (x18 + 1))), (v15 + 1))))
        (ck (ok64 (v15 + 1)) <|
        some (.inl (out14, (v15 + 1)))))
      (some (.inr out14))

def order_longest_L169 (N : Nat) (c1 : Rel) : ((List Int) × Int) → Option (((List Int) × Int) ⊕ (List Int))
  | (out9, v10) =>
    cond (decide (v10 < c1.n))
      (bd (α := (List Int)) (bd (ix out9 v10) fun (x12 : Int) =>
        bd (ix out9 v10) fun (x13 : Int) =>
        iter (order_longest_L171 N c1 v10) N ((out9.set v10.toNat (max x12 1)), 0)) <|
      fun (out11 : (List Int)) => 
        ck (ok64 (v10 + 1)) <|
        some (.inl (out11, (v10 + 1))))
      (some (.inr out9))

def order_longest_L157 (N : Nat) (c1 : Rel) : ((List Int) × Int) → Option (((List Int) × Int) ⊕ (List Int))
  | (out6, v7) =>
    cond (decide (v7 < c1.n))
      (bd (α := (List Int)) (iter (order_longest_L169 N c1) N (out6, 0)) <|
      fun (out8 : (List Int)) => 
        ck (ok64 (v7 + 1)) <|
        some (.inl (out8, (v7 + 1))))
      (some (.inr out6))

def order_longest (N : Nat) (c1 : Rel) : Option (List Int) :=
  ck (mkB 8 c1.n) <|
  bd (α := (List Int)) (iter (order_longest_L157 N c1) N ((List.replicate c1.n.toNat (0 : Int)), 0)) <|
  fun (out5 : (List Int)) => 
    some out5

theorem order_longest_ok {N : Nat} {c1 : Rel} {res : (List Int)} (hF : order_longest N c1 = some res) (w : World) :
    Made Try.prog 44 [.agg (encRel c1).toArray] w (fun g : Option Addr => .slice g (res).length c1.n.toNat) (fun g => [cR (eI .i64) 1 g c1.n.toNat 3 res]) (fun _ => True) := by
  refine W.enter (n := 52) Try.func44 rfl rfl Sub.refl (by simp) (St.start w) fun R hR => ?_
  unfold order_longest at hF
  -- region 0: order.go:114
  refine W.seqR fun Q1 hQ1 => ?_
  refine WL.step (WO.boxA (.pl rfl) rfl fun b2 => ?_)
  refine WL.q (Y.assign (.pl rfl)) rfl ?_
  refine WL.next hQ1 (.cons (i := 1) rfl (.nil)) ?_
  -- region 1: order.go:115
  refine W.seqR fun Q2 hQ2 => ?_
  refine WL.q (Y.fieldAddr0 (off := 0) (ft := 3) Try.underlying25 rfl cells3 (.pl rfl)) rfl ?_
  refine WL.q (Y.loadB (v := .int .i64 c1.n) Try.underlying3 rfl (.pl rfl) (i := 0) rfl (rfl)) rfl ?_
  obtain ⟨hk4, hF⟩ := ckh hF
  refine WL.step (WO.makeC (enc := (eI .i64)) (z := 0) Try.underlying34 mka3 rfl (.pl rfl) (hk4) rfl fun b3 => ?_)
  refine WL.q (Y.assign (.pl rfl)) rfl ?_
  refine WL.next hQ2 (.cons (i := 1) rfl (.cons (i := 3) rfl (.nil))) ?_
  obtain ⟨o3, hF3, hF⟩ := bnd hF
  refine W.join1 (Em := fun (out5 : (List Int)) => [(3, .slice (some ⟨b3, 0, none⟩) (out5).length c1.n.toNat)]) (M := fun out5 => [cR (eI .i64) 1 (some ⟨b3, 0, none⟩) c1.n.toNat 3 out5]) (I := fun out5 => out5 = o3) (.nil) (fun K4 hK4 => ?_) ?_
  · -- up to
    -- region 2: order.go:116
    refine W.seqR fun Q5 hQ5 => ?_
    refine WL.q (Y.fieldAddr0 (off := 0) (ft := 3) Try.underlying25 rfl cells3 (.pl rfl)) rfl ?_
    refine WL.q (Y.loadB (v := .int .i64 c1.n) Try.underlying3 rfl (.pl rfl) (i := 1) rfl (rfl)) rfl ?_
    refine WL.q (Y.move (.pl rfl)) rfl ?_
    refine WL.next hQ5 (.cons (i := 1) rfl (.cons (i := 3) rfl (.cons (i := 10) rfl (.cons (i := 11) rfl (.nil))))) ?_
    refine W.block ?_
    refine W.loop2 (Em := fun (out6 : (List Int)) (v7 : Int) => [(3, .slice (some ⟨b3, 0, none⟩) (out6).length c1.n.toNat), (11, .int .i64 v7)]) (M := fun out6 v7 => [cBx b2 25 (encRel c1), cR (eI .i64) 1 (some ⟨b3, 0, none⟩) c1.n.toNat 3 out6]) (I := fun out6 v7 k6 => iter (order_longest_L157 N c1) k6 (out6, v7) = some o3) (List.replicate c1.n.toNat (0 : Int)) 0 N (hF3) (.cons rfl (.cons rfl (.nil))) (.cons (i := 1) rfl (.cons (i := 10) rfl (.nil))) (fun w hw => hw.pick [1, 0] rfl) (fun out6 v7 k6 hI K7 hK7 => ?_)
    obtain ⟨k6, t6, rfl, hF6, hN6⟩ := iter_step hI
    -- region 3: order.go:116
    refine W.seqR fun Q8 hQ8 => ?_
    refine WL.q (Y.lss (.pl rfl) (.pl rfl)) rfl ?_
    refine WL.next hQ8 (.cons (i := 1) rfl (.cons (i := 3) rfl (.cons (i := 10) rfl (.cons (i := 11) rfl (.cons (i := 12) rfl (.nil)))))) ?_
    refine W.seq fun K9 hK9 => ?_
    refine W.cond (.pl rfl) (fun hC10 => ?_) (fun hC10 => ?_)
    · replace hF6 := cpos hC10 hF6
      refine W.skip ?_
      refine W.go hK9 (.cons (i := 1) rfl (.cons (i := 3) rfl (.cons (i := 10) rfl (.cons (i := 11) rfl (.nil))))) ?_
      obtain ⟨o11, hF11, hF6⟩ := bnd hF6
      refine W.join1 (Em := fun (out8 : (List Int)) => [(3, .slice (some ⟨b3, 0, none⟩) (out8).length c1.n.toNat)]) (M := fun out8 => [cBx b2 25 (encRel c1), cR (eI .i64) 1 (some ⟨b3, 0, none⟩) c1.n.toNat 3 out8]) (I := fun out8 => out8 = o11) (.cons (i := 1) rfl (.cons (i := 10) rfl (.cons (i := 11) rfl (.nil)))) (fun K12 hK12 => ?_) ?_
      · -- up to
        refine W.block ?_
        -- region 4: order.go:117
        refine W.seqR fun Q13 hQ13 => ?_
        refine WL.q (Y.fieldAddr0 (off := 0) (ft := 3) Try.underlying25 rfl cells3 (.pl rfl)) rfl ?_
        refine WL.q (Y.loadB (v := .int .i64 c1.n) Try.underlying3 rfl (.pl rfl) (i := 0) rfl (rfl)) rfl ?_
        refine WL.q (Y.move (.pl rfl)) rfl ?_
        refine WL.next hQ13 (.cons (i := 1) rfl (.cons (i := 3) rfl (.cons (i := 10) rfl (.cons (i := 11) rfl (.cons (i := 14) rfl (.cons (i := 15) rfl (.nil))))))) ?_
        refine W.block ?_
        refine W.loop2 (Em := fun (out9 : (List Int)) (v10 : Int) => [(3, .slice (some ⟨b3, 0, none⟩) (out9).length c1.n.toNat), (15, .int .i64 v10)]) (M := fun out9 v10 => [cBx b2 25 (encRel c1), cR (eI .i64) 1 (some ⟨b3, 0, none⟩) c1.n.toNat 3 out9]) (I := fun out9 v10 k14 => iter (order_longest_L169 N c1) k14 (out9, v10) = some o11) out6 0 N (hF11) (.cons rfl (.cons rfl (.nil))) (.cons (i := 1) rfl (.cons (i := 10) rfl (.cons (i := 11) rfl (.cons (i := 14) rfl (.nil))))) (fun w hw => hw.pick [0, 1] rfl) (fun out9 v10 k14 hI K15 hK15 => ?_)
        obtain ⟨k14, t14, rfl, hF14, hN14⟩ := iter_step hI
        -- region 5: order.go:117
        refine W.seqR fun Q16 hQ16 => ?_
        refine WL.q (Y.lss (.pl rfl) (.pl rfl)) rfl ?_
        refine WL.next hQ16 (.cons (i := 1) rfl (.cons (i := 3) rfl (.cons (i := 10) rfl (.cons (i := 11) rfl (.cons (i := 14) rfl (.cons (i := 15) rfl (.cons (i := 16) rfl (.nil)))))))) ?_
        refine W.seq fun K17 hK17 => ?_
        refine W.cond (.pl rfl) (fun hC18 => ?_) (fun hC18 => ?_)
        · replace hF14 := cpos hC18 hF14
          refine W.skip ?_
          refine W.go hK17 (.cons (i := 1) rfl (.cons (i := 3) rfl (.cons (i := 10) rfl (.cons (i := 11) rfl (.cons (i := 14) rfl (.cons (i := 15) rfl (.nil))))))) ?_
          obtain ⟨o19, hF19, hF14⟩ := bnd hF14
          refine W.join1 (Em := fun (out11 : (List Int)) => [(3, .slice (some ⟨b3, 0, none⟩) (out11).length c1.n.toNat)]) (M := fun out11 => [cBx b2 25 (encRel c1), cR (eI .i64) 1 (some ⟨b3, 0, none⟩) c1.n.toNat 3 out11]) (I := fun out11 => out11 = o19) (.cons (i := 1) rfl (.cons (i := 10) rfl (.cons (i := 11) rfl (.cons (i := 14) rfl (.cons (i := 15) rfl (.nil)))))) (fun K20 hK20 => ?_) ?_
          · -- up to
            refine W.block ?_
            -- region 6: order.go:117
            refine W.seqR fun Q21 hQ21 => ?_
            refine WL.q (Y.move (.pl rfl)) rfl ?_
            refine WL.q (Y.assign (.pl rfl)) rfl ?_
            refine WL.next hQ21 (.cons (i := 1) rfl (.cons (i := 3) rfl (.cons (i := 4) rfl (.cons (i := 10) rfl (.cons (i := 11) rfl (.cons (i := 14) rfl (.cons (i := 15) rfl (.nil)))))))) ?_
            -- region 7: order.go:118
            refine W.seqR fun Q22 hQ22 => ?_
            refine WL.q (Y.move (.pl rfl)) rfl ?_
            refine WL.q (Y.move (.pl rfl)) rfl ?_
            refine WL.q (Y.move (.pl rfl)) rfl ?_
            refine WL.q (Y.move (.pl rfl)) rfl ?_
            obtain ⟨x12, hx12, hF19⟩ := bnd hF19
            refine WL.q (Y.litEl (xs := out9) Try.underlying34 cells3 (.pl rfl) rfl (.pl rfl) (ix_lt (hx12))) rfl ?_
            refine WL.q (Y.loadR (enc := (eI .i64)) (v := .int .i64 x12) (a := x12) (idx := v10) (j := 0) Try.underlying3 rfl (fun _ => rfl) (i := 1) rfl (.pl rfl) (ix_get (hx12)) rfl rfl) rfl ?_
            refine WL.q (Y.max (.pl rfl) (.pl rfl)) rfl ?_
            obtain ⟨x13, hx13, hF19⟩ := bnd hF19
            refine WL.q (Y.litEl (xs := out9) Try.underlying34 cells3 (.pl rfl) rfl (.pl rfl) (ix_lt (hx13))) rfl ?_
            refine WL.step (WO.storeS (enc := (eI .i64)) (a := x13) (a' := (max x12 1)) (idx := v10) (j := 0) cells3 (.pl rfl) (.pl rfl) rfl (fun _ => rfl) (i := 1) rfl (ix_get (hx13)) rfl (by decide) rfl ?_)
            refine WL.next hQ22 (.cons (i := 1) rfl (.cons (i := 3) rfl (.cons (i := 4) rfl (.cons (i := 10) rfl (.cons (i := 11) rfl (.cons (i := 14) rfl (.cons (i := 15) rfl (.nil)))))))) ?_
            -- region 8: order.go:119
            refine W.seqR fun Q23 hQ23 => ?_
            refine WL.q (Y.fieldAddr0 (off := 0) (ft := 3) Try.underlying25 rfl cells3 (.pl rfl)) rfl ?_
            refine WL.q (Y.loadB (v := .int .i64 c1.n) Try.underlying3 rfl (.pl rfl) (i := 0) rfl (rfl)) rfl ?_
            refine WL.q (Y.move (.pl rfl)) rfl ?_
            refine WL.next hQ23 (.cons (i := 1) rfl (.cons (i := 3) rfl (.cons (i := 4) rfl (.cons (i := 10) rfl (.cons (i := 11) rfl (.cons (i := 14) rfl (.cons (i := 15) rfl (.cons (i := 27) rfl (.cons (i := 28) rfl (.nil)))))))))) ?_
            refine W.block ?_
            refine W.loop2 (Em := fun (out14 : (List Int)) (v15 : Int) => [(3, .slice (some ⟨b3, 0, none⟩) (out14).length c1.n.toNat), (28, .int .i64 v15)]) (M := fun out14 v15 => [cBx b2 25 (encRel c1), cR (eI .i64) 1 (some ⟨b3, 0, none⟩) c1.n.toNat 3 out14]) (I := fun out14 v15 k24 => iter (order_longest_L171 N c1 v10) k24 (out14, v15) = some o19) (out9.set v10.toNat (max x12 1)) 0 N (hF19) (.cons (eqSl (by simp)) (.cons rfl (.nil))) (.cons (i := 1) rfl (.cons (i := 4) rfl (.cons (i := 10) rfl (.cons (i := 11) rfl (.cons (i := 14) rfl (.cons (i := 15) rfl (.cons (i := 27) rfl (.nil)))))))) (fun w hw => hw.pick [0, 1] rfl) (fun out14 v15 k24 hI K25 hK25 => ?_)
            obtain ⟨k24, t24, rfl, hF24, hN24⟩ := iter_step hI
            -- region 9: order.go:119
            refine W.seqR fun Q26 hQ26 => ?_
            refine WL.q (Y.lss (.pl rfl) (.pl rfl)) rfl ?_
            refine WL.next hQ26 (.cons (i := 1) rfl (.cons (i := 3) rfl (.cons (i := 4) rfl (.cons (i := 10) rfl (.cons (i := 11) rfl (.cons (i := 14) rfl (.cons (i := 15) rfl (.cons (i := 27) rfl (.cons (i := 28) rfl (.cons (i := 29) rfl (.nil))))))))))) ?_
            refine W.seq fun K27 hK27 => ?_
            refine W.cond (.pl rfl) (fun hC28 => ?_) (fun hC28 => ?_)
            · replace hF24 := cpos hC28 hF24
              refine W.skip ?_
              refine W.go hK27 (.cons (i := 1) rfl (.cons (i := 3) rfl (.cons (i := 4) rfl (.cons (i := 10) rfl (.cons (i := 11) rfl (.cons (i := 14) rfl (.cons (i := 15) rfl (.cons (i := 27) rfl (.cons (i := 28) rfl (.nil)))))))))) ?_
              refine W.seq fun K29 hK29 => ?_
              refine W.block ?_
              -- region 10: order.go:119
              refine W.seqR fun Q30 hQ30 => ?_
              refine WL.q (Y.move (.pl rfl)) rfl ?_
              refine WL.q (Y.assign (.pl rfl)) rfl ?_
              refine WL.next hQ30 (.cons (i := 1) rfl (.cons (i := 3) rfl (.cons (i := 4) rfl (.cons (i := 5) rfl (.cons (i := 10) rfl (.cons (i := 11) rfl (.cons (i := 14) rfl (.cons (i := 15) rfl (.cons (i := 27) rfl (.cons (i := 28) rfl (.nil))))))))))) ?_
              -- region 11: order.go:120
              refine W.seqR fun Q31 hQ31 => ?_
              refine WL.q (Y.loadBA (ds := (encRel c1)) Try.underlying25 rfl cells25 (.pl rfl) (i := 0) rfl rfl subW) rfl ?_
              refine WL.q (Y.move (.pl rfl)) rfl ?_
              refine WL.q (Y.move (.pl rfl)) rfl ?_
              obtain ⟨r16, hr16, hF24⟩ := bnd hF24
              refine WL.step (WO.callP isGo45 (.cons (.pl rfl) (.cons (.pl rfl) (.cons (.pl rfl) (.nil)))) rfl (fun w hw => order_has_ok (hr16) w ) ?_)
              refine WL.next hQ31 (.cons (i := 1) rfl (.cons (i := 3) rfl (.cons (i := 4) rfl (.cons (i := 5) rfl (.cons (i := 10) rfl (.cons (i := 11) rfl (.cons (i := 14) rfl (.cons (i := 15) rfl (.cons (i := 27) rfl (.cons (i := 28) rfl (.cons (i := 34) rfl (.nil)))))))))))) ?_
              refine W.cond (.pl rfl) (fun hC32 => ?_) (fun hC32 => ?_)
              · replace hF24 := cpos hC32 hF24
                -- region 12: order.go:121
                refine W.regT 13 (by kernel_rfl) (by kernel_rfl) ?_
                refine WS.q (Y.move (.pl rfl)) rfl ?_
                refine WS.q (Y.move (.pl rfl)) rfl ?_
                refine WS.q (Y.move (.pl rfl)) rfl ?_
                refine WS.q (Y.move (.pl rfl)) rfl ?_
                obtain ⟨x17, hx17, hF24⟩ := bnd hF24
                refine WS.q (Y.litEl (xs := out14) Try.underlying34 cells3 (.pl rfl) rfl (.pl rfl) (ix_lt (hx17))) rfl ?_
                refine WS.q (Y.loadR (enc := (eI .i64)) (v := .int .i64 x17) (a := x17) (idx := v10) (j := 0) Try.underlying3 rfl (fun _ => rfl) (i := 1) rfl (.pl rfl) (ix_get (hx17)) rfl rfl) rfl ?_
                refine WS.q (Y.move (.pl rfl)) rfl ?_
                refine WS.q (Y.move (.pl rfl)) rfl ?_
                obtain ⟨x18, hx18, hF24⟩ := bnd hF24
                refine WS.q (Y.litEl (xs := out14) Try.underlying34 cells3 (.pl rfl) rfl (.pl rfl) (ix_lt (hx18))) rfl ?_
                refine WS.q (Y.loadR (enc := (eI .i64)) (v := .int .i64 x18) (a := x18) (idx := v15) (j := 0) Try.underlying3 rfl (fun _ => rfl) (i := 1) rfl (.pl rfl) (ix_get (hx18)) rfl rfl) rfl ?_
                obtain ⟨hk19, hF24⟩ := ckh hF24
                refine WS.q (Y.add (.pl rfl) (.pl rfl) (ok64_lt (hk19))) rfl ?_
                refine WS.q (Y.max (.pl rfl) (.pl rfl)) rfl ?_
                obtain ⟨x20, hx20, hF24⟩ := bnd hF24
                refine WS.q (Y.litEl (xs := out14) Try.underlying34 cells3 (.pl rfl) rfl (.pl rfl) (ix_lt (hx20))) rfl ?_
                refine WS.tail ?_
                refine WL.step (WO.storeS (enc := (eI .i64)) (a := x20) (a' := (max x17 (x18 + 1))) (idx := v10) (j := 0) cells3 (.pl rfl) (.pl rfl) rfl (fun _ => rfl) (i := 1) rfl (ix_get (hx20)) rfl (by decide) rfl ?_)
                refine WL.nil ?_
                refine W.go hK29 (.cons (i := 1) rfl (.cons (i := 3) rfl (.cons (i := 4) rfl (.cons (i := 10) rfl (.cons (i := 11) rfl (.cons (i := 14) rfl (.cons (i := 15) rfl (.cons (i := 27) rfl (.cons (i := 28) rfl (.nil)))))))))) ?_
                -- region 13: order.go:119
                refine W.reg ?_
                obtain ⟨hk21, hF24⟩ := ckh hF24
                refine WL.q (Y.add (.pl rfl) (.pl rfl) (ok64_lt (hk21))) rfl ?_
                refine WL.q (Y.move (.pl rfl)) rfl ?_
                refine WL.nil ?_
                obtain rfl := Option.some.inj hF24
                exact W.again2 hK25 (out14.set v10.toNat (max x17 (x18 + 1))) (v15 + 1) k24 hN24 (Nat.lt_succ_self _) (.cons (eqSl (by simp)) (.cons rfl (.nil))) (.cons (i := 1) rfl (.cons (i := 4) rfl (.cons (i := 10) rfl (.cons (i := 11) rfl (.cons (i := 14) rfl (.cons (i := 15) rfl (.cons (i := 27) rfl (.nil)))))))) (fun w hw => hw.pick [0, 1] rfl)
              · replace hF24 := cneg hC32 hF24
                refine W.skip ?_
                refine W.go hK29 (.cons (i := 1) rfl (.cons (i := 3) rfl (.cons (i := 4) rfl (.cons (i := 10) rfl (.cons (i := 11) rfl (.cons (i := 14) rfl (.cons (i := 15) rfl (.cons (i := 27) rfl (.cons (i := 28) rfl (.nil)))))))))) ?_
                -- region 13: order.go:119
                refine W.reg ?_
                obtain ⟨hk22, hF24⟩ := ckh hF24
                refine WL.q (Y.add (.pl rfl) (.pl rfl) (ok64_lt (hk22))) rfl ?_
                refine WL.q (Y.move (.pl rfl)) rfl ?_
                refine WL.nil ?_
                obtain rfl := Option.some.inj hF24
                exact W.again2 hK25 out14 (v15 + 1) k24 hN24 (Nat.lt_succ_self _) (.cons rfl (.cons rfl (.nil))) (.cons (i := 1) rfl (.cons (i := 4) rfl (.cons (i := 10) rfl (.cons (i := 11) rfl (.cons (i := 14) rfl (.cons (i := 15) rfl (.cons (i := 27) rfl (.nil)))))))) (fun w hw => hw.pick [0, 1] rfl)
            · replace hF24 := cneg hC28 hF24
              refine W.exit ?_
              obtain rfl := Option.some.inj hF24
              exact W.joinAt1 hK20 out14 (einr hN24) (.cons rfl (.nil)) (.cons (i := 1) rfl (.cons (i := 10) rfl (.cons (i := 11) rfl (.cons (i := 14) rfl (.cons (i := 15) rfl (.nil)))))) (fun w hw => hw.pick [0, 1] rfl)
          · -- behind
            rintro out11 rfl
            -- region 14: order.go:117
            refine W.reg ?_
            obtain ⟨hk23, hF14⟩ := ckh hF14
            refine WL.q (Y.add (.pl rfl) (.pl rfl) (ok64_lt (hk23))) rfl ?_
            refine WL.q (Y.move (.pl rfl)) rfl ?_
            refine WL.nil ?_
            obtain rfl := Option.some.inj hF14
            exact W.again2 hK15 out11 (v10 + 1) k14 hN14 (Nat.lt_succ_self _) (.cons rfl (.cons rfl (.nil))) (.cons (i := 1) rfl (.cons (i := 10) rfl (.cons (i := 11) rfl (.cons (i := 14) rfl (.nil))))) (fun w hw => hw.pick [0, 1] rfl)
        · replace hF14 := cneg hC18 hF14
          refine W.exit ?_
          obtain rfl := Option.some.inj hF14
          exact W.joinAt1 hK12 out9 (einr hN14) (.cons rfl (.nil)) (.cons (i := 1) rfl (.cons (i := 10) rfl (.cons (i := 11) rfl (.nil)))) (fun w hw => hw.pick [0, 1] rfl)
      · -- behind
        rintro out8 rfl
        -- region 15: order.go:116
        refine W.reg ?_
        obtain ⟨hk24, hF6⟩ := ckh hF6
        refine WL.q (Y.add (.pl rfl) (.pl rfl) (ok64_lt (hk24))) rfl ?_
        refine WL.q (Y.move (.pl rfl)) rfl ?_
        refine WL.nil ?_
        obtain rfl := Option.some.inj hF6
        exact W.again2 hK7 out8 (v7 + 1) k6 hN6 (Nat.lt_succ_self _) (.cons rfl (.cons rfl (.nil))) (.cons (i := 1) rfl (.cons (i := 10) rfl (.nil))) (fun w hw => hw.pick [0, 1] rfl)
    · replace hF6 := cneg hC10 hF6
      refine W.exit ?_
      obtain rfl := Option.some.inj hF6
      exact W.joinAt1 hK4 out6 (einr hN6) (.cons rfl (.nil)) (.nil) (fun w hw => hw.pick [1] rfl)
  · -- behind
    rintro out5 rfl
    -- region 16: order.go:126
    refine W.seqR fun Q38 hQ38 => ?_
    refine WL.q (Y.move (.pl rfl)) rfl ?_
    refine WL.q (Y.assign (.pl rfl)) rfl ?_
    refine WL.next hQ38 (.cons (i := 2) rfl (.nil)) ?_
    obtain rfl := Option.some.inj hF
    refine W.retV (fn := Try.f44) (vs := [.slice (some ⟨b3, 0, none⟩) (out5).length c1.n.toNat]) Try.results44 ⟨.tmp rfl, trivial⟩ (fun _ _ h => h) (fun w hw => ?_)
    exact hR _ _ ⟨(some ⟨b3, 0, none⟩), trivial, rfl, (hw.pick [0] rfl)⟩

def order_Chain_L17 (N : Nat) (r5 : (List Int)) : (Int × Int) → Option ((Int × Int) ⊕ Int)
  | (left8, v9) =>
    cond (decide (v9 < ((r5).length : Int)))
      (bd (ix r5 v9) fun (x10 : Int) =>
      ck (ok64 (v9 + 1)) <|
      some (.inl ((max left8 x10), (v9 + 1))))
      (some (.inr left8))

def order_Chain_L31 (N : Nat) (r3 : (Int × (List Int) × Int)) (r5 : (List Int)) (left18 : Int) (out17 : (List Int)) : Int → Option (Int ⊕ (List Int))
  | v22 =>
    cond (decide (v22 < r3.1))
      (bd (ix r5 v22) fun (x23 : Int) =>
      ck (!(((decide (x23 = left18)) == true) && ((decide (((out17).length : Int) = 0)) == false)) || (ok64 (((out17).length : Int) - 1))) <|
      bd ((cond (((decide (x23 = left18)) == true) && ((decide (((out17).length : Int) = 0)) == false)) (ix out17 (((out17).length : Int) - 1)) (some 0))) fun (x25 : Int) =>
      bd ((cond (((decide (x23 = left18)) == true) && ((decide (((out17).length : Int) = 0)) == false)) (order_has N (Rel.mk r3.1 r3.2.1) x25 v22) (some false))) fun (r26 : Bool) =>
      cond ((decide (x23 = left18)) && ((decide (((out17).length : Int) = 0)) || r26))
        (ck (limB 8 ((out17).length + (([v22] : List Int)).length)) <|
        some (.inr (out17 ++ ([v22] : List Int))))
        (ck (ok64 (v22 + 1)) <|
        some (.inl (v22 + 1))))
      (some (.inr out17))

def order_Chain_L29 (N : Nat) (r3 : (Int × (List Int) × Int)) (r5 : (List Int)) : ((List Int) × Int) → Option (((List Int) × Int) ⊕ (List Int))
  | (out17, left18) =>
    cond (decide (0 < left18))
      (bd (α := (List Int)) (iter (order_Chain_L31 N r3 r5 left18 out17) N 0) <|
      fun (out21 : (List Int)) => 
        ck (ok64 (left18 - 1)) <|
        some (.inl (out21, (left18 - 1))))
      (some (.inr out17))

def order_Chain (N : Nat) (r1 : Rel) : Option ((List Int) × Int) :=
  bd (order_acyclic N r1) fun (r3 : (Int × (List Int) × Int)) =>
  cond (!(decide (r3.2.2 = 0)))
    (some ([], r3.2.2))
    (bd (order_longest N (Rel.mk r3.1 r3.2.1)) fun (r5 : (List Int)) =>
    bd (α := Int) (iter (order_Chain_L17 N r5) N (0, 0)) <|
    fun (left7 : Int) => 
      bd (α := (List Int)) (iter (order_Chain_L29 N r3 r5) N ([], left7)) <|
      fun (out14 : (List Int)) => 
        some (out14, 0))

theorem order_Chain_ok {N : Nat} {r1 : Rel} {res : ((List Int) × Int)} (hF : order_Chain N r1 = some res) (w : World) :
    Made Try.prog 22 [.agg (encRel r1).toArray] w (fun g : (Option Addr × Nat) => .tuple #[.slice g.1 (res.1).length g.2, .int .i64 res.2]) (fun g => [cR (eI .i64) 1 g.1 g.2 3 res.1]) (fun _ => True) := by
  refine W.enter (n := 69) Try.func22 rfl rfl Sub.refl (by simp) (St.start w) fun R hR => ?_
  unfold order_Chain at hF
  -- region 0: order.go:130
  refine W.seqR fun Q1 hQ1 => ?_
  refine WL.step (WO.boxA (.pl rfl) rfl fun b2 => ?_)
  refine WL.q (Y.assign (.pl rfl)) rfl ?_
  refine WL.q (Y.assign (.pl rfl)) rfl ?_
  refine WL.next hQ1 (.cons (i := 1) rfl (.nil)) ?_
  -- region 1: order.go:131
  refine W.seqR fun Q2 hQ2 => ?_
  refine WL.q (Y.loadBA (ds := (encRel r1)) Try.underlying25 rfl cells25 (.pl rfl) (i := 0) rfl rfl subW) rfl ?_
  obtain ⟨r3, hr3, hF⟩ := bnd hF
  refine WL.step (WO.callP isGo40 (.cons (.pl rfl) (.nil)) rfl (fun w hw => order_acyclic_ok (hr3) w ) ?_)
  refine WL.q (Y.move (.pl rfl)) rfl ?_
  refine WL.q (Y.extract (.pl rfl) rfl) rfl ?_
  refine WL.q (Y.extract (.pl rfl) rfl) rfl ?_
  refine WL.step (WO.alloc (cs := (encRel (Rel.mk 0 [])).toArray) zero25 rfl rfl fun b4 => ?_)
  refine WL.step (WO.storeBA (ds := (encRel (Rel.mk r3.1 r3.2.1))) (cs' := (encRel (Rel.mk r3.1 r3.2.1))) cells25 (.pl rfl) (.pl rfl) rfl (oneRel _) (i := 0) rfl (lel (o := 0) (l := 13) (m := 13) (by decide) rfl rfl) (putW rfl) ?_)
  refine WL.q (Y.assign (.pl rfl)) rfl ?_
  refine WL.next hQ2 (.cons (i := 4) rfl (.cons (i := 5) rfl (.nil))) ?_
  refine W.seq fun K3 hK3 => ?_
  -- region 2: order.go:132
  refine W.seqR fun Q4 hQ4 => ?_
  refine WL.q (Y.move (.pl rfl)) rfl ?_
  refine WL.q (Y.neq (.pl rfl) (.pl rfl)) rfl ?_
  refine WL.next hQ4 (.cons (i := 4) rfl (.cons (i := 5) rfl (.cons (i := 18) rfl (.nil)))) ?_
  refine W.cond (.pl rfl) (fun hC5 => ?_) (fun hC5 => ?_)
  · replace hF := cpos hC5 hF
    -- region 3: order.go:133
    refine W.seqR fun Q6 hQ6 => ?_
    refine WL.q (Y.move (.pl rfl)) rfl ?_
    refine WL.q (Y.assign (.pl rfl)) rfl ?_
    refine WL.q (Y.assign (.pl rfl)) rfl ?_
    refine WL.next hQ6 (.cons (i := 2) rfl (.cons (i := 3) rfl (.nil))) ?_
    obtain rfl := Option.some.inj hF
    refine W.retV (fn := Try.f22) (vs := [.slice none 0 0, .int .i64 r3.2.2]) Try.results22 ⟨.tmp rfl, ⟨.tmp rfl, trivial⟩⟩ (fun _ _ h => h) (fun w hw => ?_)
    exact hR _ _ ⟨(none, 0), trivial, rfl, ((St.nilR (hw.pick [] rfl) (eI .i64) 1 3).pick [0] rfl)⟩
  · replace hF := cneg hC5 hF
    refine W.skip ?_
    refine W.go hK3 (.cons (i := 4) rfl (.nil)) ?_
    -- region 4: order.go:135
    refine W.seqR fun Q7 hQ7 => ?_
    refine WL.q (Y.loadBA (ds := (encRel (Rel.mk r3.1 r3.2.1))) Try.underlying25 rfl cells25 (.pl rfl) (i := 0) rfl rfl subW) rfl ?_
    obtain ⟨r5, hr5, hF⟩ := bnd hF
    refine WL.step (WO.callM isGo44 (.cons (.pl rfl) (.nil)) rfl (fun w hw => order_longest_ok (hr5) w ) ?_)
    rintro A6 -
    refine WL.q (Y.assign (.pl rfl)) rfl ?_
    refine WL.next hQ7 (.cons (i := 4) rfl (.cons (i := 6) rfl (.nil))) ?_
    -- region 5: order.go:136
    refine W.seqR fun Q8 hQ8 => ?_
    refine WL.q (Y.assign (.pl rfl)) rfl ?_
    refine WL.next hQ8 (.cons (i := 4) rfl (.cons (i := 6) rfl (.cons (i := 7) rfl (.nil)))) ?_
    -- region 6: order.go:137
    refine W.seqR fun Q9 hQ9 => ?_
    refine WL.q (Y.assign (.pl rfl)) rfl ?_
    refine WL.next hQ9 (.cons (i := 4) rfl (.cons (i := 6) rfl (.cons (i := 7) rfl (.cons (i := 8) rfl (.nil))))) ?_
    obtain ⟨o10, hF10, hF⟩ := bnd hF
    refine W.join1 (Em := fun (left7 : Int) => [(8, .int .i64 left7)]) (M := fun left7 => [cBx b4 25 (encRel (Rel.mk r3.1 r3.2.1)), cR (eI .i64) 1 A6 (Rel.mk r3.1 r3.2.1).n.toNat 3 r5]) (I := fun left7 => left7 = o10) (.cons (i := 4) rfl (.cons (i := 6) rfl (.cons (i := 7) rfl (.nil)))) (fun K11 hK11 => ?_) ?_
    · -- up to
      -- region 7: order.go:138
      refine W.seqR fun Q12 hQ12 => ?_
      refine WL.q (Y.move (.pl rfl)) rfl ?_
      refine WL.q (Y.len Try.underlying34 (.pl rfl)) rfl ?_
      refine WL.q (Y.move (.pl rfl)) rfl ?_
      refine WL.next hQ12 (.cons (i := 4) rfl (.cons (i := 6) rfl (.cons (i := 7) rfl (.cons (i := 8) rfl (.cons (i := 22) rfl (.cons (i := 23) rfl (.cons (i := 24) rfl (.nil)))))))) ?_
      refine W.block ?_
      refine W.loop2 (Em := fun (left8 : Int) (v9 : Int) => [(8, .int .i64 left8), (24, .int .i64 v9)]) (M := fun left8 v9 => [cBx b4 25 (encRel (Rel.mk r3.1 r3.2.1)), cR (eI .i64) 1 A6 (Rel.mk r3.1 r3.2.1).n.toNat 3 r5]) (I := fun left8 v9 k13 => iter (order_Chain_L17 N r5) k13 (left8, v9) = some o10) 0 0 N (hF10) (.cons rfl (.cons rfl (.nil))) (.cons (i := 4) rfl (.cons (i := 6) rfl (.cons (i := 7) rfl (.cons (i := 22) rfl (.cons (i := 23) rfl (.nil)))))) (fun w hw => hw.pick [1, 0] rfl) (fun left8 v9 k13 hI K14 hK14 => ?_)
      obtain ⟨k13, t13, rfl, hF13, hN13⟩ := iter_step hI
      -- region 8: order.go:138
      refine W.seqR fun Q15 hQ15 => ?_
      refine WL.q (Y.lss (.pl rfl) (.pl rfl)) rfl ?_
      refine WL.next hQ15 (.cons (i := 4) rfl (.cons (i := 6) rfl (.cons (i := 7) rfl (.cons (i := 8) rfl (.cons (i := 22) rfl (.cons (i := 23) rfl (.cons (i := 24) rfl (.cons (i := 25) rfl (.nil))))))))) ?_
      refine W.seq fun K16 hK16 => ?_
      refine W.cond (.pl rfl) (fun hC17 => ?_) (fun hC17 => ?_)
      · replace hF13 := cpos hC17 hF13
        refine W.skip ?_
        refine W.go hK16 (.cons (i := 4) rfl (.cons (i := 6) rfl (.cons (i := 7) rfl (.cons (i := 8) rfl (.cons (i := 22) rfl (.cons (i := 23) rfl (.cons (i := 24) rfl (.nil)))))))) ?_
        refine W.seq fun K18 hK18 => ?_
        refine W.block ?_
        -- region 9: order.go:138
        refine W.seqR fun Q19 hQ19 => ?_
        obtain ⟨x10, hx10, hF13⟩ := bnd hF13
        refine WL.q (Y.rowEl Try.underlying34 cells3 (i := 1) rfl (.pl rfl) rfl (.pl rfl) (ix_lt (hx10))) rfl ?_
        refine WL.q (Y.loadR (enc := (eI .i64)) (v := .int .i64 x10) (a := x10) (idx := v9) (j := 0) Try.underlying3 rfl (fun _ => rfl) (i := 1) rfl (.pl rfl) (ix_get (hx10)) rfl rfl) rfl ?_
        refine WL.q (Y.assign (.pl rfl)) rfl ?_
        refine WL.next hQ19 (.cons (i := 4) rfl (.cons (i := 6) rfl (.cons (i := 7) rfl (.cons (i := 8) rfl (.cons (i := 10) rfl (.cons (i := 22) rfl (.cons (i := 23) rfl (.cons (i := 24) rfl (.nil))))))))) ?_
        -- region 10: order.go:139
        refine W.reg ?_
        refine WL.q (Y.move (.pl rfl)) rfl ?_
        refine WL.q (Y.move (.pl rfl)) rfl ?_
        refine WL.q (Y.max (.pl rfl) (.pl rfl)) rfl ?_
        refine WL.q (Y.assign (.pl rfl)) rfl ?_
        refine WL.nil ?_
        refine W.go hK18 (.cons (i := 4) rfl (.cons (i := 6) rfl (.cons (i := 7) rfl (.cons (i := 8) rfl (.cons (i := 22) rfl (.cons (i := 23) rfl (.cons (i := 24) rfl (.nil)))))))) ?_
        -- region 11: order.go:138
        refine W.reg ?_
        obtain ⟨hk11, hF13⟩ := ckh hF13
        refine WL.q (Y.add (.pl rfl) (.pl rfl) (ok64_lt (hk11))) rfl ?_
        refine WL.q (Y.move (.pl rfl)) rfl ?_
        refine WL.nil ?_
        obtain rfl := Option.some.inj hF13
        exact W.again2 hK14 (max left8 x10) (v9 + 1) k13 hN13 (Nat.lt_succ_self _) (.cons rfl (.cons rfl (.nil))) (.cons (i := 4) rfl (.cons (i := 6) rfl (.cons (i := 7) rfl (.cons (i := 22) rfl (.cons (i := 23) rfl (.nil)))))) (fun w hw => hw.pick [0, 1] rfl)
      · replace hF13 := cneg hC17 hF13
        refine W.exit ?_
        obtain rfl := Option.some.inj hF13
        exact W.joinAt1 hK11 left8 (einr hN13) (.cons rfl (.nil)) (.cons (i := 4) rfl (.cons (i := 6) rfl (.cons (i := 7) rfl (.nil)))) (fun w hw => hw.pick [0, 1] rfl)
    · -- behind
      rintro left7 rfl
      obtain ⟨o22, hF22, hF⟩ := bnd hF
      refine W.join3 (Em := fun (out14 : (List Int)) (A12 : Option Addr) (c13 : Nat) => [(7, .slice A12 (out14).length c13)]) (M := fun out14 A12 c13 => [cR (eI .i64) 1 A12 c13 3 out14]) (I := fun out14 A12 c13 => out14 = o22) (.nil) (fun K23 hK23 => ?_) ?_
      · -- up to
        refine W.block ?_
        refine W.loop4 (Em := fun (out17 : (List Int)) (left18 : Int) (A15 : Option Addr) (c16 : Nat) => [(7, .slice A15 (out17).length c16), (8, .int .i64 left18)]) (M := fun out17 left18 A15 c16 => [cBx b4 25 (encRel (Rel.mk r3.1 r3.2.1)), cR (eI .i64) 1 A6 (Rel.mk r3.1 r3.2.1).n.toNat 3 r5, cR (eI .i64) 1 A15 c16 3 out17]) (I := fun out17 left18 A15 c16 k24 => iter (order_Chain_L29 N r3 r5) k24 (out17, left18) = some o22) [] left7 none 0 N (hF22) (.cons rfl (.cons rfl (.nil))) (.cons (i := 4) rfl (.cons (i := 6) rfl (.nil))) (fun w hw => (St.nilR (hw.pick [0, 1] rfl) (eI .i64) 1 3).pick [1, 2, 0] rfl) (fun out17 left18 A15 c16 k24 hI K25 hK25 => ?_)
        obtain ⟨k24, t24, rfl, hF24, hN24⟩ := iter_step hI
        refine W.seq fun K26 hK26 => ?_
        -- region 12: order.go:141
        refine W.seqR fun Q27 hQ27 => ?_
        refine WL.q (Y.move (.pl rfl)) rfl ?_
        refine WL.q (Y.gtr (.pl rfl) (.pl rfl)) rfl ?_
        refine WL.next hQ27 (.cons (i := 4) rfl (.cons (i := 6) rfl (.cons (i := 7) rfl (.cons (i := 8) rfl (.cons (i := 33) rfl (.nil)))))) ?_
        refine W.cond (.pl rfl) (fun hC28 => ?_) (fun hC28 => ?_)
        · replace hF24 := cpos hC28 hF24
          refine W.skip ?_
          refine W.go hK26 (.cons (i := 4) rfl (.cons (i := 6) rfl (.cons (i := 7) rfl (.cons (i := 8) rfl (.nil))))) ?_
          obtain ⟨o29, hF29, hF24⟩ := bnd hF24
          refine W.join3 (Em := fun (out21 : (List Int)) (A19 : Option Addr) (c20 : Nat) => [(7, .slice A19 (out21).length c20)]) (M := fun out21 A19 c20 => [cBx b4 25 (encRel (Rel.mk r3.1 r3.2.1)), cR (eI .i64) 1 A6 (Rel.mk r3.1 r3.2.1).n.toNat 3 r5, cR (eI .i64) 1 A19 c20 3 out21]) (I := fun out21 A19 c20 => out21 = o29) (.cons (i := 4) rfl (.cons (i := 6) rfl (.cons (i := 8) rfl (.nil)))) (fun K30 hK30 => ?_) ?_
          · -- up to
            refine W.block ?_
            -- region 14: order.go:142
            refine W.seqR fun Q31 hQ31 => ?_
            refine WL.q (Y.fieldAddr0 (off := 0) (ft := 3) Try.underlying25 rfl cells3 (.pl rfl)) rfl ?_
            refine WL.q (Y.loadB (v := .int .i64 r3.1) Try.underlying3 rfl (.pl rfl) (i := 0) rfl (rfl)) rfl ?_
            refine WL.q (Y.move (.pl rfl)) rfl ?_
            refine WL.next hQ31 (.cons (i := 4) rfl (.cons (i := 6) rfl (.cons (i := 7) rfl (.cons (i := 8) rfl (.cons (i := 37) rfl (.cons (i := 38) rfl (.nil))))))) ?_
            refine W.block ?_
            refine W.loop1 (Em := fun (v22 : Int) => [(38, .int .i64 v22)]) (M := fun v22 => [cBx b4 25 (encRel (Rel.mk r3.1 r3.2.1)), cR (eI .i64) 1 A6 (Rel.mk r3.1 r3.2.1).n.toNat 3 r5, cR (eI .i64) 1 A15 c16 3 out17]) (I := fun v22 k32 => iter (order_Chain_L31 N r3 r5 left18 out17) k32 v22 = some o29) 0 N (hF29) (.cons rfl (.nil)) (.cons (i := 4) rfl (.cons (i := 6) rfl (.cons (i := 7) rfl (.cons (i := 8) rfl (.cons (i := 37) rfl (.nil)))))) (fun w hw => hw.pick [0, 1, 2] rfl) (fun v22 k32 hI K33 hK33 => ?_)
            obtain ⟨k32, t32, rfl, hF32, hN32⟩ := iter_step hI
            -- region 15: order.go:142
            refine W.seqR fun Q34 hQ34 => ?_
            refine WL.q (Y.lss (.pl rfl) (.pl rfl)) rfl ?_
            refine WL.next hQ34 (.cons (i := 4) rfl (.cons (i := 6) rfl (.cons (i := 7) rfl (.cons (i := 8) rfl (.cons (i := 37) rfl (.cons (i := 38) rfl (.cons (i := 39) rfl (.nil)))))))) ?_
            refine W.seq fun K35 hK35 => ?_
            refine W.cond (.pl rfl) (fun hC36 => ?_) (fun hC36 => ?_)
            · replace hF32 := cpos hC36 hF32
              refine W.skip ?_
              refine W.go hK35 (.cons (i := 4) rfl (.cons (i := 6) rfl (.cons (i := 7) rfl (.cons (i := 8) rfl (.cons (i := 37) rfl (.cons (i := 38) rfl (.nil))))))) ?_
              refine W.seq fun K37 hK37 => ?_
              refine W.block ?_
              -- region 16: order.go:142
              refine W.seqR fun Q38 hQ38 => ?_
              refine WL.q (Y.move (.pl rfl)) rfl ?_
              refine WL.q (Y.assign (.pl rfl)) rfl ?_
              refine WL.next hQ38 (.cons (i := 4) rfl (.cons (i := 6) rfl (.cons (i := 7) rfl (.cons (i := 8) rfl (.cons (i := 11) rfl (.cons (i := 37) rfl (.cons (i := 38) rfl (.nil)))))))) ?_
              -- region 17: order.go:143
              refine W.seqD (by kernel_rfl) (by kernel_rfl) fun R39 hR39 => ?_
              refine WD.q (Y.move (.pl rfl)) rfl ?_
              refine WD.q (Y.move (.pl rfl)) rfl ?_
              obtain ⟨x23, hx23, hF32⟩ := bnd hF32
              refine WD.q (Y.rowEl Try.underlying34 cells3 (i := 1) rfl (.pl rfl) rfl (.pl rfl) (ix_lt (hx23))) rfl ?_
              refine WD.q (Y.loadR (enc := (eI .i64)) (v := .int .i64 x23) (a := x23) (idx := v22) (j := 0) Try.underlying3 rfl (fun _ => rfl) (i := 1) rfl (.pl rfl) (ix_get (hx23)) rfl rfl) rfl ?_
              refine WD.q (Y.move (.pl rfl)) rfl ?_
              refine WD.q (Y.eql (.pl rfl) (.pl rfl)) rfl ?_
              refine WD.q (Y.move (.pl rfl)) rfl ?_
              refine WD.g (.pl rfl rfl rfl) (fun hg => Y.move (.pl rfl)) rfl ?_
              refine WD.g (.pl rfl rfl rfl) (fun hg => Y.len Try.underlying34 (.gd (hg) rfl)) rfl ?_
              refine WD.g (.pl rfl rfl rfl) (fun hg => Y.eql (.gd (hg) rfl) (.pl rfl)) rfl ?_
              refine WD.g (.pl rfl rfl rfl) (fun hg => Y.move (.gd (hg) rfl)) rfl ?_
              refine WD.g (.gd rfl rfl rfl) (fun hg => Y.loadBA (ds := (encRel (Rel.mk r3.1 r3.2.1))) Try.underlying25 rfl cells25 (.pl rfl) (i := 0) rfl rfl subW) rfl ?_
              refine WD.g (.gd rfl rfl rfl) (fun hg => Y.move (.pl rfl)) rfl ?_
              refine WD.g (.gd rfl rfl rfl) (fun hg => Y.move (.pl rfl)) rfl ?_
              refine WD.g (.gd rfl rfl rfl) (fun hg => Y.len Try.underlying34 (.gd (hg) rfl)) rfl ?_
              obtain ⟨hk24, hF32⟩ := ckh hF32
              refine WD.g (.gd rfl rfl rfl) (fun hg => Y.sub (.gd (hg) rfl) (.pl rfl) (ok64_lt (gor hg hk24))) rfl ?_
              obtain ⟨x25, hx25, hF32⟩ := bnd hF32
              refine WD.g (.gd rfl rfl rfl) (fun hg => Y.rowEl Try.underlying34 cells3 (i := 2) rfl (.gd (hg) rfl) rfl (.gd (hg) rfl) (ix_lt (gpos hg hx25))) rfl ?_
              refine WD.g (.gd rfl rfl rfl) (fun hg => Y.loadR (enc := (eI .i64)) (v := .int .i64 x25) (a := x25) (idx := (((out17).length : Int) - 1)) (j := 0) Try.underlying3 rfl (fun _ => rfl) (i := 2) rfl (.gd (hg) rfl) (ix_get (gpos hg hx25)) rfl rfl) rfl ?_
              refine WD.g (.gd rfl rfl rfl) (fun hg => Y.move (.pl rfl)) rfl ?_
              obtain ⟨r26, hr26, hF32⟩ := bnd hF32
              refine WD.gP (.gd rfl rfl rfl) isGo45 (fun hg => (.cons (.gd (hg) rfl) (.cons (.gd (hg) rfl) (.cons (.gd (hg) rfl) (.nil))))) rfl (fun hg w hw => order_has_ok (gpos hg hr26) w ) ?_
              refine WD.g (.pl rfl rfl rfl) (fun hg => Y.or (.gd (hg) rfl) (fun h2 => .gd (band hg (eqf h2)) rfl)) rfl ?_
              refine WD.q (Y.and (.pl rfl) (fun h2 => .gd (eqt h2) rfl)) rfl ?_
              refine WD.next hR39 (.cons (i := 4) rfl (.cons (i := 6) rfl (.cons (i := 7) rfl (.cons (i := 8) rfl (.cons (i := 11) rfl (.cons (i := 37) rfl (.cons (i := 38) rfl (.cons (i := 62) rfl (.nil))))))))) ?_
              refine W.cond (.pl rfl) (fun hC40 => ?_) (fun hC40 => ?_)
              · replace hF32 := cpos hC40 hF32
                -- region 18: order.go:144
                refine W.seqR fun Q41 hQ41 => ?_
                refine WL.q (Y.move (.pl rfl)) rfl ?_
                refine WL.q (Y.move (.pl rfl)) rfl ?_
                refine WL.step (WO.bsliceC (enc := (eI .i64)) (ys := ([v22] : List Int)) Try.underlying34 bz3 (.cons (.pl rfl) (.nil)) rfl (fun _ => rfl) rfl rfl (by decide) (by decide) rfl fun b27 => ?_)
                obtain ⟨hk30, hF32⟩ := ckh hF32
                refine WL.step (WO.appendC (enc := (eI .i64)) Try.underlying34 ap3 (fun _ => rfl) oneI (.pl rfl) rfl (.pl rfl) (i := 3) rfl (m2 := 0) rfl (hk30) rfl fun A28 c29 => ?_)
                refine WL.q (Y.assign (.pl rfl)) rfl ?_
                refine WL.next hQ41 (.cons (i := 4) rfl (.cons (i := 6) rfl (.cons (i := 7) rfl (.cons (i := 8) rfl (.nil))))) ?_
                refine W.exit ?_
                obtain rfl := Option.some.inj hF32
                exact W.joinAt3 hK30 (out17 ++ ([v22] : List Int)) A28 c29 (einr hN32) (.cons rfl (.nil)) (.cons (i := 4) rfl (.cons (i := 6) rfl (.cons (i := 8) rfl (.nil)))) (fun w hw => hw.pick [1, 2, 3] rfl)
              · replace hF32 := cneg hC40 hF32
                refine W.skip ?_
                refine W.go hK37 (.cons (i := 4) rfl (.cons (i := 6) rfl (.cons (i := 7) rfl (.cons (i := 8) rfl (.cons (i := 37) rfl (.cons (i := 38) rfl (.nil))))))) ?_
                -- region 19: order.go:142
                refine W.reg ?_
                obtain ⟨hk31, hF32⟩ := ckh hF32
                refine WL.q (Y.add (.pl rfl) (.pl rfl) (ok64_lt (hk31))) rfl ?_
                refine WL.q (Y.move (.pl rfl)) rfl ?_
                refine WL.nil ?_
                obtain rfl := Option.some.inj hF32
                exact W.again1 hK33 (v22 + 1) k32 hN32 (Nat.lt_succ_self _) (.cons rfl (.nil)) (.cons (i := 4) rfl (.cons (i := 6) rfl (.cons (i := 7) rfl (.cons (i := 8) rfl (.cons (i := 37) rfl (.nil)))))) (fun w hw => hw.pick [0, 1, 2] rfl)
            · replace hF32 := cneg hC36 hF32
              refine W.exit ?_
              obtain rfl := Option.some.inj hF32
              exact W.joinAt3 hK30 out17 A15 c16 (einr hN32) (.cons rfl (.nil)) (.cons (i := 4) rfl (.cons (i := 6) rfl (.cons (i := 8) rfl (.nil)))) (fun w hw => hw.pick [0, 1, 2] rfl)
          · -- behind
            rintro out21 A19 c20 rfl
            -- region 13: order.go:141
            refine W.reg ?_
            refine WL.q (Y.move (.pl rfl)) rfl ?_
            obtain ⟨hk32, hF24⟩ := ckh hF24
            refine WL.q (Y.sub (.pl rfl) (.pl rfl) (ok64_lt (hk32))) rfl ?_
            refine WL.q (Y.assign (.pl rfl)) rfl ?_
            refine WL.nil ?_
            obtain rfl := Option.some.inj hF24
            exact W.again4 hK25 out21 (left18 - 1) A19 c20 k24 hN24 (Nat.lt_succ_self _) (.cons rfl (.cons rfl (.nil))) (.cons (i := 4) rfl (.cons (i := 6) rfl (.nil))) (fun w hw => hw.pick [0, 1, 2] rfl)
        · replace hF24 := cneg hC28 hF24
          refine W.exit ?_
          obtain rfl := Option.some.inj hF24
          exact W.joinAt3 hK23 out17 A15 c16 (einr hN24) (.cons rfl (.nil)) (.nil) (fun w hw => hw.pick [2] rfl)
      · -- behind
        rintro out14 A12 c13 rfl
        -- region 20: order.go:149
        refine W.seqR fun Q44 hQ44 => ?_
        refine WL.q (Y.move (.pl rfl)) rfl ?_
        refine WL.q (Y.assign (.pl rfl)) rfl ?_
        refine WL.q (Y.assign (.pl rfl)) rfl ?_
        refine WL.next hQ44 (.cons (i := 2) rfl (.cons (i := 3) rfl (.nil))) ?_
        obtain rfl := Option.some.inj hF
        refine W.retV (fn := Try.f22) (vs := [.slice A12 (out14).length c13, .int .i64 0]) Try.results22 ⟨.tmp rfl, ⟨.tmp rfl, trivial⟩⟩ (fun _ _ h => h) (fun w hw => ?_)
        exact hR _ _ ⟨(A12, c13), trivial, rfl, (hw.pick [0] rfl)⟩

def alibkeep_OrderProduct (N : Nat) (r1 : Rel) : Option Bool :=
  bd (order_Chain N r1) fun (r3 : ((List Int) × Int)) =>
  bd (order_Apart N r1) fun (r6 : ((List Int) × Int)) =>
  bd (α := Bool) (bd (alibkeep_orderLives N) fun (r10 : Bool) =>
    cond ((!r10) == false)
      (bd (alibkeep_ok N ([r3.2, r6.2] : List Int)) fun (r12 : Bool) =>
      some ((!r10) || (!r12)))
      (some ((!r10) || false))) <|
  fun (v9 : Bool) => 
    cond v9
      (bd (alibkeep_orderLives N) fun (r13 : Bool) =>
      some (r13 && (decide (r3.2 = r6.2))))
      (ck (ok64 (((r3.1).length : Int) * ((r6.1).length : Int))) <|
      some (decide (r1.n ≤ (((r3.1).length : Int) * ((r6.1).length : Int)))))

theorem alibkeep_OrderProduct_ok {N : Nat} {r1 : Rel} {res : Bool} (hF : alibkeep_OrderProduct N r1 = some res) (w : World) :
    Pure Try.prog 6 [.agg (encRel r1).toArray] w (.bool res) := by
  refine W.enter (n := 40) Try.func6 rfl rfl Sub.refl (by simp) (St.start w) fun R hR => ?_
  unfold alibkeep_OrderProduct at hF
  -- region 0: order.go:151
  refine W.seqR fun Q1 hQ1 => ?_
  refine WL.step (WO.boxA (.pl rfl) rfl fun b2 => ?_)
  refine WL.q (Y.assign (.pl rfl)) rfl ?_
  refine WL.next hQ1 (.cons (i := 1) rfl (.nil)) ?_
  -- region 1: order.go:152
  refine W.seqR fun Q2 hQ2 => ?_
  refine WL.q (Y.loadBA (ds := (encRel r1)) Try.underlying25 rfl cells25 (.pl rfl) (i := 0) rfl rfl subW) rfl ?_
  obtain ⟨r3, hr3, hF⟩ := bnd hF
  refine WL.step (WO.callM isGo22 (.cons (.pl rfl) (.nil)) rfl (fun w hw => order_Chain_ok (hr3) w ) ?_)
  rintro ⟨A4, c5⟩ -
  refine WL.q (Y.move (.pl rfl)) rfl ?_
  refine WL.q (Y.extract (.pl rfl) rfl) rfl ?_
  refine WL.q (Y.extract (.pl rfl) rfl) rfl ?_
  refine WL.q (Y.assign (.pl rfl)) rfl ?_
  refine WL.q (Y.assign (.pl rfl)) rfl ?_
  refine WL.next hQ2 (.cons (i := 1) rfl (.cons (i := 3) rfl (.cons (i := 4) rfl (.nil)))) ?_
  -- region 2: order.go:153
  refine W.seqR fun Q3 hQ3 => ?_
  refine WL.q (Y.loadBA (ds := (encRel r1)) Try.underlying25 rfl cells25 (.pl rfl) (i := 1) rfl rfl subW) rfl ?_
  obtain ⟨r6, hr6, hF⟩ := bnd hF
  refine WL.step (WO.callM isGo18 (.cons (.pl rfl) (.nil)) rfl (fun w hw => order_Apart_ok (hr6) w ) ?_)
  rintro ⟨A7, c8⟩ -
  refine WL.q (Y.move (.pl rfl)) rfl ?_
  refine WL.q (Y.extract (.pl rfl) rfl) rfl ?_
  refine WL.q (Y.extract (.pl rfl) rfl) rfl ?_
  refine WL.q (Y.assign (.pl rfl)) rfl ?_
  refine WL.q (Y.assign (.pl rfl)) rfl ?_
  refine WL.next hQ3 (.cons (i := 1) rfl (.cons (i := 3) rfl (.cons (i := 4) rfl (.cons (i := 5) rfl (.cons (i := 6) rfl (.nil)))))) ?_
  refine W.seq fun K4 hK4 => ?_
  obtain ⟨o5, hF5, hF⟩ := bnd hF
  refine W.join1 (Em := fun (v9 : Bool) => [(25, .bool v9)]) (M := fun v9 => [cBx b2 25 (encRel r1), cR (eI .i64) 1 A4 c5 3 r3.1, cR (eI .i64) 1 A7 c8 3 r6.1]) (I := fun v9 => v9 = o5) (.cons (i := 1) rfl (.cons (i := 3) rfl (.cons (i := 4) rfl (.cons (i := 5) rfl (.cons (i := 6) rfl (.nil)))))) (fun K6 hK6 => ?_) ?_
  · -- up to
    -- region 3: order.go:154
    refine W.reg ?_
    obtain ⟨r10, hr10, hF5⟩ := bnd hF5
    refine WL.step (WO.callP isGo16 (.nil) rfl (fun w hw => alibkeep_orderLives_ok (hr10) w ) ?_)
    refine WL.q (Y.not (.pl rfl)) rfl ?_
    refine WL.q (Y.move (.pl rfl)) rfl ?_
    refine WL.g (.pl rfl rfl rfl) (fun hg => Y.move (.pl rfl)) rfl ?_
    refine WL.g (.pl rfl rfl rfl) (fun hg => Y.move (.pl rfl)) rfl ?_
    refine bsplit ((!r10) == false) (fun hg7 => ?_) (fun hg7 => ?_)
    · replace hF5 := cpos hg7 hF5
      refine WL.gd (.pl rfl rfl rfl) (hg7) ?_
      refine WL.step (WO.bsliceC (enc := (eI .i64)) (ys := ([r3.2, r6.2] : List Int)) Try.underlying75 bz26 (.cons (.gd (hg7) rfl) (.cons (.gd (hg7) rfl) (.nil))) rfl (fun _ => rfl) rfl rfl (by decide) (by decide) rfl fun b11 => ?_)
      refine WL.gd (.pl rfl rfl rfl) (hg7) ?_
      obtain ⟨r12, hr12, hF5⟩ := bnd hF5
      refine WL.step (WO.callP isGo20 (.cons (.pl rfl) (.nil)) rfl (fun w hw => alibkeep_ok_ok (hr12) w (SlIn.ofRow (fun _ => rfl) hw (i := 0) rfl)) ?_)
      refine WL.gd (.pl rfl rfl rfl) (hg7) ?_
      refine WL.q (Y.not (.pl rfl)) rfl ?_
      refine WL.q (Y.or (.pl rfl) (fun _ => .pl rfl)) rfl ?_
      refine WL.nil ?_
      exact W.joinAt1 hK6 ((!r10) || (!r12)) (Option.some.inj hF5) (.cons rfl (.nil)) (.cons (i := 1) rfl (.cons (i := 3) rfl (.cons (i := 4) rfl (.cons (i := 5) rfl (.cons (i := 6) rfl (.nil)))))) (fun w hw => hw.pick [3, 2, 1] rfl)
    · replace hF5 := cneg hg7 hF5
      refine WL.gn (.pl rfl rfl rfl) hg7 rfl ?_
      refine WL.gn (.pl rfl rfl rfl) hg7 rfl ?_
      refine WL.gn (.pl rfl rfl rfl) hg7 rfl ?_
      refine WL.q (Y.or (b := false) (.pl rfl) (fun h2 => (gabsO hg7 h2).elim)) rfl ?_
      refine WL.nil ?_
      exact W.joinAt1 hK6 ((!r10) || false) (Option.some.inj hF5) (.cons rfl (.nil)) (.cons (i := 1) rfl (.cons (i := 3) rfl (.cons (i := 4) rfl (.cons (i := 5) rfl (.cons (i := 6) rfl (.nil)))))) (fun w hw => hw.pick [2, 1, 0] rfl)
  · -- behind
    rintro v9 rfl
    refine W.cond (.pl rfl) (fun hC8 => ?_) (fun hC8 => ?_)
    · replace hF := cpos hC8 hF
      -- region 4: order.go:155
      refine W.seqR fun Q9 hQ9 => ?_
      obtain ⟨r13, hr13, hF⟩ := bnd hF
      refine WL.step (WO.callP isGo16 (.nil) rfl (fun w hw => alibkeep_orderLives_ok (hr13) w ) ?_)
      refine WL.q (Y.move (.pl rfl)) rfl ?_
      refine WL.g (.pl rfl rfl rfl) (fun hg => Y.move (.pl rfl)) rfl ?_
      refine WL.g (.pl rfl rfl rfl) (fun hg => Y.move (.pl rfl)) rfl ?_
      refine WL.g (.pl rfl rfl rfl) (fun hg => Y.eql (.gd (hg) rfl) (.gd (hg) rfl)) rfl ?_
      refine WL.q (Y.and (.pl rfl) (fun h2 => .gd (eqt h2) rfl)) rfl ?_
      refine WL.q (Y.assign (.pl rfl)) rfl ?_
      refine WL.next hQ9 (.cons (i := 2) rfl (.nil)) ?_
      obtain rfl := Option.some.inj hF
      refine W.retV (fn := Try.f6) (vs := [.bool (r13 && (decide (r3.2 = r6.2)))]) Try.results6 ⟨.tmp rfl, trivial⟩ (fun _ _ h => h) (fun w hw => ?_)
      exact hR _ _ ⟨rfl, (hw.pick [] rfl)⟩
    · replace hF := cneg hC8 hF
      refine W.skip ?_
      refine W.go hK4 (.cons (i := 1) rfl (.cons (i := 3) rfl (.cons (i := 5) rfl (.nil)))) ?_
      -- region 5: order.go:157
      refine W.seqR fun Q10 hQ10 => ?_
      refine WL.q (Y.move (.pl rfl)) rfl ?_
      refine WL.q (Y.len Try.underlying34 (.pl rfl)) rfl ?_
      refine WL.q (Y.move (.pl rfl)) rfl ?_
      refine WL.q (Y.len Try.underlying34 (.pl rfl)) rfl ?_
      obtain ⟨hk14, hF⟩ := ckh hF
      refine WL.q (Y.mul (.pl rfl) (.pl rfl) (ok64_lt (hk14))) rfl ?_
      refine WL.q (Y.fieldAddr0 (off := 0) (ft := 3) Try.underlying25 rfl cells3 (.pl rfl)) rfl ?_
      refine WL.q (Y.loadB (v := .int .i64 r1.n) Try.underlying3 rfl (.pl rfl) (i := 0) rfl (rfl)) rfl ?_
      refine WL.q (Y.geq (.pl rfl) (.pl rfl)) rfl ?_
      refine WL.q (Y.assign (.pl rfl)) rfl ?_
      refine WL.next hQ10 (.cons (i := 2) rfl (.nil)) ?_
      obtain rfl := Option.some.inj hF
      refine W.retV (fn := Try.f6) (vs := [.bool (decide (r1.n ≤ (((r3.1).length : Int) * ((r6.1).length : Int))))]) Try.results6 ⟨.tmp rfl, trivial⟩ (fun _ _ h => h) (fun w hw => ?_)
      exact hR _ _ ⟨rfl, (hw.pick [] rfl)⟩

end Go.Proofs.Ytemckhkicfpgeaa
