/- Join: what the code computes, and the walk. -/
import Derived.Test.YtpakplmpihhmbaaLA2
set_option linter.unusedVariables false
set_option linter.unusedSimpArgs false
set_option linter.unusedSectionVars false
set_option maxRecDepth 100000
namespace Go.Proofs.Ytpakplmpihhmbaa
open Go.RowKit
theorem isGo83 : IsGo Try.prog 83 := ⟨_, Try.func83, by kernel_rfl, rfl⟩
theorem isGo95 : IsGo Try.prog 95 := ⟨_, Try.func95, by kernel_rfl, rfl⟩
theorem isGo96 : IsGo Try.prog 96 := ⟨_, Try.func96, by kernel_rfl, rfl⟩
theorem isGo97 : IsGo Try.prog 97 := ⟨_, Try.func97, by kernel_rfl, rfl⟩
theorem isGo102 : IsGo Try.prog 102 := ⟨_, Try.func102, by kernel_rfl, rfl⟩
theorem isGo103 : IsGo Try.prog 103 := ⟨_, Try.func103, by kernel_rfl, rfl⟩
theorem isGo104 : IsGo Try.prog 104 := ⟨_, Try.func104, by kernel_rfl, rfl⟩
def order_Check_L3 (N : Nat) (r1 : Rel) : Int → Option (Int ⊕ (Unit ⊕ Int))
  | v3 =>
    cond (decide (v3 < 12))
      (bd (ax 12 0 r1.after v3) fun (x4 : Int) =>
      cond (((decide (r1.n ≤ v3)) && (!(decide (x4 = 0)))) || (!(decide ((shrI .u16 x4 (IntKind.u64.wrap r1.n)) = 0))))
        (some (.inr (.inr 3)))
        (ck (ok64 (v3 + 1)) <|
        some (.inl (v3 + 1))))
      (some (.inr (.inl ())))

def order_Check (N : Nat) (r1 : Rel) : Option Int :=
  cond ((decide (r1.n < 0)) || (decide (12 < r1.n)))
    (some 1)
    (bd (α := (Unit ⊕ Int)) (iter (order_Check_L3 N r1) N 0) <|
    Sum.elim (fun _ => 
      some 0) (fun p => some p))

theorem order_Check_ok {N : Nat} {r1 : Rel} {res : Int} (hF : order_Check N r1 = some res) (w : World) :
    Pure Try.prog 103 [.agg (encRel r1).toArray] w (.int .i64 res) := by
  refine W.enter (n := 36) Try.func103 rfl rfl Sub.refl (by simp) (St.start w) fun R hR => ?_
  unfold order_Check at hF
  refine W.seqR fun Q1 hQ1 => ?_
  refine WL.step (WO.boxA (.pl rfl) rfl fun b2 => ?_)
  refine WL.q (Y.assign (.pl rfl)) rfl ?_
  refine WL.next hQ1 (.cons (i := 1) rfl (.nil)) ?_
  refine W.seq fun K2 hK2 => ?_
  refine W.seqR fun Q3 hQ3 => ?_
  refine WL.q (Y.fieldAddr0 (off := 0) (ft := 3) Try.underlying99 rfl cells3 (.pl rfl)) rfl ?_
  refine WL.q (Y.loadB (v := .int .i64 r1.n) Try.underlying3 rfl (.pl rfl) (i := 0) rfl (rfl)) rfl ?_
  refine WL.q (Y.lss (.pl rfl) (.pl rfl)) rfl ?_
  refine WL.q (Y.move (.pl rfl)) rfl ?_
  refine WL.g (.pl rfl rfl rfl) (fun hg => Y.fieldAddr0 (off := 0) (ft := 3) Try.underlying99 rfl cells3 (.pl rfl)) rfl ?_
  refine WL.g (.pl rfl rfl rfl) (fun hg => Y.loadB (v := .int .i64 r1.n) Try.underlying3 rfl (.gd (hg) rfl) (i := 0) rfl (rfl)) rfl ?_
  refine WL.g (.pl rfl rfl rfl) (fun hg => Y.gtr (.gd (hg) rfl) (.pl rfl)) rfl ?_
  refine WL.q (Y.or (.pl rfl) (fun h2 => .gd (eqf h2) rfl)) rfl ?_
  refine WL.next hQ3 (.cons (i := 1) rfl (.cons (i := 12) rfl (.nil))) ?_
  refine W.cond (.pl rfl) (fun hC4 => ?_) (fun hC4 => ?_)
  · replace hF := cpos hC4 hF
    refine W.seqR fun Q5 hQ5 => ?_
    refine WL.q (Y.assign (.pl rfl)) rfl ?_
    refine WL.next hQ5 (.cons (i := 2) rfl (.nil)) ?_
    obtain rfl := Option.some.inj hF
    refine W.retV (fn := Try.f103) (vs := [.int .i64 1]) Try.results103 ⟨.tmp rfl, trivial⟩ (fun _ _ h => h) (fun wz hw => ?_)
    exact hR _ _ ⟨rfl, (hw.pick [] rfl)⟩
  · replace hF := cneg hC4 hF
    refine W.skip ?_
    refine W.go hK2 (.cons (i := 1) rfl (.nil)) ?_
    obtain ⟨o6, hF6, hF⟩ := bnd hF
    refine W.join0 (Em := []) (M := []) (I := (.inl ()) = o6) (.nil) (fun K7 hK7 => ?_) ?_
    · -- up to
      refine W.seqR fun Q8 hQ8 => ?_
      refine WL.q (Y.fieldAddr0 (off := 1) (ft := 97) Try.underlying99 rfl cells97 (.pl rfl)) rfl ?_
      refine WL.q (Y.loadBA (ds := ((encA 12 (eI .u16) 0) r1.after)) Try.underlying97 rfl cells97 (.pl rfl) (i := 0) rfl rfl (subM (pre := (Value.int .i64 r1.n :: [])) (o := 1) rfl)) rfl ?_
      refine WL.q (Y.move (.pl rfl)) rfl ?_
      refine WL.next hQ8 (.cons (i := 1) rfl (.cons (i := 14) rfl (.cons (i := 15) rfl (.nil)))) ?_
      refine W.block ?_
      refine W.loop1 (Em := fun (v3 : Int) => [(15, .int .i64 v3)]) (M := fun v3 => [cBx b2 99 (encRel r1)]) (I := fun v3 k9 => iter (order_Check_L3 N r1) k9 v3 = some o6) 0 N (hF6) (.cons rfl (.nil)) (.cons (i := 1) rfl (.cons (i := 14) rfl (.nil))) (fun wz hw => hw.pick [0] rfl) (fun v3 k9 hI K10 hK10 => ?_)
      obtain ⟨k9, t9, rfl, hF9, hN9⟩ := iter_step hI
      refine W.seqR fun Q11 hQ11 => ?_
      refine WL.q (Y.lss (.pl rfl) (.pl rfl)) rfl ?_
      refine WL.next hQ11 (.cons (i := 1) rfl (.cons (i := 14) rfl (.cons (i := 15) rfl (.cons (i := 16) rfl (.nil))))) ?_
      refine W.seq fun K12 hK12 => ?_
      refine W.cond (.pl rfl) (fun hC13 => ?_) (fun hC13 => ?_)
      · replace hF9 := cpos hC13 hF9
        refine W.skip ?_
        refine W.go hK12 (.cons (i := 1) rfl (.cons (i := 14) rfl (.cons (i := 15) rfl (.nil)))) ?_
        refine W.seq fun K14 hK14 => ?_
        refine W.block ?_
        refine W.seqR fun Q15 hQ15 => ?_
        refine WL.q (Y.move (.pl rfl)) rfl ?_
        obtain ⟨x4, hx4, hF9⟩ := bnd hF9
        refine WL.q (Y.indexA (enc := (eI .u16)) Try.underlying97 Try.underlying96 rfl cells96 (.pl rfl) (.pl rfl) (hx4) rfl (fun _ => rfl)) rfl ?_
        refine WL.q (Y.assign (.pl rfl)) rfl ?_
        refine WL.q (Y.assign (.pl rfl)) rfl ?_
        refine WL.next hQ15 (.cons (i := 1) rfl (.cons (i := 3) rfl (.cons (i := 4) rfl (.cons (i := 14) rfl (.cons (i := 15) rfl (.nil)))))) ?_
        refine W.seqR fun Q16 hQ16 => ?_
        refine WL.q (Y.move (.pl rfl)) rfl ?_
        refine WL.q (Y.fieldAddr0 (off := 0) (ft := 3) Try.underlying99 rfl cells3 (.pl rfl)) rfl ?_
        refine WL.q (Y.loadB (v := .int .i64 r1.n) Try.underlying3 rfl (.pl rfl) (i := 0) rfl (rfl)) rfl ?_
        refine WL.q (Y.geq (.pl rfl) (.pl rfl)) rfl ?_
        refine WL.q (Y.move (.pl rfl)) rfl ?_
        refine WL.g (.pl rfl rfl rfl) (fun hg => Y.move (.pl rfl)) rfl ?_
        refine WL.g (.pl rfl rfl rfl) (fun hg => Y.neq (.gd (hg) rfl) (.pl rfl)) rfl ?_
        refine WL.q (Y.and (.pl rfl) (fun h2 => .gd (eqt h2) rfl)) rfl ?_
        refine WL.q (Y.move (.pl rfl)) rfl ?_
        refine WL.g (.pl rfl rfl rfl) (fun hg => Y.move (.pl rfl)) rfl ?_
        refine WL.g (.pl rfl rfl rfl) (fun hg => Y.fieldAddr0 (off := 0) (ft := 3) Try.underlying99 rfl cells3 (.pl rfl)) rfl ?_
        refine WL.g (.pl rfl rfl rfl) (fun hg => Y.loadB (v := .int .i64 r1.n) Try.underlying3 rfl (.gd (hg) rfl) (i := 0) rfl (rfl)) rfl ?_
        refine WL.g (.pl rfl rfl rfl) (fun hg => Y.conv Try.underlying3 Try.underlying113 (.gd (hg) rfl)) rfl ?_
        refine WL.g (.pl rfl rfl rfl) (fun hg => Y.shr (.gd (hg) rfl) (.gd (hg) rfl) (wrapU_nn rfl _)) rfl ?_
        refine WL.g (.pl rfl rfl rfl) (fun hg => Y.neq (.gd (hg) rfl) (.pl rfl)) rfl ?_
        refine WL.q (Y.or (.pl rfl) (fun h2 => .gd (eqf h2) rfl)) rfl ?_
        refine WL.next hQ16 (.cons (i := 1) rfl (.cons (i := 14) rfl (.cons (i := 15) rfl (.cons (i := 34) rfl (.nil))))) ?_
        refine W.cond (.pl rfl) (fun hC17 => ?_) (fun hC17 => ?_)
        · replace hF9 := cpos hC17 hF9
          refine W.seqR fun Q18 hQ18 => ?_
          refine WL.q (Y.assign (.pl rfl)) rfl ?_
          refine WL.next hQ18 (.cons (i := 2) rfl (.nil)) ?_
          obtain rfl := Option.some.inj hF9
          obtain rfl := einr hN9
          obtain rfl := Option.some.inj hF
          refine W.retV (fn := Try.f103) (vs := [.int .i64 3]) Try.results103 ⟨.tmp rfl, trivial⟩ (fun _ _ h => h) (fun wz hw => ?_)
          exact hR _ _ ⟨rfl, (hw.pick [] rfl)⟩
        · replace hF9 := cneg hC17 hF9
          refine W.skip ?_
          refine W.go hK14 (.cons (i := 1) rfl (.cons (i := 14) rfl (.cons (i := 15) rfl (.nil)))) ?_
          refine W.reg ?_
          obtain ⟨hk5, hF9⟩ := ckh hF9
          refine WL.q (Y.add (.pl rfl) (.pl rfl) (ok64_lt (hk5))) rfl ?_
          refine WL.q (Y.move (.pl rfl)) rfl ?_
          refine WL.nil ?_
          obtain rfl := Option.some.inj hF9
          exact W.again1 hK10 (v3 + 1) k9 hN9 (Nat.lt_succ_self _) (.cons rfl (.nil)) (.cons (i := 1) rfl (.cons (i := 14) rfl (.nil))) (fun wz hw => hw.pick [0] rfl)
      · replace hF9 := cneg hC13 hF9
        refine W.exit ?_
        obtain rfl := Option.some.inj hF9
        exact W.joinAt0 hK7  (einr hN9) (.nil) (.nil) (fun wz hw => hw.pick [] rfl)
    · -- behind
      rintro  rfl
      refine W.seqR fun Q20 hQ20 => ?_
      refine WL.q (Y.assign (.pl rfl)) rfl ?_
      refine WL.next hQ20 (.cons (i := 2) rfl (.nil)) ?_
      obtain rfl := Option.some.inj hF
      refine W.retV (fn := Try.f103) (vs := [.int .i64 0]) Try.results103 ⟨.tmp rfl, trivial⟩ (fun _ _ h => h) (fun wz hw => ?_)
      exact hR _ _ ⟨rfl, (hw.pick [] rfl)⟩

def order_closed_L27 (N : Nat) (r1 : Rel) (v6 : Int) : ((List Int) × Int) → Option (((List Int) × Int) ⊕ (List Int))
  | (After8, v9) =>
    cond (decide (v9 < r1.n))
      (bd (ax 12 0 After8 v9) fun (x10 : Int) =>
      cond (decide ((bandI .u16 (shrI .u16 x10 (IntKind.u64.wrap v6)) 1) = 1))
        (bd (ax 12 0 After8 v9) fun (x11 : Int) =>
        bd (ax 12 0 After8 v6) fun (x12 : Int) =>
        bd (ax 12 0 After8 v9) fun (x13 : Int) =>
        ck (ok64 (v9 + 1)) <|
        some (.inl ((setA 12 0 After8 v9 (borI .u16 x11 x12)), (v9 + 1))))
        (ck (ok64 (v9 + 1)) <|
        some (.inl (After8, (v9 + 1)))))
      (some (.inr After8))

def order_closed_L25 (N : Nat) (r1 : Rel) : ((List Int) × Int) → Option (((List Int) × Int) ⊕ (List Int))
  | (After5, v6) =>
    cond (decide (v6 < r1.n))
      (bd (α := (List Int)) (iter (order_closed_L27 N r1 v6) N (After5, 0)) <|
      fun (After7 : (List Int)) => 
        ck (ok64 (v6 + 1)) <|
        some (.inl (After7, (v6 + 1))))
      (some (.inr After5))

def order_closed (N : Nat) (r1 : Rel) : Option (List Int) :=
  bd (α := (List Int)) (iter (order_closed_L25 N r1) N (r1.after, 0)) <|
  fun (After4 : (List Int)) => 
    some After4

theorem order_closed_ok {N : Nat} {r1 : Rel} {res : (List Int)} (hF : order_closed N r1 = some res) (w : World) :
    Pure Try.prog 104 [.agg (encRel r1).toArray] w (.agg (encRel (Rel.mk r1.n res)).toArray) := by
  refine W.enter (n := 38) Try.func104 rfl rfl Sub.refl (by simp) (St.start w) fun R hR => ?_
  unfold order_closed at hF
  refine W.seqR fun Q1 hQ1 => ?_
  refine WL.step (WO.boxA (.pl rfl) rfl fun b2 => ?_)
  refine WL.step (WO.alloc (cs := (encRel (Rel.mk 0 [])).toArray) zero99 rfl rfl fun b3 => ?_)
  refine WL.next hQ1 (.cons (i := 1) rfl (.cons (i := 2) rfl (.nil))) ?_
  obtain ⟨o2, hF2, hF⟩ := bnd hF
  refine W.join1 (Em := fun (After4 : (List Int)) => []) (M := fun After4 => [cBx b2 99 (encRel (Rel.mk r1.n After4)), cBx b3 99 (encRel (Rel.mk 0 []))]) (I := fun After4 => After4 = o2) (.cons (i := 1) rfl (.cons (i := 2) rfl (.nil))) (fun K3 hK3 => ?_) ?_
  · -- up to
    refine W.seqR fun Q4 hQ4 => ?_
    refine WL.q (Y.fieldAddr0 (off := 0) (ft := 3) Try.underlying99 rfl cells3 (.pl rfl)) rfl ?_
    refine WL.q (Y.loadB (v := .int .i64 r1.n) Try.underlying3 rfl (.pl rfl) (i := 1) rfl (rfl)) rfl ?_
    refine WL.q (Y.move (.pl rfl)) rfl ?_
    refine WL.next hQ4 (.cons (i := 1) rfl (.cons (i := 2) rfl (.cons (i := 6) rfl (.cons (i := 7) rfl (.nil))))) ?_
    refine W.block ?_
    refine W.loop2 (Em := fun (After5 : (List Int)) (v6 : Int) => [(7, .int .i64 v6)]) (M := fun After5 v6 => [cBx b2 99 (encRel (Rel.mk r1.n After5)), cBx b3 99 (encRel (Rel.mk 0 []))]) (I := fun After5 v6 k5 => iter (order_closed_L25 N r1) k5 (After5, v6) = some o2) r1.after 0 N (hF2) (.cons rfl (.nil)) (.cons (i := 1) rfl (.cons (i := 2) rfl (.cons (i := 6) rfl (.nil)))) (fun wz hw => hw.pick [1, 0] rfl) (fun After5 v6 k5 hI K6 hK6 => ?_)
    obtain ⟨k5, t5, rfl, hF5, hN5⟩ := iter_step hI
    refine W.seqR fun Q7 hQ7 => ?_
    refine WL.q (Y.lss (.pl rfl) (.pl rfl)) rfl ?_
    refine WL.next hQ7 (.cons (i := 1) rfl (.cons (i := 2) rfl (.cons (i := 6) rfl (.cons (i := 7) rfl (.cons (i := 8) rfl (.nil)))))) ?_
    refine W.seq fun K8 hK8 => ?_
    refine W.cond (.pl rfl) (fun hC9 => ?_) (fun hC9 => ?_)
    · replace hF5 := cpos hC9 hF5
      refine W.skip ?_
      refine W.go hK8 (.cons (i := 1) rfl (.cons (i := 2) rfl (.cons (i := 6) rfl (.cons (i := 7) rfl (.nil))))) ?_
      obtain ⟨o10, hF10, hF5⟩ := bnd hF5
      refine W.join1 (Em := fun (After7 : (List Int)) => []) (M := fun After7 => [cBx b2 99 (encRel (Rel.mk r1.n After7)), cBx b3 99 (encRel (Rel.mk 0 []))]) (I := fun After7 => After7 = o10) (.cons (i := 1) rfl (.cons (i := 2) rfl (.cons (i := 6) rfl (.cons (i := 7) rfl (.nil))))) (fun K11 hK11 => ?_) ?_
      · -- up to
        refine W.block ?_
        refine W.seqR fun Q12 hQ12 => ?_
        refine WL.q (Y.move (.pl rfl)) rfl ?_
        refine WL.q (Y.assign (.pl rfl)) rfl ?_
        refine WL.next hQ12 (.cons (i := 1) rfl (.cons (i := 2) rfl (.cons (i := 3) rfl (.cons (i := 6) rfl (.cons (i := 7) rfl (.nil)))))) ?_
        refine W.seqR fun Q13 hQ13 => ?_
        refine WL.q (Y.fieldAddr0 (off := 0) (ft := 3) Try.underlying99 rfl cells3 (.pl rfl)) rfl ?_
        refine WL.q (Y.loadB (v := .int .i64 r1.n) Try.underlying3 rfl (.pl rfl) (i := 0) rfl (rfl)) rfl ?_
        refine WL.q (Y.move (.pl rfl)) rfl ?_
        refine WL.next hQ13 (.cons (i := 1) rfl (.cons (i := 2) rfl (.cons (i := 3) rfl (.cons (i := 6) rfl (.cons (i := 7) rfl (.cons (i := 11) rfl (.cons (i := 12) rfl (.nil)))))))) ?_
        refine W.block ?_
        refine W.loop2 (Em := fun (After8 : (List Int)) (v9 : Int) => [(12, .int .i64 v9)]) (M := fun After8 v9 => [cBx b2 99 (encRel (Rel.mk r1.n After8)), cBx b3 99 (encRel (Rel.mk 0 []))]) (I := fun After8 v9 k14 => iter (order_closed_L27 N r1 v6) k14 (After8, v9) = some o10) After5 0 N (hF10) (.cons rfl (.nil)) (.cons (i := 1) rfl (.cons (i := 2) rfl (.cons (i := 3) rfl (.cons (i := 6) rfl (.cons (i := 7) rfl (.cons (i := 11) rfl (.nil))))))) (fun wz hw => hw.pick [0, 1] rfl) (fun After8 v9 k14 hI K15 hK15 => ?_)
        obtain ⟨k14, t14, rfl, hF14, hN14⟩ := iter_step hI
        refine W.seqR fun Q16 hQ16 => ?_
        refine WL.q (Y.lss (.pl rfl) (.pl rfl)) rfl ?_
        refine WL.next hQ16 (.cons (i := 1) rfl (.cons (i := 2) rfl (.cons (i := 3) rfl (.cons (i := 6) rfl (.cons (i := 7) rfl (.cons (i := 11) rfl (.cons (i := 12) rfl (.cons (i := 13) rfl (.nil))))))))) ?_
        refine W.seq fun K17 hK17 => ?_
        refine W.cond (.pl rfl) (fun hC18 => ?_) (fun hC18 => ?_)
        · replace hF14 := cpos hC18 hF14
          refine W.skip ?_
          refine W.go hK17 (.cons (i := 1) rfl (.cons (i := 2) rfl (.cons (i := 3) rfl (.cons (i := 6) rfl (.cons (i := 7) rfl (.cons (i := 11) rfl (.cons (i := 12) rfl (.nil)))))))) ?_
          refine W.seq fun K19 hK19 => ?_
          refine W.block ?_
          refine W.seqR fun Q20 hQ20 => ?_
          refine WL.q (Y.move (.pl rfl)) rfl ?_
          refine WL.q (Y.assign (.pl rfl)) rfl ?_
          refine WL.next hQ20 (.cons (i := 1) rfl (.cons (i := 2) rfl (.cons (i := 3) rfl (.cons (i := 4) rfl (.cons (i := 6) rfl (.cons (i := 7) rfl (.cons (i := 11) rfl (.cons (i := 12) rfl (.nil))))))))) ?_
          refine W.seqR fun Q21 hQ21 => ?_
          refine WL.q (Y.move (.pl rfl)) rfl ?_
          refine WL.q (Y.fieldAddr0 (off := 1) (ft := 97) Try.underlying99 rfl cells97 (.pl rfl)) rfl ?_
          obtain ⟨x10, hx10, hF14⟩ := bnd hF14
          refine WL.q (Y.arrZ Try.underlying97 cells96 (.pl rfl) (.pl rfl) (ax_lt (hx10))) rfl ?_
          refine WL.q (Y.loadB (v := .int .u16 x10) Try.underlying96 rfl (.pl rfl) (i := 0) rfl (cellsA (pre := (Value.int .i64 r1.n :: [])) (off := 1) (post := []) (a := After8) (enc := (eI .u16)) (d := 0) (n := 12) (sz := 1) (j := 0) (fun _ => rfl) rfl (ax_nat (hx10)) (ax_get (hx10)) rfl)) rfl ?_
          refine WL.q (Y.move (.pl rfl)) rfl ?_
          refine WL.q (Y.conv Try.underlying3 Try.underlying113 (.pl rfl)) rfl ?_
          refine WL.q (Y.shr (.pl rfl) (.pl rfl) (wrapU_nn rfl _)) rfl ?_
          refine WL.q (Y.band (.pl rfl) (.pl rfl)) rfl ?_
          refine WL.q (Y.eql (.pl rfl) (.pl rfl)) rfl ?_
          refine WL.next hQ21 (.cons (i := 1) rfl (.cons (i := 2) rfl (.cons (i := 3) rfl (.cons (i := 4) rfl (.cons (i := 6) rfl (.cons (i := 7) rfl (.cons (i := 11) rfl (.cons (i := 12) rfl (.cons (i := 23) rfl (.nil)))))))))) ?_
          refine W.cond (.pl rfl) (fun hC22 => ?_) (fun hC22 => ?_)
          · replace hF14 := cpos hC22 hF14
            refine W.regT 11 (by kernel_rfl) (by kernel_rfl) ?_
            refine WS.q (Y.move (.pl rfl)) rfl ?_
            refine WS.q (Y.fieldAddr0 (off := 1) (ft := 97) Try.underlying99 rfl cells97 (.pl rfl)) rfl ?_
            obtain ⟨x11, hx11, hF14⟩ := bnd hF14
            refine WS.q (Y.arrZ Try.underlying97 cells96 (.pl rfl) (.pl rfl) (ax_lt (hx11))) rfl ?_
            refine WS.q (Y.loadB (v := .int .u16 x11) Try.underlying96 rfl (.pl rfl) (i := 0) rfl (cellsA (pre := (Value.int .i64 r1.n :: [])) (off := 1) (post := []) (a := After8) (enc := (eI .u16)) (d := 0) (n := 12) (sz := 1) (j := 0) (fun _ => rfl) rfl (ax_nat (hx11)) (ax_get (hx11)) rfl)) rfl ?_
            refine WS.q (Y.move (.pl rfl)) rfl ?_
            refine WS.q (Y.fieldAddr0 (off := 1) (ft := 97) Try.underlying99 rfl cells97 (.pl rfl)) rfl ?_
            obtain ⟨x12, hx12, hF14⟩ := bnd hF14
            refine WS.q (Y.arrZ Try.underlying97 cells96 (.pl rfl) (.pl rfl) (ax_lt (hx12))) rfl ?_
            refine WS.q (Y.loadB (v := .int .u16 x12) Try.underlying96 rfl (.pl rfl) (i := 0) rfl (cellsA (pre := (Value.int .i64 r1.n :: [])) (off := 1) (post := []) (a := After8) (enc := (eI .u16)) (d := 0) (n := 12) (sz := 1) (j := 0) (fun _ => rfl) rfl (ax_nat (hx12)) (ax_get (hx12)) rfl)) rfl ?_
            refine WS.q (Y.bor (.pl rfl) (.pl rfl)) rfl ?_
            refine WS.q (Y.fieldAddr0 (off := 1) (ft := 97) Try.underlying99 rfl cells97 (.pl rfl)) rfl ?_
            obtain ⟨x13, hx13, hF14⟩ := bnd hF14
            refine WS.q (Y.arrZ Try.underlying97 cells96 (.pl rfl) (.pl rfl) (ax_lt (hx13))) rfl ?_
            refine WS.tail ?_
            refine WL.step (WO.storeB (cs' := (encRel (Rel.mk r1.n (setA 12 0 After8 v9 (borI .u16 x11 x12))))) cells96 (.pl rfl) (.pl rfl) rfl (i := 0) rfl (ltl (m := 13) (offlt (off := 1) (sz := 1) (j := 0) (ax_nat (hx13)) (by decide)) rfl) (cellsSet (pre := (Value.int .i64 r1.n :: [])) (off := 1) (post := []) (a := After8) (enc := (eI .u16)) (d := 0) (n := 12) (sz := 1) (j := 0) (x := x13) (x' := (borI .u16 x11 x12)) (fun _ => rfl) rfl (ax_lt (hx13)) (ax_get (hx13)) (by decide) rfl rfl) ?_)
            refine WL.nil ?_
            refine W.go hK19 (.cons (i := 1) rfl (.cons (i := 2) rfl (.cons (i := 3) rfl (.cons (i := 6) rfl (.cons (i := 7) rfl (.cons (i := 11) rfl (.cons (i := 12) rfl (.nil)))))))) ?_
            refine W.reg ?_
            obtain ⟨hk14, hF14⟩ := ckh hF14
            refine WL.q (Y.add (.pl rfl) (.pl rfl) (ok64_lt (hk14))) rfl ?_
            refine WL.q (Y.move (.pl rfl)) rfl ?_
            refine WL.nil ?_
            obtain rfl := Option.some.inj hF14
            exact W.again2 hK15 (setA 12 0 After8 v9 (borI .u16 x11 x12)) (v9 + 1) k14 hN14 (Nat.lt_succ_self _) (.cons rfl (.nil)) (.cons (i := 1) rfl (.cons (i := 2) rfl (.cons (i := 3) rfl (.cons (i := 6) rfl (.cons (i := 7) rfl (.cons (i := 11) rfl (.nil))))))) (fun wz hw => hw.pick [0, 1] rfl)
          · replace hF14 := cneg hC22 hF14
            refine W.skip ?_
            refine W.go hK19 (.cons (i := 1) rfl (.cons (i := 2) rfl (.cons (i := 3) rfl (.cons (i := 6) rfl (.cons (i := 7) rfl (.cons (i := 11) rfl (.cons (i := 12) rfl (.nil)))))))) ?_
            refine W.reg ?_
            obtain ⟨hk15, hF14⟩ := ckh hF14
            refine WL.q (Y.add (.pl rfl) (.pl rfl) (ok64_lt (hk15))) rfl ?_
            refine WL.q (Y.move (.pl rfl)) rfl ?_
            refine WL.nil ?_
            obtain rfl := Option.some.inj hF14
            exact W.again2 hK15 After8 (v9 + 1) k14 hN14 (Nat.lt_succ_self _) (.cons rfl (.nil)) (.cons (i := 1) rfl (.cons (i := 2) rfl (.cons (i := 3) rfl (.cons (i := 6) rfl (.cons (i := 7) rfl (.cons (i := 11) rfl (.nil))))))) (fun wz hw => hw.pick [0, 1] rfl)
        · replace hF14 := cneg hC18 hF14
          refine W.exit ?_
          obtain rfl := Option.some.inj hF14
          exact W.joinAt1 hK11 After8 (einr hN14) (.nil) (.cons (i := 1) rfl (.cons (i := 2) rfl (.cons (i := 6) rfl (.cons (i := 7) rfl (.nil))))) (fun wz hw => hw.pick [0, 1] rfl)
      · -- behind
        rintro After7 rfl
        refine W.reg ?_
        obtain ⟨hk16, hF5⟩ := ckh hF5
        refine WL.q (Y.add (.pl rfl) (.pl rfl) (ok64_lt (hk16))) rfl ?_
        refine WL.q (Y.move (.pl rfl)) rfl ?_
        refine WL.nil ?_
        obtain rfl := Option.some.inj hF5
        exact W.again2 hK6 After7 (v6 + 1) k5 hN5 (Nat.lt_succ_self _) (.cons rfl (.nil)) (.cons (i := 1) rfl (.cons (i := 2) rfl (.cons (i := 6) rfl (.nil)))) (fun wz hw => hw.pick [0, 1] rfl)
    · replace hF5 := cneg hC9 hF5
      refine W.exit ?_
      obtain rfl := Option.some.inj hF5
      exact W.joinAt1 hK3 After5 (einr hN5) (.nil) (.cons (i := 1) rfl (.cons (i := 2) rfl (.nil))) (fun wz hw => hw.pick [0, 1] rfl)
  · -- behind
    rintro After4 rfl
    refine W.seqR fun Q27 hQ27 => ?_
    refine WL.q (Y.loadBA (ds := (encRel (Rel.mk r1.n After4))) Try.underlying99 rfl cells99 (.pl rfl) (i := 0) rfl rfl subW) rfl ?_
    refine WL.step (WO.storeBA (ds := (encRel (Rel.mk r1.n After4))) (cs' := (encRel (Rel.mk r1.n After4))) cells99 (.pl rfl) (.pl rfl) rfl (oneRel _) (i := 1) rfl (lel (o := 0) (l := 13) (m := 13) (by decide) rfl rfl) (putW rfl) ?_)
    refine WL.next hQ27 (.cons (i := 2) rfl (.nil)) ?_
    obtain rfl := Option.some.inj hF
    refine W.retV (fn := Try.f104) (vs := [.agg (encRel (Rel.mk r1.n After4)).toArray]) Try.results104 ⟨.cellA Try.underlying99 rfl cells99 rfl (i := 1) rfl rfl, trivial⟩ (fun _ _ h => h) (fun wz hw => ?_)
    exact hR _ _ ⟨rfl, (hw.pick [] rfl)⟩

def order_Close_L3 (N : Nat) (r1 : Rel) (r5 : (List Int)) : Int → Option (Int ⊕ (Unit ⊕ (Int × (List Int) × Bool × Int)))
  | v7 =>
    cond (decide (v7 < r1.n))
      (bd (ax 12 0 r5 v7) fun (x8 : Int) =>
      cond (decide ((bandI .u16 (shrI .u16 x8 (IntKind.u64.wrap v7)) 1) = 1))
        (some (.inr (.inr (r1.n, r5, true, 0))))
        (ck (ok64 (v7 + 1)) <|
        some (.inl (v7 + 1))))
      (some (.inr (.inl ())))

def order_Close (N : Nat) (r1 : Rel) : Option (Int × (List Int) × Bool × Int) :=
  bd (order_Check N r1) fun (r4 : Int) =>
  cond (!(decide (r4 = 0)))
    (some (0, [], false, r4))
    (bd (order_closed N r1) fun (r5 : (List Int)) =>
    bd (α := (Unit ⊕ (Int × (List Int) × Bool × Int))) (iter (order_Close_L3 N r1 r5) N 0) <|
    Sum.elim (fun _ => 
      some (r1.n, r5, false, 0)) (fun p => some p))

theorem order_Close_ok {N : Nat} {r1 : Rel} {res : (Int × (List Int) × Bool × Int)} (hF : order_Close N r1 = some res) (w : World) :
    Pure Try.prog 97 [.agg (encRel r1).toArray] w (.tuple #[.agg (encRel (Rel.mk res.1 res.2.1)).toArray, .bool res.2.2.1, .int .i64 res.2.2.2]) := by
  refine W.enter (n := 33) Try.func97 rfl rfl Sub.refl (by simp) (St.start w) fun R hR => ?_
  unfold order_Close at hF
  refine W.seqR fun Q1 hQ1 => ?_
  refine WL.step (WO.boxA (.pl rfl) rfl fun b2 => ?_)
  refine WL.step (WO.alloc (cs := (encRel (Rel.mk 0 [])).toArray) zero99 rfl rfl fun b3 => ?_)
  refine WL.q (Y.assign (.pl rfl)) rfl ?_
  refine WL.q (Y.assign (.pl rfl)) rfl ?_
  refine WL.next hQ1 (.cons (i := 1) rfl (.cons (i := 2) rfl (.nil))) ?_
  refine W.seq fun K2 hK2 => ?_
  refine W.seqR fun Q3 hQ3 => ?_
  refine WL.q (Y.loadBA (ds := (encRel r1)) Try.underlying99 rfl cells99 (.pl rfl) (i := 1) rfl rfl subW) rfl ?_
  obtain ⟨r4, hr4, hF⟩ := bnd hF
  refine WL.step (WO.callP isGo103 (.cons (.pl rfl) (.nil)) rfl (fun wz hw => order_Check_ok (hr4) wz ) ?_)
  refine WL.q (Y.assign (.pl rfl)) rfl ?_
  refine WL.next hQ3 (.cons (i := 1) rfl (.cons (i := 2) rfl (.cons (i := 5) rfl (.nil)))) ?_
  refine W.seqR fun Q4 hQ4 => ?_
  refine WL.q (Y.move (.pl rfl)) rfl ?_
  refine WL.q (Y.neq (.pl rfl) (.pl rfl)) rfl ?_
  refine WL.next hQ4 (.cons (i := 1) rfl (.cons (i := 2) rfl (.cons (i := 5) rfl (.cons (i := 11) rfl (.nil))))) ?_
  refine W.cond (.pl rfl) (fun hC5 => ?_) (fun hC5 => ?_)
  · replace hF := cpos hC5 hF
    refine W.seqR fun Q6 hQ6 => ?_
    refine WL.q (Y.build (cs := (encRel (Rel.mk 0 [])).toArray) shape99 (.nil) (one_parts trivial) rfl) rfl ?_
    refine WL.q (Y.move (.pl rfl)) rfl ?_
    refine WL.step (WO.storeBA (ds := (encRel (Rel.mk 0 []))) (cs' := (encRel (Rel.mk 0 []))) cells99 (.pl rfl) (.pl rfl) rfl (oneRel _) (i := 0) rfl (lel (o := 0) (l := 13) (m := 13) (by decide) rfl rfl) (putW rfl) ?_)
    refine WL.q (Y.assign (.pl rfl)) rfl ?_
    refine WL.q (Y.assign (.pl rfl)) rfl ?_
    refine WL.next hQ6 (.cons (i := 2) rfl (.cons (i := 3) rfl (.cons (i := 4) rfl (.nil)))) ?_
    obtain rfl := Option.some.inj hF
    refine W.retV (fn := Try.f97) (vs := [.agg (encRel (Rel.mk 0 [])).toArray, .bool false, .int .i64 r4]) Try.results97 ⟨.cellA Try.underlying99 rfl cells99 rfl (i := 0) rfl rfl, ⟨.tmp rfl, ⟨.tmp rfl, trivial⟩⟩⟩ (fun _ _ h => h) (fun wz hw => ?_)
    exact hR _ _ ⟨rfl, (hw.pick [] rfl)⟩
  · replace hF := cneg hC5 hF
    refine W.skip ?_
    refine W.go hK2 (.cons (i := 1) rfl (.cons (i := 2) rfl (.nil))) ?_
    refine W.seqR fun Q7 hQ7 => ?_
    refine WL.q (Y.loadBA (ds := (encRel r1)) Try.underlying99 rfl cells99 (.pl rfl) (i := 1) rfl rfl subW) rfl ?_
    obtain ⟨r5, hr5, hF⟩ := bnd hF
    refine WL.step (WO.callP isGo104 (.cons (.pl rfl) (.nil)) rfl (fun wz hw => order_closed_ok (hr5) wz ) ?_)
    refine WL.step (WO.alloc (cs := (encRel (Rel.mk 0 [])).toArray) zero99 rfl rfl fun b6 => ?_)
    refine WL.step (WO.storeBA (ds := (encRel (Rel.mk r1.n r5))) (cs' := (encRel (Rel.mk r1.n r5))) cells99 (.pl rfl) (.pl rfl) rfl (oneRel _) (i := 0) rfl (lel (o := 0) (l := 13) (m := 13) (by decide) rfl rfl) (putW rfl) ?_)
    refine WL.next hQ7 (.cons (i := 2) rfl (.cons (i := 6) rfl (.nil))) ?_
    obtain ⟨o8, hF8, hF⟩ := bnd hF
    refine W.join0 (Em := []) (M := [cBx b3 99 (encRel (Rel.mk 0 [])), cBx b6 99 (encRel (Rel.mk r1.n r5))]) (I := (.inl ()) = o8) (.cons (i := 2) rfl (.cons (i := 6) rfl (.nil))) (fun K9 hK9 => ?_) ?_
    · -- up to
      refine W.seqR fun Q10 hQ10 => ?_
      refine WL.q (Y.fieldAddr0 (off := 0) (ft := 3) Try.underlying99 rfl cells3 (.pl rfl)) rfl ?_
      refine WL.q (Y.loadB (v := .int .i64 r1.n) Try.underlying3 rfl (.pl rfl) (i := 0) rfl (rfl)) rfl ?_
      refine WL.q (Y.move (.pl rfl)) rfl ?_
      refine WL.next hQ10 (.cons (i := 2) rfl (.cons (i := 6) rfl (.cons (i := 17) rfl (.cons (i := 18) rfl (.nil))))) ?_
      refine W.block ?_
      refine W.loop1 (Em := fun (v7 : Int) => [(18, .int .i64 v7)]) (M := fun v7 => [cBx b3 99 (encRel (Rel.mk 0 [])), cBx b6 99 (encRel (Rel.mk r1.n r5))]) (I := fun v7 k11 => iter (order_Close_L3 N r1 r5) k11 v7 = some o8) 0 N (hF8) (.cons rfl (.nil)) (.cons (i := 2) rfl (.cons (i := 6) rfl (.cons (i := 17) rfl (.nil)))) (fun wz hw => hw.pick [1, 0] rfl) (fun v7 k11 hI K12 hK12 => ?_)
      obtain ⟨k11, t11, rfl, hF11, hN11⟩ := iter_step hI
      refine W.seqR fun Q13 hQ13 => ?_
      refine WL.q (Y.lss (.pl rfl) (.pl rfl)) rfl ?_
      refine WL.next hQ13 (.cons (i := 2) rfl (.cons (i := 6) rfl (.cons (i := 17) rfl (.cons (i := 18) rfl (.cons (i := 19) rfl (.nil)))))) ?_
      refine W.seq fun K14 hK14 => ?_
      refine W.cond (.pl rfl) (fun hC15 => ?_) (fun hC15 => ?_)
      · replace hF11 := cpos hC15 hF11
        refine W.skip ?_
        refine W.go hK14 (.cons (i := 2) rfl (.cons (i := 6) rfl (.cons (i := 17) rfl (.cons (i := 18) rfl (.nil))))) ?_
        refine W.seq fun K16 hK16 => ?_
        refine W.block ?_
        refine W.seqR fun Q17 hQ17 => ?_
        refine WL.q (Y.move (.pl rfl)) rfl ?_
        refine WL.q (Y.assign (.pl rfl)) rfl ?_
        refine WL.next hQ17 (.cons (i := 2) rfl (.cons (i := 6) rfl (.cons (i := 7) rfl (.cons (i := 17) rfl (.cons (i := 18) rfl (.nil)))))) ?_
        refine W.seqR fun Q18 hQ18 => ?_
        refine WL.q (Y.move (.pl rfl)) rfl ?_
        refine WL.q (Y.fieldAddr0 (off := 1) (ft := 97) Try.underlying99 rfl cells97 (.pl rfl)) rfl ?_
        obtain ⟨x8, hx8, hF11⟩ := bnd hF11
        refine WL.q (Y.arrZ Try.underlying97 cells96 (.pl rfl) (.pl rfl) (ax_lt (hx8))) rfl ?_
        refine WL.q (Y.loadB (v := .int .u16 x8) Try.underlying96 rfl (.pl rfl) (i := 1) rfl (cellsA (pre := (Value.int .i64 r1.n :: [])) (off := 1) (post := []) (a := r5) (enc := (eI .u16)) (d := 0) (n := 12) (sz := 1) (j := 0) (fun _ => rfl) rfl (ax_nat (hx8)) (ax_get (hx8)) rfl)) rfl ?_
        refine WL.q (Y.move (.pl rfl)) rfl ?_
        refine WL.q (Y.conv Try.underlying3 Try.underlying113 (.pl rfl)) rfl ?_
        refine WL.q (Y.shr (.pl rfl) (.pl rfl) (wrapU_nn rfl _)) rfl ?_
        refine WL.q (Y.band (.pl rfl) (.pl rfl)) rfl ?_
        refine WL.q (Y.eql (.pl rfl) (.pl rfl)) rfl ?_
        refine WL.next hQ18 (.cons (i := 2) rfl (.cons (i := 6) rfl (.cons (i := 17) rfl (.cons (i := 18) rfl (.cons (i := 29) rfl (.nil)))))) ?_
        refine W.cond (.pl rfl) (fun hC19 => ?_) (fun hC19 => ?_)
        · replace hF11 := cpos hC19 hF11
          refine W.seqR fun Q20 hQ20 => ?_
          refine WL.q (Y.loadBA (ds := (encRel (Rel.mk r1.n r5))) Try.underlying99 rfl cells99 (.pl rfl) (i := 1) rfl rfl subW) rfl ?_
          refine WL.step (WO.storeBA (ds := (encRel (Rel.mk r1.n r5))) (cs' := (encRel (Rel.mk r1.n r5))) cells99 (.pl rfl) (.pl rfl) rfl (oneRel _) (i := 0) rfl (lel (o := 0) (l := 13) (m := 13) (by decide) rfl rfl) (putW rfl) ?_)
          refine WL.q (Y.assign (.pl rfl)) rfl ?_
          refine WL.q (Y.assign (.pl rfl)) rfl ?_
          refine WL.next hQ20 (.cons (i := 2) rfl (.cons (i := 3) rfl (.cons (i := 4) rfl (.nil)))) ?_
          obtain rfl := Option.some.inj hF11
          obtain rfl := einr hN11
          obtain rfl := Option.some.inj hF
          refine W.retV (fn := Try.f97) (vs := [.agg (encRel (Rel.mk r1.n r5)).toArray, .bool true, .int .i64 0]) Try.results97 ⟨.cellA Try.underlying99 rfl cells99 rfl (i := 0) rfl rfl, ⟨.tmp rfl, ⟨.tmp rfl, trivial⟩⟩⟩ (fun _ _ h => h) (fun wz hw => ?_)
          exact hR _ _ ⟨rfl, (hw.pick [] rfl)⟩
        · replace hF11 := cneg hC19 hF11
          refine W.skip ?_
          refine W.go hK16 (.cons (i := 2) rfl (.cons (i := 6) rfl (.cons (i := 17) rfl (.cons (i := 18) rfl (.nil))))) ?_
          refine W.reg ?_
          obtain ⟨hk9, hF11⟩ := ckh hF11
          refine WL.q (Y.add (.pl rfl) (.pl rfl) (ok64_lt (hk9))) rfl ?_
          refine WL.q (Y.move (.pl rfl)) rfl ?_
          refine WL.nil ?_
          obtain rfl := Option.some.inj hF11
          exact W.again1 hK12 (v7 + 1) k11 hN11 (Nat.lt_succ_self _) (.cons rfl (.nil)) (.cons (i := 2) rfl (.cons (i := 6) rfl (.cons (i := 17) rfl (.nil)))) (fun wz hw => hw.pick [0, 1] rfl)
      · replace hF11 := cneg hC15 hF11
        refine W.exit ?_
        obtain rfl := Option.some.inj hF11
        exact W.joinAt0 hK9  (einr hN11) (.nil) (.cons (i := 2) rfl (.cons (i := 6) rfl (.nil))) (fun wz hw => hw.pick [0, 1] rfl)
    · -- behind
      rintro  rfl
      refine W.seqR fun Q22 hQ22 => ?_
      refine WL.q (Y.loadBA (ds := (encRel (Rel.mk r1.n r5))) Try.underlying99 rfl cells99 (.pl rfl) (i := 1) rfl rfl subW) rfl ?_
      refine WL.step (WO.storeBA (ds := (encRel (Rel.mk r1.n r5))) (cs' := (encRel (Rel.mk r1.n r5))) cells99 (.pl rfl) (.pl rfl) rfl (oneRel _) (i := 0) rfl (lel (o := 0) (l := 13) (m := 13) (by decide) rfl rfl) (putW rfl) ?_)
      refine WL.q (Y.assign (.pl rfl)) rfl ?_
      refine WL.q (Y.assign (.pl rfl)) rfl ?_
      refine WL.next hQ22 (.cons (i := 2) rfl (.cons (i := 3) rfl (.cons (i := 4) rfl (.nil)))) ?_
      obtain rfl := Option.some.inj hF
      refine W.retV (fn := Try.f97) (vs := [.agg (encRel (Rel.mk r1.n r5)).toArray, .bool false, .int .i64 0]) Try.results97 ⟨.cellA Try.underlying99 rfl cells99 rfl (i := 0) rfl rfl, ⟨.tmp rfl, ⟨.tmp rfl, trivial⟩⟩⟩ (fun _ _ h => h) (fun wz hw => ?_)
      exact hR _ _ ⟨rfl, (hw.pick [] rfl)⟩

def order_acyclic (N : Nat) (r1 : Rel) : Option (Int × (List Int) × Int) :=
  bd (order_Close N r1) fun (r4 : (Int × (List Int) × Bool × Int)) =>
  cond (!(decide (r4.2.2.2 = 0)))
    (some (0, [], r4.2.2.2))
    (cond r4.2.2.1
      (some (0, [], 4))
      (some (r4.1, r4.2.1, 0)))

theorem order_acyclic_ok {N : Nat} {r1 : Rel} {res : (Int × (List Int) × Int)} (hF : order_acyclic N r1 = some res) (w : World) :
    Pure Try.prog 95 [.agg (encRel r1).toArray] w (.tuple #[.agg (encRel (Rel.mk res.1 res.2.1)).toArray, .int .i64 res.2.2]) := by
  refine W.enter (n := 22) Try.func95 rfl rfl Sub.refl (by simp) (St.start w) fun R hR => ?_
  unfold order_acyclic at hF
  refine W.seqR fun Q1 hQ1 => ?_
  refine WL.step (WO.boxA (.pl rfl) rfl fun b2 => ?_)
  refine WL.step (WO.alloc (cs := (encRel (Rel.mk 0 [])).toArray) zero99 rfl rfl fun b3 => ?_)
  refine WL.q (Y.assign (.pl rfl)) rfl ?_
  refine WL.next hQ1 (.cons (i := 1) rfl (.cons (i := 2) rfl (.nil))) ?_
  refine W.seqR fun Q2 hQ2 => ?_
  refine WL.q (Y.loadBA (ds := (encRel r1)) Try.underlying99 rfl cells99 (.pl rfl) (i := 1) rfl rfl subW) rfl ?_
  obtain ⟨r4, hr4, hF⟩ := bnd hF
  refine WL.step (WO.callP isGo97 (.cons (.pl rfl) (.nil)) rfl (fun wz hw => order_Close_ok (hr4) wz ) ?_)
  refine WL.q (Y.move (.pl rfl)) rfl ?_
  refine WL.q (Y.extract (.pl rfl) rfl) rfl ?_
  refine WL.q (Y.extract (.pl rfl) rfl) rfl ?_
  refine WL.q (Y.extract (.pl rfl) rfl) rfl ?_
  refine WL.step (WO.alloc (cs := (encRel (Rel.mk 0 [])).toArray) zero99 rfl rfl fun b5 => ?_)
  refine WL.step (WO.storeBA (ds := (encRel (Rel.mk r4.1 r4.2.1))) (cs' := (encRel (Rel.mk r4.1 r4.2.1))) cells99 (.pl rfl) (.pl rfl) rfl (oneRel _) (i := 0) rfl (lel (o := 0) (l := 13) (m := 13) (by decide) rfl rfl) (putW rfl) ?_)
  refine WL.q (Y.assign (.pl rfl)) rfl ?_
  refine WL.q (Y.assign (.pl rfl)) rfl ?_
  refine WL.next hQ2 (.cons (i := 2) rfl (.cons (i := 4) rfl (.cons (i := 5) rfl (.cons (i := 6) rfl (.nil))))) ?_
  refine W.seq fun K3 hK3 => ?_
  refine W.block ?_
  refine W.seqR fun Q4 hQ4 => ?_
  refine WL.q (Y.move (.pl rfl)) rfl ?_
  refine WL.q (Y.neq (.pl rfl) (.pl rfl)) rfl ?_
  refine WL.q (Y.assign (.pl rfl)) rfl ?_
  refine WL.next hQ4 (.cons (i := 2) rfl (.cons (i := 4) rfl (.cons (i := 5) rfl (.cons (i := 6) rfl (.cons (i := 13) rfl (.nil)))))) ?_
  refine W.cond (.pl rfl) (fun hC5 => ?_) (fun hC5 => ?_)
  · replace hF := cpos hC5 hF
    refine W.seqR fun Q6 hQ6 => ?_
    refine WL.q (Y.build (cs := (encRel (Rel.mk 0 [])).toArray) shape99 (.nil) (one_parts trivial) rfl) rfl ?_
    refine WL.q (Y.move (.pl rfl)) rfl ?_
    refine WL.step (WO.storeBA (ds := (encRel (Rel.mk 0 []))) (cs' := (encRel (Rel.mk 0 []))) cells99 (.pl rfl) (.pl rfl) rfl (oneRel _) (i := 1) rfl (lel (o := 0) (l := 13) (m := 13) (by decide) rfl rfl) (putW rfl) ?_)
    refine WL.q (Y.assign (.pl rfl)) rfl ?_
    refine WL.next hQ6 (.cons (i := 2) rfl (.cons (i := 3) rfl (.nil))) ?_
    obtain rfl := Option.some.inj hF
    refine W.retV (fn := Try.f95) (vs := [.agg (encRel (Rel.mk 0 [])).toArray, .int .i64 r4.2.2.2]) Try.results95 ⟨.cellA Try.underlying99 rfl cells99 rfl (i := 1) rfl rfl, ⟨.tmp rfl, trivial⟩⟩ (fun _ _ h => h) (fun wz hw => ?_)
    exact hR _ _ ⟨rfl, (hw.pick [] rfl)⟩
  · replace hF := cneg hC5 hF
    refine W.seqR fun Q7 hQ7 => ?_
    refine WL.q (Y.move (.pl rfl)) rfl ?_
    refine WL.q (Y.assign (.pl rfl)) rfl ?_
    refine WL.next hQ7 (.cons (i := 2) rfl (.cons (i := 4) rfl (.cons (i := 18) rfl (.nil)))) ?_
    refine W.cond (.pl rfl) (fun hC8 => ?_) (fun hC8 => ?_)
    · replace hF := cpos hC8 hF
      refine W.seqR fun Q9 hQ9 => ?_
      refine WL.q (Y.build (cs := (encRel (Rel.mk 0 [])).toArray) shape99 (.nil) (one_parts trivial) rfl) rfl ?_
      refine WL.step (WO.storeBA (ds := (encRel (Rel.mk 0 []))) (cs' := (encRel (Rel.mk 0 []))) cells99 (.pl rfl) (.pl rfl) rfl (oneRel _) (i := 1) rfl (lel (o := 0) (l := 13) (m := 13) (by decide) rfl rfl) (putW rfl) ?_)
      refine WL.q (Y.assign (.pl rfl)) rfl ?_
      refine WL.next hQ9 (.cons (i := 2) rfl (.cons (i := 3) rfl (.nil))) ?_
      obtain rfl := Option.some.inj hF
      refine W.retV (fn := Try.f95) (vs := [.agg (encRel (Rel.mk 0 [])).toArray, .int .i64 4]) Try.results95 ⟨.cellA Try.underlying99 rfl cells99 rfl (i := 1) rfl rfl, ⟨.tmp rfl, trivial⟩⟩ (fun _ _ h => h) (fun wz hw => ?_)
      exact hR _ _ ⟨rfl, (hw.pick [] rfl)⟩
    · replace hF := cneg hC8 hF
      refine W.skip ?_
      refine W.go hK3 (.cons (i := 2) rfl (.cons (i := 4) rfl (.nil))) ?_
      refine W.seqR fun Q10 hQ10 => ?_
      refine WL.q (Y.loadBA (ds := (encRel (Rel.mk r4.1 r4.2.1))) Try.underlying99 rfl cells99 (.pl rfl) (i := 0) rfl rfl subW) rfl ?_
      refine WL.step (WO.storeBA (ds := (encRel (Rel.mk r4.1 r4.2.1))) (cs' := (encRel (Rel.mk r4.1 r4.2.1))) cells99 (.pl rfl) (.pl rfl) rfl (oneRel _) (i := 1) rfl (lel (o := 0) (l := 13) (m := 13) (by decide) rfl rfl) (putW rfl) ?_)
      refine WL.q (Y.assign (.pl rfl)) rfl ?_
      refine WL.next hQ10 (.cons (i := 2) rfl (.cons (i := 3) rfl (.nil))) ?_
      obtain rfl := Option.some.inj hF
      refine W.retV (fn := Try.f95) (vs := [.agg (encRel (Rel.mk r4.1 r4.2.1)).toArray, .int .i64 0]) Try.results95 ⟨.cellA Try.underlying99 rfl cells99 rfl (i := 1) rfl rfl, ⟨.tmp rfl, trivial⟩⟩ (fun _ _ h => h) (fun wz hw => ?_)
      exact hR _ _ ⟨rfl, (hw.pick [] rfl)⟩

def order_has (N : Nat) (c1 : Rel) (i2 : Int) (j3 : Int) : Option Bool :=
  bd (ax 12 0 c1.after i2) fun (x5 : Int) =>
  some (decide ((bandI .u16 (shrI .u16 x5 (IntKind.u64.wrap j3)) 1) = 1))

theorem order_has_ok {N : Nat} {c1 : Rel} {i2 : Int} {j3 : Int} {res : Bool} (hF : order_has N c1 i2 j3 = some res) (w : World) :
    Pure Try.prog 102 [.agg (encRel c1).toArray, .int .i64 i2, .int .i64 j3] w (.bool res) := by
  refine W.enter (n := 16) Try.func102 rfl rfl Sub.refl (by simp) (St.start w) fun R hR => ?_
  unfold order_has at hF
  refine W.seqR fun Q1 hQ1 => ?_
  refine WL.step (WO.boxA (.pl rfl) rfl fun b4 => ?_)
  refine WL.q (Y.assign (.pl rfl)) rfl ?_
  refine WL.next hQ1 (.cons (i := 1) rfl (.cons (i := 2) rfl (.cons (i := 3) rfl (.nil)))) ?_
  refine W.seqR fun Q2 hQ2 => ?_
  refine WL.q (Y.move (.pl rfl)) rfl ?_
  refine WL.q (Y.fieldAddr0 (off := 1) (ft := 97) Try.underlying99 rfl cells97 (.pl rfl)) rfl ?_
  obtain ⟨x5, hx5, hF⟩ := bnd hF
  refine WL.q (Y.arrZ Try.underlying97 cells96 (.pl rfl) (.pl rfl) (ax_lt (hx5))) rfl ?_
  refine WL.q (Y.loadB (v := .int .u16 x5) Try.underlying96 rfl (.pl rfl) (i := 0) rfl (cellsA (pre := (Value.int .i64 c1.n :: [])) (off := 1) (post := []) (a := c1.after) (enc := (eI .u16)) (d := 0) (n := 12) (sz := 1) (j := 0) (fun _ => rfl) rfl (ax_nat (hx5)) (ax_get (hx5)) rfl)) rfl ?_
  refine WL.q (Y.move (.pl rfl)) rfl ?_
  refine WL.q (Y.conv Try.underlying3 Try.underlying113 (.pl rfl)) rfl ?_
  refine WL.q (Y.shr (.pl rfl) (.pl rfl) (wrapU_nn rfl _)) rfl ?_
  refine WL.q (Y.band (.pl rfl) (.pl rfl)) rfl ?_
  refine WL.q (Y.eql (.pl rfl) (.pl rfl)) rfl ?_
  refine WL.q (Y.assign (.pl rfl)) rfl ?_
  refine WL.next hQ2 (.cons (i := 6) rfl (.nil)) ?_
  obtain rfl := Option.some.inj hF
  refine W.retV (fn := Try.f102) (vs := [.bool (decide ((bandI .u16 (shrI .u16 x5 (IntKind.u64.wrap j3)) 1) = 1))]) Try.results102 ⟨.tmp rfl, trivial⟩ (fun _ _ h => h) (fun wz hw => ?_)
  exact hR _ _ ⟨rfl, (hw.pick [] rfl)⟩

def order_before_L3 (N : Nat) (c1 : Rel) (j2 : Int) : (Int × Int) → Option ((Int × Int) ⊕ Int)
  | (out5, v6) =>
    cond (decide (v6 < c1.n))
      (bd (order_has N c1 v6 j2) fun (r7 : Bool) =>
      cond r7
        (ck (ok64 (v6 + 1)) <|
        some (.inl ((borI .u16 out5 (shlI .u16 1 (IntKind.u64.wrap v6))), (v6 + 1))))
        (ck (ok64 (v6 + 1)) <|
        some (.inl (out5, (v6 + 1)))))
      (some (.inr out5))

def order_before (N : Nat) (c1 : Rel) (j2 : Int) : Option Int :=
  bd (α := Int) (iter (order_before_L3 N c1 j2) N (0, 0)) <|
  fun (out4 : Int) => 
    some out4

theorem order_before_ok {N : Nat} {c1 : Rel} {j2 : Int} {res : Int} (hF : order_before N c1 j2 = some res) (w : World) :
    Pure Try.prog 96 [.agg (encRel c1).toArray, .int .i64 j2] w (.int .u16 res) := by
  refine W.enter (n := 23) Try.func96 rfl rfl Sub.refl (by simp) (St.start w) fun R hR => ?_
  unfold order_before at hF
  refine W.seqR fun Q1 hQ1 => ?_
  refine WL.step (WO.boxA (.pl rfl) rfl fun b3 => ?_)
  refine WL.q (Y.assign (.pl rfl)) rfl ?_
  refine WL.next hQ1 (.cons (i := 1) rfl (.cons (i := 2) rfl (.nil))) ?_
  refine W.seqR fun Q2 hQ2 => ?_
  refine WL.q (Y.assign (.pl rfl)) rfl ?_
  refine WL.next hQ2 (.cons (i := 1) rfl (.cons (i := 2) rfl (.cons (i := 5) rfl (.nil)))) ?_
  obtain ⟨o3, hF3, hF⟩ := bnd hF
  refine W.join1 (Em := fun (out4 : Int) => [(5, .int .u16 out4)]) (M := fun out4 => []) (I := fun out4 => out4 = o3) (.nil) (fun K4 hK4 => ?_) ?_
  · -- up to
    refine W.seqR fun Q5 hQ5 => ?_
    refine WL.q (Y.fieldAddr0 (off := 0) (ft := 3) Try.underlying99 rfl cells3 (.pl rfl)) rfl ?_
    refine WL.q (Y.loadB (v := .int .i64 c1.n) Try.underlying3 rfl (.pl rfl) (i := 0) rfl (rfl)) rfl ?_
    refine WL.q (Y.move (.pl rfl)) rfl ?_
    refine WL.next hQ5 (.cons (i := 1) rfl (.cons (i := 2) rfl (.cons (i := 5) rfl (.cons (i := 8) rfl (.cons (i := 9) rfl (.nil)))))) ?_
    refine W.block ?_
    refine W.loop2 (Em := fun (out5 : Int) (v6 : Int) => [(5, .int .u16 out5), (9, .int .i64 v6)]) (M := fun out5 v6 => [cBx b3 99 (encRel c1)]) (I := fun out5 v6 k6 => iter (order_before_L3 N c1 j2) k6 (out5, v6) = some o3) 0 0 N (hF3) (.cons rfl (.cons rfl (.nil))) (.cons (i := 1) rfl (.cons (i := 2) rfl (.cons (i := 8) rfl (.nil)))) (fun wz hw => hw.pick [0] rfl) (fun out5 v6 k6 hI K7 hK7 => ?_)
    obtain ⟨k6, t6, rfl, hF6, hN6⟩ := iter_step hI
    refine W.seqR fun Q8 hQ8 => ?_
    refine WL.q (Y.lss (.pl rfl) (.pl rfl)) rfl ?_
    refine WL.next hQ8 (.cons (i := 1) rfl (.cons (i := 2) rfl (.cons (i := 5) rfl (.cons (i := 8) rfl (.cons (i := 9) rfl (.cons (i := 10) rfl (.nil))))))) ?_
    refine W.seq fun K9 hK9 => ?_
    refine W.cond (.pl rfl) (fun hC10 => ?_) (fun hC10 => ?_)
    · replace hF6 := cpos hC10 hF6
      refine W.skip ?_
      refine W.go hK9 (.cons (i := 1) rfl (.cons (i := 2) rfl (.cons (i := 5) rfl (.cons (i := 8) rfl (.cons (i := 9) rfl (.nil)))))) ?_
      refine W.seq fun K11 hK11 => ?_
      refine W.block ?_
      refine W.seqR fun Q12 hQ12 => ?_
      refine WL.q (Y.move (.pl rfl)) rfl ?_
      refine WL.q (Y.assign (.pl rfl)) rfl ?_
      refine WL.next hQ12 (.cons (i := 1) rfl (.cons (i := 2) rfl (.cons (i := 5) rfl (.cons (i := 6) rfl (.cons (i := 8) rfl (.cons (i := 9) rfl (.nil))))))) ?_
      refine W.seqR fun Q13 hQ13 => ?_
      refine WL.q (Y.loadBA (ds := (encRel c1)) Try.underlying99 rfl cells99 (.pl rfl) (i := 0) rfl rfl subW) rfl ?_
      refine WL.q (Y.move (.pl rfl)) rfl ?_
      refine WL.q (Y.move (.pl rfl)) rfl ?_
      obtain ⟨r7, hr7, hF6⟩ := bnd hF6
      refine WL.step (WO.callP isGo102 (.cons (.pl rfl) (.cons (.pl rfl) (.cons (.pl rfl) (.nil)))) rfl (fun wz hw => order_has_ok (hr7) wz ) ?_)
      refine WL.next hQ13 (.cons (i := 1) rfl (.cons (i := 2) rfl (.cons (i := 5) rfl (.cons (i := 6) rfl (.cons (i := 8) rfl (.cons (i := 9) rfl (.cons (i := 15) rfl (.nil)))))))) ?_
      refine W.cond (.pl rfl) (fun hC14 => ?_) (fun hC14 => ?_)
      · replace hF6 := cpos hC14 hF6
        refine W.reg ?_
        refine WL.q (Y.move (.pl rfl)) rfl ?_
        refine WL.q (Y.move (.pl rfl)) rfl ?_
        refine WL.q (Y.conv Try.underlying3 Try.underlying113 (.pl rfl)) rfl ?_
        refine WL.q (Y.shl (.pl rfl) (.pl rfl) (wrapU_nn rfl _)) rfl ?_
        refine WL.q (Y.bor (.pl rfl) (.pl rfl)) rfl ?_
        refine WL.q (Y.assign (.pl rfl)) rfl ?_
        refine WL.nil ?_
        refine W.go hK11 (.cons (i := 1) rfl (.cons (i := 2) rfl (.cons (i := 5) rfl (.cons (i := 8) rfl (.cons (i := 9) rfl (.nil)))))) ?_
        refine W.reg ?_
        obtain ⟨hk8, hF6⟩ := ckh hF6
        refine WL.q (Y.add (.pl rfl) (.pl rfl) (ok64_lt (hk8))) rfl ?_
        refine WL.q (Y.move (.pl rfl)) rfl ?_
        refine WL.nil ?_
        obtain rfl := Option.some.inj hF6
        exact W.again2 hK7 (borI .u16 out5 (shlI .u16 1 (IntKind.u64.wrap v6))) (v6 + 1) k6 hN6 (Nat.lt_succ_self _) (.cons rfl (.cons rfl (.nil))) (.cons (i := 1) rfl (.cons (i := 2) rfl (.cons (i := 8) rfl (.nil)))) (fun wz hw => hw.pick [0] rfl)
      · replace hF6 := cneg hC14 hF6
        refine W.skip ?_
        refine W.go hK11 (.cons (i := 1) rfl (.cons (i := 2) rfl (.cons (i := 5) rfl (.cons (i := 8) rfl (.cons (i := 9) rfl (.nil)))))) ?_
        refine W.reg ?_
        obtain ⟨hk9, hF6⟩ := ckh hF6
        refine WL.q (Y.add (.pl rfl) (.pl rfl) (ok64_lt (hk9))) rfl ?_
        refine WL.q (Y.move (.pl rfl)) rfl ?_
        refine WL.nil ?_
        obtain rfl := Option.some.inj hF6
        exact W.again2 hK7 out5 (v6 + 1) k6 hN6 (Nat.lt_succ_self _) (.cons rfl (.cons rfl (.nil))) (.cons (i := 1) rfl (.cons (i := 2) rfl (.cons (i := 8) rfl (.nil)))) (fun wz hw => hw.pick [0] rfl)
    · replace hF6 := cneg hC10 hF6
      refine W.exit ?_
      obtain rfl := Option.some.inj hF6
      exact W.joinAt1 hK4 out5 (einr hN6) (.cons rfl (.nil)) (.nil) (fun wz hw => hw.pick [] rfl)
  · -- behind
    rintro out4 rfl
    refine W.seqR fun Q18 hQ18 => ?_
    refine WL.q (Y.move (.pl rfl)) rfl ?_
    refine WL.q (Y.assign (.pl rfl)) rfl ?_
    refine WL.next hQ18 (.cons (i := 4) rfl (.nil)) ?_
    obtain rfl := Option.some.inj hF
    refine W.retV (fn := Try.f96) (vs := [.int .u16 out4]) Try.results96 ⟨.tmp rfl, trivial⟩ (fun _ _ h => h) (fun wz hw => ?_)
    exact hR _ _ ⟨rfl, (hw.pick [] rfl)⟩

def order_Least_L15 (N : Nat) (r3 : (Int × (List Int) × Int)) (done11 : Int) (out10 : (List Int)) : Int → Option (Int ⊕ ((List Int) × Int))
  | v12 =>
    cond (decide (v12 < r3.1))
      (bd ((cond ((decide ((bandI .u16 (shrI .u16 done11 (IntKind.u64.wrap v12)) 1) = 0)) == true) (order_before N (Rel.mk r3.1 r3.2.1) v12) (some 0))) fun (r13 : Int) =>
      cond ((decide ((bandI .u16 (shrI .u16 done11 (IntKind.u64.wrap v12)) 1) = 0)) && (decide ((bclrI .u16 r13 done11) = 0)))
        (ck (limB 8 ((out10).length + (([v12] : List Int)).length)) <|
        some (.inr ((out10 ++ ([v12] : List Int)), (borI .u16 done11 (shlI .u16 1 (IntKind.u64.wrap v12))))))
        (ck (ok64 (v12 + 1)) <|
        some (.inl (v12 + 1))))
      (some (.inr (out10, done11)))

def order_Least_L14 (N : Nat) (r3 : (Int × (List Int) × Int)) : ((List Int) × Int) → Option (((List Int) × Int) ⊕ (List Int))
  | (out10, done11) =>
    cond (decide (((out10).length : Int) < r3.1))
      (bd (α := ((List Int) × Int)) (iter (order_Least_L15 N r3 done11 out10) N 0) <| fun p => some (.inl p))
      (some (.inr out10))

def order_Least (N : Nat) (r1 : Rel) : Option ((List Int) × Int) :=
  bd (order_acyclic N r1) fun (r3 : (Int × (List Int) × Int)) =>
  cond (!(decide (r3.2.2 = 0)))
    (some ([], r3.2.2))
    (bd (α := (List Int)) (iter (order_Least_L14 N r3) N ([], 0)) <|
    fun (out7 : (List Int)) => 
      some (out7, 0))

theorem order_Least_ok {N : Nat} {r1 : Rel} {res : ((List Int) × Int)} (hF : order_Least N r1 = some res) (w : World) :
    Made Try.prog 83 [.agg (encRel r1).toArray] w (fun g : (Option Addr × Nat) => .tuple #[.slice g.1 (res.1).length g.2, .int .i64 res.2]) (fun g => [cR (eI .i64) 1 g.1 g.2 3 res.1]) (fun g => True) := by
  refine W.enter (n := 52) Try.func83 rfl rfl Sub.refl (by simp) (St.start w) fun R hR => ?_
  unfold order_Least at hF
  refine W.seqR fun Q1 hQ1 => ?_
  refine WL.step (WO.boxA (.pl rfl) rfl fun b2 => ?_)
  refine WL.q (Y.assign (.pl rfl)) rfl ?_
  refine WL.q (Y.assign (.pl rfl)) rfl ?_
  refine WL.next hQ1 (.cons (i := 1) rfl (.nil)) ?_
  refine W.seqR fun Q2 hQ2 => ?_
  refine WL.q (Y.loadBA (ds := (encRel r1)) Try.underlying99 rfl cells99 (.pl rfl) (i := 0) rfl rfl subW) rfl ?_
  obtain ⟨r3, hr3, hF⟩ := bnd hF
  refine WL.step (WO.callP isGo95 (.cons (.pl rfl) (.nil)) rfl (fun wz hw => order_acyclic_ok (hr3) wz ) ?_)
  refine WL.q (Y.move (.pl rfl)) rfl ?_
  refine WL.q (Y.extract (.pl rfl) rfl) rfl ?_
  refine WL.q (Y.extract (.pl rfl) rfl) rfl ?_
  refine WL.step (WO.alloc (cs := (encRel (Rel.mk 0 [])).toArray) zero99 rfl rfl fun b4 => ?_)
  refine WL.step (WO.storeBA (ds := (encRel (Rel.mk r3.1 r3.2.1))) (cs' := (encRel (Rel.mk r3.1 r3.2.1))) cells99 (.pl rfl) (.pl rfl) rfl (oneRel _) (i := 0) rfl (lel (o := 0) (l := 13) (m := 13) (by decide) rfl rfl) (putW rfl) ?_)
  refine WL.q (Y.assign (.pl rfl)) rfl ?_
  refine WL.next hQ2 (.cons (i := 4) rfl (.cons (i := 5) rfl (.nil))) ?_
  refine W.seq fun K3 hK3 => ?_
  refine W.seqR fun Q4 hQ4 => ?_
  refine WL.q (Y.move (.pl rfl)) rfl ?_
  refine WL.q (Y.neq (.pl rfl) (.pl rfl)) rfl ?_
  refine WL.next hQ4 (.cons (i := 4) rfl (.cons (i := 5) rfl (.cons (i := 15) rfl (.nil)))) ?_
  refine W.cond (.pl rfl) (fun hC5 => ?_) (fun hC5 => ?_)
  · replace hF := cpos hC5 hF
    refine W.seqR fun Q6 hQ6 => ?_
    refine WL.q (Y.move (.pl rfl)) rfl ?_
    refine WL.q (Y.assign (.pl rfl)) rfl ?_
    refine WL.q (Y.assign (.pl rfl)) rfl ?_
    refine WL.next hQ6 (.cons (i := 2) rfl (.cons (i := 3) rfl (.nil))) ?_
    obtain rfl := Option.some.inj hF
    refine W.retV (fn := Try.f83) (vs := [.slice none 0 0, .int .i64 r3.2.2]) Try.results83 ⟨.tmp rfl, ⟨.tmp rfl, trivial⟩⟩ (fun _ _ h => h) (fun wz hw => ?_)
    exact hR _ _ ⟨(none, 0), trivial, rfl, ((St.nilR (hw.pick [] rfl) (eI .i64) 1 3).pick [0] rfl)⟩
  · replace hF := cneg hC5 hF
    refine W.skip ?_
    refine W.go hK3 (.cons (i := 4) rfl (.nil)) ?_
    refine W.seqR fun Q7 hQ7 => ?_
    refine WL.q (Y.assign (.pl rfl)) rfl ?_
    refine WL.next hQ7 (.cons (i := 4) rfl (.cons (i := 6) rfl (.nil))) ?_
    refine W.seqR fun Q8 hQ8 => ?_
    refine WL.q (Y.assign (.pl rfl)) rfl ?_
    refine WL.next hQ8 (.cons (i := 4) rfl (.cons (i := 6) rfl (.cons (i := 7) rfl (.nil)))) ?_
    obtain ⟨o9, hF9, hF⟩ := bnd hF
    refine W.join3 (Em := fun (out7 : (List Int)) (A5 : Option Addr) (c6 : Nat) => [(6, .slice A5 (out7).length c6)]) (M := fun out7 A5 c6 => [cR (eI .i64) 1 A5 c6 3 out7]) (I := fun out7 A5 c6 => out7 = o9) (.nil) (fun K10 hK10 => ?_) ?_
    · -- up to
      refine W.block ?_
      refine W.loop4 (Em := fun (out10 : (List Int)) (done11 : Int) (A8 : Option Addr) (c9 : Nat) => [(6, .slice A8 (out10).length c9), (7, .int .u16 done11)]) (M := fun out10 done11 A8 c9 => [cBx b4 99 (encRel (Rel.mk r3.1 r3.2.1)), cR (eI .i64) 1 A8 c9 3 out10]) (I := fun out10 done11 A8 c9 k11 => iter (order_Least_L14 N r3) k11 (out10, done11) = some o9) [] 0 none 0 N (hF9) (.cons rfl (.cons rfl (.nil))) (.cons (i := 4) rfl (.nil)) (fun wz hw => (St.nilR (hw.pick [0] rfl) (eI .i64) 1 3).pick [1, 0] rfl) (fun out10 done11 A8 c9 k11 hI K12 hK12 => ?_)
      obtain ⟨k11, t11, rfl, hF11, hN11⟩ := iter_step hI
      refine W.seq fun K13 hK13 => ?_
      refine W.seqR fun Q14 hQ14 => ?_
      refine WL.q (Y.move (.pl rfl)) rfl ?_
      refine WL.q (Y.len Try.underlying22 (.pl rfl)) rfl ?_
      refine WL.q (Y.fieldAddr0 (off := 0) (ft := 3) Try.underlying99 rfl cells3 (.pl rfl)) rfl ?_
      refine WL.q (Y.loadB (v := .int .i64 r3.1) Try.underlying3 rfl (.pl rfl) (i := 0) rfl (rfl)) rfl ?_
      refine WL.q (Y.lss (.pl rfl) (.pl rfl)) rfl ?_
      refine WL.next hQ14 (.cons (i := 4) rfl (.cons (i := 6) rfl (.cons (i := 7) rfl (.cons (i := 21) rfl (.nil))))) ?_
      refine W.cond (.pl rfl) (fun hC15 => ?_) (fun hC15 => ?_)
      · replace hF11 := cpos hC15 hF11
        refine W.skip ?_
        refine W.go hK13 (.cons (i := 4) rfl (.cons (i := 6) rfl (.cons (i := 7) rfl (.nil)))) ?_
        refine W.block ?_
        refine W.seqR fun Q16 hQ16 => ?_
        refine WL.q (Y.fieldAddr0 (off := 0) (ft := 3) Try.underlying99 rfl cells3 (.pl rfl)) rfl ?_
        refine WL.q (Y.loadB (v := .int .i64 r3.1) Try.underlying3 rfl (.pl rfl) (i := 0) rfl (rfl)) rfl ?_
        refine WL.q (Y.move (.pl rfl)) rfl ?_
        refine WL.next hQ16 (.cons (i := 4) rfl (.cons (i := 6) rfl (.cons (i := 7) rfl (.cons (i := 23) rfl (.cons (i := 24) rfl (.nil)))))) ?_
        refine W.block ?_
        obtain ⟨o17, hL17, hF11⟩ := bnd hF11
        refine W.loop1 (Em := fun (v12 : Int) => [(24, .int .i64 v12)]) (M := fun v12 => [cBx b4 99 (encRel (Rel.mk r3.1 r3.2.1)), cR (eI .i64) 1 A8 c9 3 out10]) (I := fun v12 k17 => iter (order_Least_L15 N r3 done11 out10) k17 v12 = some o17) 0 N (hL17) (.cons rfl (.nil)) (.cons (i := 4) rfl (.cons (i := 6) rfl (.cons (i := 7) rfl (.cons (i := 23) rfl (.nil))))) (fun wz hw => hw.pick [0, 1] rfl) (fun v12 k17 hI K18 hK18 => ?_)
        obtain ⟨k17, t17, rfl, hF17, hN17⟩ := iter_step hI
        refine W.seqR fun Q19 hQ19 => ?_
        refine WL.q (Y.lss (.pl rfl) (.pl rfl)) rfl ?_
        refine WL.next hQ19 (.cons (i := 4) rfl (.cons (i := 6) rfl (.cons (i := 7) rfl (.cons (i := 23) rfl (.cons (i := 24) rfl (.cons (i := 25) rfl (.nil))))))) ?_
        refine W.seq fun K20 hK20 => ?_
        refine W.cond (.pl rfl) (fun hC21 => ?_) (fun hC21 => ?_)
        · replace hF17 := cpos hC21 hF17
          refine W.skip ?_
          refine W.go hK20 (.cons (i := 4) rfl (.cons (i := 6) rfl (.cons (i := 7) rfl (.cons (i := 23) rfl (.cons (i := 24) rfl (.nil)))))) ?_
          refine W.seq fun K22 hK22 => ?_
          refine W.block ?_
          refine W.seqR fun Q23 hQ23 => ?_
          refine WL.q (Y.move (.pl rfl)) rfl ?_
          refine WL.q (Y.assign (.pl rfl)) rfl ?_
          refine WL.next hQ23 (.cons (i := 4) rfl (.cons (i := 6) rfl (.cons (i := 7) rfl (.cons (i := 8) rfl (.cons (i := 23) rfl (.cons (i := 24) rfl (.nil))))))) ?_
          refine W.seqR fun Q24 hQ24 => ?_
          refine WL.q (Y.move (.pl rfl)) rfl ?_
          refine WL.q (Y.move (.pl rfl)) rfl ?_
          refine WL.q (Y.conv Try.underlying3 Try.underlying113 (.pl rfl)) rfl ?_
          refine WL.q (Y.shr (.pl rfl) (.pl rfl) (wrapU_nn rfl _)) rfl ?_
          refine WL.q (Y.band (.pl rfl) (.pl rfl)) rfl ?_
          refine WL.q (Y.eql (.pl rfl) (.pl rfl)) rfl ?_
          refine WL.q (Y.move (.pl rfl)) rfl ?_
          refine WL.g (.pl rfl rfl rfl) (fun hg => Y.loadBA (ds := (encRel (Rel.mk r3.1 r3.2.1))) Try.underlying99 rfl cells99 (.pl rfl) (i := 0) rfl rfl subW) rfl ?_
          refine WL.g (.pl rfl rfl rfl) (fun hg => Y.move (.pl rfl)) rfl ?_
          obtain ⟨r13, hr13, hF17⟩ := bnd hF17
          refine WL.gP (.pl rfl rfl rfl) isGo96 (fun hg => (.cons (.gd (hg) rfl) (.cons (.gd (hg) rfl) (.nil)))) rfl (fun hg wz hw => order_before_ok (gpos hg hr13) wz ) ?_
          refine WL.g (.pl rfl rfl rfl) (fun hg => Y.move (.pl rfl)) rfl ?_
          refine WL.g (.pl rfl rfl rfl) (fun hg => Y.bclr (.gd (hg) rfl) (.gd (hg) rfl)) rfl ?_
          refine WL.g (.pl rfl rfl rfl) (fun hg => Y.eql (.gd (hg) rfl) (.pl rfl)) rfl ?_
          refine WL.q (Y.and (.pl rfl) (fun h2 => .gd (eqt h2) rfl)) rfl ?_
          refine WL.next hQ24 (.cons (i := 4) rfl (.cons (i := 6) rfl (.cons (i := 7) rfl (.cons (i := 8) rfl (.cons (i := 23) rfl (.cons (i := 24) rfl (.cons (i := 40) rfl (.nil)))))))) ?_
          refine W.cond (.pl rfl) (fun hC25 => ?_) (fun hC25 => ?_)
          · replace hF17 := cpos hC25 hF17
            refine W.seqR fun Q26 hQ26 => ?_
            refine WL.q (Y.move (.pl rfl)) rfl ?_
            refine WL.q (Y.move (.pl rfl)) rfl ?_
            refine WL.step (WO.bsliceC (enc := (eI .i64)) (ys := ([v12] : List Int)) Try.underlying22 bz3 (.cons (.pl rfl) (.nil)) rfl (fun _ => rfl) rfl rfl (by decide) (by decide) rfl fun b14 => ?_)
            obtain ⟨hk17, hF17⟩ := ckh hF17
            refine WL.step (WO.appendC (enc := (eI .i64)) Try.underlying22 ap3 (fun _ => rfl) oneI (.pl rfl) rfl (.pl rfl) (i := 2) rfl (m2 := 0) rfl (hk17) rfl fun A15 c16 => ?_)
            refine WL.q (Y.assign (.pl rfl)) rfl ?_
            refine WL.next hQ26 (.cons (i := 4) rfl (.cons (i := 6) rfl (.cons (i := 7) rfl (.cons (i := 8) rfl (.nil))))) ?_
            refine W.seqR fun Q27 hQ27 => ?_
            refine WL.q (Y.move (.pl rfl)) rfl ?_
            refine WL.q (Y.move (.pl rfl)) rfl ?_
            refine WL.q (Y.conv Try.underlying3 Try.underlying113 (.pl rfl)) rfl ?_
            refine WL.q (Y.shl (.pl rfl) (.pl rfl) (wrapU_nn rfl _)) rfl ?_
            refine WL.q (Y.bor (.pl rfl) (.pl rfl)) rfl ?_
            refine WL.q (Y.assign (.pl rfl)) rfl ?_
            refine WL.next hQ27 (.cons (i := 4) rfl (.cons (i := 6) rfl (.cons (i := 7) rfl (.nil)))) ?_
            refine W.exit ?_
            obtain rfl := Option.some.inj hF17
            obtain rfl := einr hN17
            obtain rfl := Option.some.inj hF11
            exact W.again4 hK12 (out10 ++ ([v12] : List Int)) (borI .u16 done11 (shlI .u16 1 (IntKind.u64.wrap v12))) A15 c16 k11 hN11 (Nat.lt_succ_self _) (.cons rfl (.cons rfl (.nil))) (.cons (i := 4) rfl (.nil)) (fun wz hw => hw.pick [1, 2] rfl)
          · replace hF17 := cneg hC25 hF17
            refine W.skip ?_
            refine W.go hK22 (.cons (i := 4) rfl (.cons (i := 6) rfl (.cons (i := 7) rfl (.cons (i := 23) rfl (.cons (i := 24) rfl (.nil)))))) ?_
            refine W.reg ?_
            obtain ⟨hk18, hF17⟩ := ckh hF17
            refine WL.q (Y.add (.pl rfl) (.pl rfl) (ok64_lt (hk18))) rfl ?_
            refine WL.q (Y.move (.pl rfl)) rfl ?_
            refine WL.nil ?_
            obtain rfl := Option.some.inj hF17
            exact W.again1 hK18 (v12 + 1) k17 hN17 (Nat.lt_succ_self _) (.cons rfl (.nil)) (.cons (i := 4) rfl (.cons (i := 6) rfl (.cons (i := 7) rfl (.cons (i := 23) rfl (.nil))))) (fun wz hw => hw.pick [0, 1] rfl)
        · replace hF17 := cneg hC21 hF17
          refine W.exit ?_
          obtain rfl := Option.some.inj hF17
          obtain rfl := einr hN17
          obtain rfl := Option.some.inj hF11
          exact W.again4 hK12 out10 done11 A8 c9 k11 hN11 (Nat.lt_succ_self _) (.cons rfl (.cons rfl (.nil))) (.cons (i := 4) rfl (.nil)) (fun wz hw => hw.pick [0, 1] rfl)
      · replace hF11 := cneg hC15 hF11
        refine W.exit ?_
        obtain rfl := Option.some.inj hF11
        exact W.joinAt3 hK10 out10 A8 c9 (einr hN11) (.cons rfl (.nil)) (.nil) (fun wz hw => hw.pick [1] rfl)
    · -- behind
      rintro out7 A5 c6 rfl
      refine W.seqR fun Q29 hQ29 => ?_
      refine WL.q (Y.move (.pl rfl)) rfl ?_
      refine WL.q (Y.assign (.pl rfl)) rfl ?_
      refine WL.q (Y.assign (.pl rfl)) rfl ?_
      refine WL.next hQ29 (.cons (i := 2) rfl (.cons (i := 3) rfl (.nil))) ?_
      obtain rfl := Option.some.inj hF
      refine W.retV (fn := Try.f83) (vs := [.slice A5 (out7).length c6, .int .i64 0]) Try.results83 ⟨.tmp rfl, ⟨.tmp rfl, trivial⟩⟩ (fun _ _ h => h) (fun wz hw => ?_)
      exact hR _ _ ⟨(A5, c6), trivial, rfl, (hw.pick [0] rfl)⟩

def local_Join_L173 (N : Nat) (x29 : (List Step)) (v32 : Int) (x35 : Step) (steps31 : (List (Int × Step))) : ((List Int) × Int) → Option (((List Int) × Int) ⊕ ((List Int) × (List (Int × Step))))
  | (After40, v41) =>
    cond (decide (v41 < (((x29.take v32.toNat)).length : Int)))
      (bd (ix (x29.take v32.toNat) v41) fun (x42 : Step) =>
      bd (ax 12 0 After40 x42.call) fun (x44 : Int) =>
      bd (ax 12 0 After40 x42.call) fun (x45 : Int) =>
      ck (ok64 (v41 + 1)) <|
      some (.inl ((setA 12 0 After40 x42.call (borI .u16 x44 (shlI .u16 1 (IntKind.u64.wrap x35.call)))), (v41 + 1))))
      (some (.inr (After40, (mput steps31 x35.call x35))))

def local_Join_L171 (N : Nat) (x29 : (List Step)) (r16 : ((List Call) × Int)) (v26 : Int) : ((List Int) × (List (Int × Step)) × Int) → Option (((List Int) × (List (Int × Step)) × Int) ⊕ (((List Int) × (List (Int × Step))) ⊕ ((List Step) × Bool × Int)))
  | (After30, steps31, v32) =>
    cond (decide (v32 < ((x29).length : Int)))
      (bd (α := (((List Int) × (List (Int × Step))) ⊕ ((List Step) × Bool × Int))) (bd (ix x29 v32) fun (x35 : Step) =>
        bd ((cond (((decide (x35.call < 0)) || (decide (((r16.1).length : Int) ≤ x35.call))) == false) (ix r16.1 x35.call) (some Call.z))) fun (x38 : Call) =>
        cond ((((decide (x35.call < 0)) || (decide (((r16.1).length : Int) ≤ x35.call))) || (!(decide (x38.thing = v26)))) || (mget steps31 x35.call).isSome)
          (some (.inr ([], false, 3)))
          (ck (slB (x29).length 0 v32) <|
          bd (α := ((List Int) × (List (Int × Step)))) (iter (local_Join_L173 N x29 v32 x35 steps31) N (After30, 0)) <| fun p => some (.inl p))) <|
      Sum.elim (fun (After33, steps34) => 
        ck (ok64 (v32 + 1)) <|
        some (.inl (After33, steps34, (v32 + 1)))) (fun p => some (.inr (.inr p))))
      (some (.inr (.inl (After30, steps31))))

def local_Join_L159 (N : Nat) (w11 : (List (List Step))) (r16 : ((List Call) × Int)) : ((List Int) × (List (Int × Step)) × Int) → Option (((List Int) × (List (Int × Step)) × Int) ⊕ (((List Int) × (List (Int × Step))) ⊕ ((List Step) × Bool × Int)))
  | (After24, steps25, v26) =>
    cond (decide (v26 < ((w11).length : Int)))
      (bd (α := (((List Int) × (List (Int × Step))) ⊕ ((List Step) × Bool × Int))) (bd (ix w11 v26) fun (x29 : (List Step)) =>
        iter (local_Join_L171 N x29 r16 v26) N (After24, steps25, 0)) <|
      Sum.elim (fun (After27, steps28) => 
        ck (ok64 (v26 + 1)) <|
        some (.inl (After27, steps28, (v26 + 1)))) (fun p => some (.inr (.inr p))))
      (some (.inr (.inl (After24, steps25))))

def local_Join_L175 (N : Nat) (r49 : ((List Int) × Int)) (steps23 : (List (Int × Step))) : ((List Step) × Int) → Option (((List Step) × Int) ⊕ (List Step))
  | (out57, v58) =>
    cond (decide (v58 < ((r49.1).length : Int)))
      (bd (ix r49.1 v58) fun (x59 : Int) =>
      cond ((mget steps23 x59).isSome)
        (ck (limB 16 ((out57).length + (([((mget steps23 x59).getD Step.z)] : List Step)).length)) <|
        ck (ok64 (v58 + 1)) <|
        some (.inl ((out57 ++ ([((mget steps23 x59).getD Step.z)] : List Step)), (v58 + 1))))
        (ck (ok64 (v58 + 1)) <|
        some (.inl (out57, (v58 + 1)))))
      (some (.inr out57))

def local_Join (N : Nat) (types1 : (List Int)) (l6 : (List Event)) (w11 : (List (List Step))) : Option ((List Step) × Bool × Int) :=
  bd (local_check N types1 l6) fun (r16 : ((List Call) × Int)) =>
  cond (!(decide (r16.2 = 0)))
    (some ([], false, r16.2))
    (cond (!(decide (((w11).length : Int) = ((types1).length : Int))))
      (some ([], false, 3))
      (bd (history_Ahead N r16.1) fun (r19 : (Int × (List Int) × Int)) =>
      bd (α := (((List Int) × (List (Int × Step))) ⊕ ((List Step) × Bool × Int))) (iter (local_Join_L159 N w11 r16) N (r19.2.1, ([] : List (Int × Step)), 0)) <|
      Sum.elim (fun (After22, steps23) => 
        bd (order_Least N (Rel.mk r19.1 After22)) fun (r49 : ((List Int) × Int)) =>
        cond (!(decide (r49.2 = 0)))
          (some ([], false, 0))
          (bd (α := (List Step)) (iter (local_Join_L175 N r49 steps23) N ([], 0)) <|
          fun (out54 : (List Step)) => 
            some (out54, true, 0))) (fun p => some p)))

theorem local_Join_ok {N : Nat} {types1 : (List Int)} {l6 : (List Event)} {w11 : (List (List Step))} {A12 : Option Addr} {c13 : Nat} {hd14 : List Hd} {res : ((List Step) × Bool × Int)} (hF : local_Join N types1 l6 w11 = some res) (w : World) {v5 : Value} (hs4 : SlIn (eI .i64) 1 w v5 types1) {v10 : Value} (hs9 : SlIn encEvent 4 w v10 l6) (hs15 : SlNN encStep 2 w A12 c13 hd14 w11) :
    Made Try.prog 58 [v5, v10, .slice A12 (w11).length c13] w (fun g : (Option Addr × Nat) => .tuple #[.slice g.1 (res.1).length g.2, .bool res.2.1, .int .i64 res.2.2]) (fun g => [cR encStep 2 g.1 g.2 58 res.1]) (fun g => True) := by
  obtain ⟨A2, c3, rfl, hcc3, hs4⟩ := hs4.form
  obtain ⟨A7, c8, rfl, hcc8, hs9⟩ := hs9.form
  refine W.enter (n := 145) Try.func58 rfl rfl Sub.refl (by simp) (St.start w) fun R hR => ?_
  unfold local_Join at hF
  refine W.seqR fun Q1 hQ1 => ?_
  refine WL.q (Y.assign (.pl rfl)) rfl ?_
  refine WL.q (Y.assign (.pl rfl)) rfl ?_
  refine WL.q (Y.assign (.pl rfl)) rfl ?_
  refine WL.next hQ1 (.cons (i := 0) rfl (.cons (i := 1) rfl (.cons (i := 2) rfl (.nil)))) ?_
  refine W.seqR fun Q2 hQ2 => ?_
  refine WL.q (Y.move (.pl rfl)) rfl ?_
  refine WL.q (Y.move (.pl rfl)) rfl ?_
  obtain ⟨r16, hr16, hF⟩ := bnd hF
  refine WL.step (WO.callM isGo79 (.cons (.pl rfl) (.cons (.pl rfl) (.nil))) rfl (fun wz hw => local_check_ok (hr16) wz (hs4.mono hw) (hs9.mono hw)) ?_)
  rintro ⟨A17, c18⟩ -
  refine WL.q (Y.move (.pl rfl)) rfl ?_
  refine WL.q (Y.extract (.pl rfl) rfl) rfl ?_
  refine WL.q (Y.extract (.pl rfl) rfl) rfl ?_
  refine WL.q (Y.assign (.pl rfl)) rfl ?_
  refine WL.q (Y.assign (.pl rfl)) rfl ?_
  refine WL.next hQ2 (.cons (i := 0) rfl (.cons (i := 2) rfl (.cons (i := 9) rfl (.cons (i := 10) rfl (.nil))))) ?_
  refine W.seq fun K3 hK3 => ?_
  refine W.seqR fun Q4 hQ4 => ?_
  refine WL.q (Y.move (.pl rfl)) rfl ?_
  refine WL.q (Y.neq (.pl rfl) (.pl rfl)) rfl ?_
  refine WL.next hQ4 (.cons (i := 0) rfl (.cons (i := 2) rfl (.cons (i := 9) rfl (.cons (i := 10) rfl (.cons (i := 35) rfl (.nil)))))) ?_
  refine W.cond (.pl rfl) (fun hC5 => ?_) (fun hC5 => ?_)
  · replace hF := cpos hC5 hF
    refine W.seqR fun Q6 hQ6 => ?_
    refine WL.q (Y.move (.pl rfl)) rfl ?_
    refine WL.q (Y.assign (.pl rfl)) rfl ?_
    refine WL.q (Y.assign (.pl rfl)) rfl ?_
    refine WL.q (Y.assign (.pl rfl)) rfl ?_
    refine WL.next hQ6 (.cons (i := 6) rfl (.cons (i := 7) rfl (.cons (i := 8) rfl (.nil)))) ?_
    obtain rfl := Option.some.inj hF
    refine W.retV (fn := Try.f58) (vs := [.slice none 0 0, .bool false, .int .i64 r16.2]) Try.results58 ⟨.tmp rfl, ⟨.tmp rfl, ⟨.tmp rfl, trivial⟩⟩⟩ (fun _ _ h => h) (fun wz hw => ?_)
    exact hR _ _ ⟨(none, 0), trivial, rfl, ((St.nilR (hw.pick [] rfl) encStep 2 58).pick [0] rfl)⟩
  · replace hF := cneg hC5 hF
    refine W.skip ?_
    refine W.go hK3 (.cons (i := 0) rfl (.cons (i := 2) rfl (.cons (i := 9) rfl (.nil)))) ?_
    refine W.seq fun K7 hK7 => ?_
    refine W.seqR fun Q8 hQ8 => ?_
    refine WL.q (Y.move (.pl rfl)) rfl ?_
    refine WL.q (Y.len Try.underlying78 (.pl rfl)) rfl ?_
    refine WL.q (Y.move (.pl rfl)) rfl ?_
    refine WL.q (Y.len Try.underlying22 (.pl rfl)) rfl ?_
    refine WL.q (Y.neq (.pl rfl) (.pl rfl)) rfl ?_
    refine WL.next hQ8 (.cons (i := 2) rfl (.cons (i := 9) rfl (.cons (i := 41) rfl (.nil)))) ?_
    refine W.cond (.pl rfl) (fun hC9 => ?_) (fun hC9 => ?_)
    · replace hF := cpos hC9 hF
      refine W.seqR fun Q10 hQ10 => ?_
      refine WL.q (Y.assign (.pl rfl)) rfl ?_
      refine WL.q (Y.assign (.pl rfl)) rfl ?_
      refine WL.q (Y.assign (.pl rfl)) rfl ?_
      refine WL.next hQ10 (.cons (i := 6) rfl (.cons (i := 7) rfl (.cons (i := 8) rfl (.nil)))) ?_
      obtain rfl := Option.some.inj hF
      refine W.retV (fn := Try.f58) (vs := [.slice none 0 0, .bool false, .int .i64 3]) Try.results58 ⟨.tmp rfl, ⟨.tmp rfl, ⟨.tmp rfl, trivial⟩⟩⟩ (fun _ _ h => h) (fun wz hw => ?_)
      exact hR _ _ ⟨(none, 0), trivial, rfl, ((St.nilR (hw.pick [] rfl) encStep 2 58).pick [0] rfl)⟩
    · replace hF := cneg hC9 hF
      refine W.skip ?_
      refine W.go hK7 (.cons (i := 2) rfl (.cons (i := 9) rfl (.nil))) ?_
      refine W.seqR fun Q11 hQ11 => ?_
      refine WL.q (Y.move (.pl rfl)) rfl ?_
      obtain ⟨r19, hr19, hF⟩ := bnd hF
      refine WL.step (WO.callP isGo69 (.cons (.pl rfl) (.nil)) rfl (fun wz hw => history_Ahead_ok (hr19) wz (SlIn.ofRow lenCall hw (i := 0) rfl)) ?_)
      refine WL.q (Y.move (.pl rfl)) rfl ?_
      refine WL.q (Y.extract (.pl rfl) rfl) rfl ?_
      refine WL.q (Y.extract (.pl rfl) rfl) rfl ?_
      refine WL.step (WO.alloc (cs := (encRel (Rel.mk 0 [])).toArray) zero99 rfl rfl fun b20 => ?_)
      refine WL.step (WO.storeBA (ds := (encRel (Rel.mk r19.1 r19.2.1))) (cs' := (encRel (Rel.mk r19.1 r19.2.1))) cells99 (.pl rfl) (.pl rfl) rfl (oneRel _) (i := 0) rfl (lel (o := 0) (l := 13) (m := 13) (by decide) rfl rfl) (putW rfl) ?_)
      refine WL.q (Y.assign (.pl rfl)) rfl ?_
      refine WL.next hQ11 (.cons (i := 2) rfl (.cons (i := 9) rfl (.cons (i := 11) rfl (.nil)))) ?_
      refine W.seqR fun Q12 hQ12 => ?_
      refine WL.step (WO.mmake (fun x => Value.agg (encStep x).toArray) rfl fun b21 => ?_)
      refine WL.q (Y.assign (.pl rfl)) rfl ?_
      refine WL.next hQ12 (.cons (i := 2) rfl (.cons (i := 9) rfl (.cons (i := 11) rfl (.cons (i := 13) rfl (.nil))))) ?_
      obtain ⟨o13, hF13, hF⟩ := bnd hF
      refine W.join2 (Em := fun (After22 : (List Int)) (steps23 : (List (Int × Step))) => []) (M := fun After22 steps23 => [cBx b20 99 (encRel (Rel.mk r19.1 After22)), cM (fun x => Value.agg (encStep x).toArray) (some b21) steps23]) (I := fun After22 steps23 => (.inl (After22, steps23)) = o13) (.cons (i := 11) rfl (.cons (i := 13) rfl (.nil))) (fun K14 hK14 => ?_) ?_
      · -- up to
        refine W.seqR fun Q15 hQ15 => ?_
        refine WL.q (Y.move (.pl rfl)) rfl ?_
        refine WL.q (Y.len Try.underlying78 (.pl rfl)) rfl ?_
        refine WL.q (Y.move (.pl rfl)) rfl ?_
        refine WL.next hQ15 (.cons (i := 9) rfl (.cons (i := 11) rfl (.cons (i := 13) rfl (.cons (i := 48) rfl (.cons (i := 49) rfl (.cons (i := 50) rfl (.nil))))))) ?_
        refine W.block ?_
        refine W.loop3 (Em := fun (After24 : (List Int)) (steps25 : (List (Int × Step))) (v26 : Int) => [(50, .int .i64 v26)]) (M := fun After24 steps25 v26 => [cR encCall 7 A17 c18 55 r16.1, cBx b20 99 (encRel (Rel.mk r19.1 After24)), cM (fun x => Value.agg (encStep x).toArray) (some b21) steps25]) (I := fun After24 steps25 v26 k16 => iter (local_Join_L159 N w11 r16) k16 (After24, steps25, v26) = some o13) r19.2.1 ([] : List (Int × Step)) 0 N (hF13) (.cons rfl (.nil)) (.cons (i := 9) rfl (.cons (i := 11) rfl (.cons (i := 13) rfl (.cons (i := 48) rfl (.cons (i := 49) rfl (.nil)))))) (fun wz hw => hw.pick [2, 1, 0] rfl) (fun After24 steps25 v26 k16 hI K17 hK17 => ?_)
        obtain ⟨k16, t16, rfl, hF16, hN16⟩ := iter_step hI
        refine W.seqR fun Q18 hQ18 => ?_
        refine WL.q (Y.lss (.pl rfl) (.pl rfl)) rfl ?_
        refine WL.next hQ18 (.cons (i := 9) rfl (.cons (i := 11) rfl (.cons (i := 13) rfl (.cons (i := 48) rfl (.cons (i := 49) rfl (.cons (i := 50) rfl (.cons (i := 51) rfl (.nil)))))))) ?_
        refine W.seq fun K19 hK19 => ?_
        refine W.cond (.pl rfl) (fun hC20 => ?_) (fun hC20 => ?_)
        · replace hF16 := cpos hC20 hF16
          refine W.skip ?_
          refine W.go hK19 (.cons (i := 9) rfl (.cons (i := 11) rfl (.cons (i := 13) rfl (.cons (i := 48) rfl (.cons (i := 49) rfl (.cons (i := 50) rfl (.nil))))))) ?_
          obtain ⟨o21, hF21, hF16⟩ := bnd hF16
          refine W.join2 (Em := fun (After27 : (List Int)) (steps28 : (List (Int × Step))) => []) (M := fun After27 steps28 => [cR encCall 7 A17 c18 55 r16.1, cBx b20 99 (encRel (Rel.mk r19.1 After27)), cM (fun x => Value.agg (encStep x).toArray) (some b21) steps28]) (I := fun After27 steps28 => (.inl (After27, steps28)) = o21) (.cons (i := 9) rfl (.cons (i := 11) rfl (.cons (i := 13) rfl (.cons (i := 48) rfl (.cons (i := 49) rfl (.cons (i := 50) rfl (.nil))))))) (fun K22 hK22 => ?_) ?_
          · -- up to
            refine W.block ?_
            refine W.seqR fun Q23 hQ23 => ?_
            refine WL.q (Y.move (.pl rfl)) rfl ?_
            obtain ⟨x29, hx29, hF21⟩ := bnd hF21
            refine WL.q (Y.nnEl Try.underlying78 cells44 hs15 (.pl rfl) (.pl rfl) (ix_lt (hx29))) rfl ?_
            refine WL.q (Y.loadNN Try.underlying44 rfl hs15 (.pl rfl) (hx29) rfl) rfl ?_
            refine WL.q (Y.assign (.pl rfl)) rfl ?_
            refine WL.q (Y.assign (.pl rfl)) rfl ?_
            refine WL.next hQ23 (.cons (i := 9) rfl (.cons (i := 11) rfl (.cons (i := 13) rfl (.cons (i := 14) rfl (.cons (i := 15) rfl (.cons (i := 48) rfl (.cons (i := 49) rfl (.cons (i := 50) rfl (.nil))))))))) ?_
            refine W.seqR fun Q24 hQ24 => ?_
            refine WL.q (Y.move (.pl rfl)) rfl ?_
            refine WL.q (Y.len Try.underlying44 (.pl rfl)) rfl ?_
            refine WL.q (Y.move (.pl rfl)) rfl ?_
            refine WL.next hQ24 (.cons (i := 9) rfl (.cons (i := 11) rfl (.cons (i := 13) rfl (.cons (i := 14) rfl (.cons (i := 15) rfl (.cons (i := 48) rfl (.cons (i := 49) rfl (.cons (i := 50) rfl (.cons (i := 55) rfl (.cons (i := 56) rfl (.cons (i := 57) rfl (.nil)))))))))))) ?_
            refine W.block ?_
            refine W.loop3 (Em := fun (After30 : (List Int)) (steps31 : (List (Int × Step))) (v32 : Int) => [(57, .int .i64 v32)]) (M := fun After30 steps31 v32 => [cR encCall 7 A17 c18 55 r16.1, cBx b20 99 (encRel (Rel.mk r19.1 After30)), cM (fun x => Value.agg (encStep x).toArray) (some b21) steps31]) (I := fun After30 steps31 v32 k25 => iter (local_Join_L171 N x29 r16 v26) k25 (After30, steps31, v32) = some o21) After24 steps25 0 N (hF21) (.cons rfl (.nil)) (.cons (i := 9) rfl (.cons (i := 11) rfl (.cons (i := 13) rfl (.cons (i := 14) rfl (.cons (i := 15) rfl (.cons (i := 48) rfl (.cons (i := 49) rfl (.cons (i := 50) rfl (.cons (i := 55) rfl (.cons (i := 56) rfl (.nil))))))))))) (fun wz hw => hw.pick [0, 1, 2] rfl) (fun After30 steps31 v32 k25 hI K26 hK26 => ?_)
            obtain ⟨k25, t25, rfl, hF25, hN25⟩ := iter_step hI
            refine W.seqR fun Q27 hQ27 => ?_
            refine WL.q (Y.lss (.pl rfl) (.pl rfl)) rfl ?_
            refine WL.next hQ27 (.cons (i := 9) rfl (.cons (i := 11) rfl (.cons (i := 13) rfl (.cons (i := 14) rfl (.cons (i := 15) rfl (.cons (i := 48) rfl (.cons (i := 49) rfl (.cons (i := 50) rfl (.cons (i := 55) rfl (.cons (i := 56) rfl (.cons (i := 57) rfl (.cons (i := 58) rfl (.nil))))))))))))) ?_
            refine W.seq fun K28 hK28 => ?_
            refine W.cond (.pl rfl) (fun hC29 => ?_) (fun hC29 => ?_)
            · replace hF25 := cpos hC29 hF25
              refine W.skip ?_
              refine W.go hK28 (.cons (i := 9) rfl (.cons (i := 11) rfl (.cons (i := 13) rfl (.cons (i := 14) rfl (.cons (i := 15) rfl (.cons (i := 48) rfl (.cons (i := 49) rfl (.cons (i := 50) rfl (.cons (i := 55) rfl (.cons (i := 56) rfl (.cons (i := 57) rfl (.nil)))))))))))) ?_
              obtain ⟨o30, hF30, hF25⟩ := bnd hF25
              refine W.join2 (Em := fun (After33 : (List Int)) (steps34 : (List (Int × Step))) => []) (M := fun After33 steps34 => [cR encCall 7 A17 c18 55 r16.1, cBx b20 99 (encRel (Rel.mk r19.1 After33)), cM (fun x => Value.agg (encStep x).toArray) (some b21) steps34]) (I := fun After33 steps34 => (.inl (After33, steps34)) = o30) (.cons (i := 9) rfl (.cons (i := 11) rfl (.cons (i := 13) rfl (.cons (i := 14) rfl (.cons (i := 15) rfl (.cons (i := 48) rfl (.cons (i := 49) rfl (.cons (i := 50) rfl (.cons (i := 55) rfl (.cons (i := 56) rfl (.cons (i := 57) rfl (.nil)))))))))))) (fun K31 hK31 => ?_) ?_
              · -- up to
                refine W.block ?_
                refine W.seqR fun Q32 hQ32 => ?_
                refine WL.q (Y.move (.pl rfl)) rfl ?_
                obtain ⟨x35, hx35, hF30⟩ := bnd hF30
                refine WL.q (Y.slEl Try.underlying44 cells58 (hs15.at (hx29)) (.pl rfl) (.pl rfl) (ix_lt (hx35))) rfl ?_
                refine WL.q (Y.loadSA (enc := encStep) (ds := (encStep x35)) (j := 0) Try.underlying58 rfl cells58 (hs15.at (hx29)) (.pl rfl) (hx35) rfl rfl subW) rfl ?_
                refine WL.step (WO.alloc (cs := (encStep (Step.mk 0 0)).toArray) zero58 rfl rfl fun b36 => ?_)
                refine WL.q (Y.assign (.pl rfl)) rfl ?_
                refine WL.step (WO.storeBA (ds := (encStep x35)) (cs' := (encStep x35)) cells58 (.pl rfl) (.pl rfl) rfl (oneStep _) (i := 0) rfl (lel (o := 0) (l := 2) (m := 2) (by decide) rfl rfl) (putW rfl) ?_)
                refine WL.next hQ32 (.cons (i := 9) rfl (.cons (i := 11) rfl (.cons (i := 13) rfl (.cons (i := 14) rfl (.cons (i := 15) rfl (.cons (i := 16) rfl (.cons (i := 17) rfl (.cons (i := 48) rfl (.cons (i := 49) rfl (.cons (i := 50) rfl (.cons (i := 55) rfl (.cons (i := 56) rfl (.cons (i := 57) rfl (.nil)))))))))))))) ?_
                refine W.seqR fun Q33 hQ33 => ?_
                refine WL.q (Y.move (.pl rfl)) rfl ?_
                refine WL.q (Y.fieldAddr0 (off := 0) (ft := 3) Try.underlying58 rfl cells3 (.pl rfl)) rfl ?_
                refine WL.q (Y.loadB (v := .int .i64 x35.call) Try.underlying3 rfl (.pl rfl) (i := 0) rfl (rfl)) rfl ?_
                refine WL.q (Y.mhas (f := (fun x => Value.agg (encStep x).toArray)) (dv := Step.z) Try.underlying119 Try.underlying3 zero58 (.pl rfl) (.pl rfl) (i := 3) rfl) rfl ?_
                refine WL.q (Y.move (.pl rfl)) rfl ?_
                refine WL.q (Y.extract (.pl rfl) rfl) rfl ?_
                refine WL.q (Y.extract (.pl rfl) rfl) rfl ?_
                refine WL.step (WO.alloc (cs := (encStep (Step.mk 0 0)).toArray) zero58 rfl rfl fun b37 => ?_)
                refine WL.step (WO.storeBA (ds := (encStep ((mget steps31 x35.call).getD Step.z))) (cs' := (encStep ((mget steps31 x35.call).getD Step.z))) cells58 (.pl rfl) (.pl rfl) rfl (oneStep _) (i := 0) rfl (lel (o := 0) (l := 2) (m := 2) (by decide) rfl rfl) (putW rfl) ?_)
                refine WL.q (Y.assign (.pl rfl)) rfl ?_
                refine WL.next hQ33 (.cons (i := 9) rfl (.cons (i := 11) rfl (.cons (i := 13) rfl (.cons (i := 14) rfl (.cons (i := 15) rfl (.cons (i := 16) rfl (.cons (i := 17) rfl (.cons (i := 19) rfl (.cons (i := 48) rfl (.cons (i := 49) rfl (.cons (i := 50) rfl (.cons (i := 55) rfl (.cons (i := 56) rfl (.cons (i := 57) rfl (.nil))))))))))))))) ?_
                refine W.seq fun K34 hK34 => ?_
                refine W.seqR fun Q35 hQ35 => ?_
                refine WL.q (Y.fieldAddr0 (off := 0) (ft := 3) Try.underlying58 rfl cells3 (.pl rfl)) rfl ?_
                refine WL.q (Y.loadB (v := .int .i64 x35.call) Try.underlying3 rfl (.pl rfl) (i := 1) rfl (rfl)) rfl ?_
                refine WL.q (Y.lss (.pl rfl) (.pl rfl)) rfl ?_
                refine WL.q (Y.move (.pl rfl)) rfl ?_
                refine WL.g (.pl rfl rfl rfl) (fun hg => Y.fieldAddr0 (off := 0) (ft := 3) Try.underlying58 rfl cells3 (.pl rfl)) rfl ?_
                refine WL.g (.pl rfl rfl rfl) (fun hg => Y.loadB (v := .int .i64 x35.call) Try.underlying3 rfl (.gd (hg) rfl) (i := 1) rfl (rfl)) rfl ?_
                refine WL.g (.pl rfl rfl rfl) (fun hg => Y.move (.pl rfl)) rfl ?_
                refine WL.g (.pl rfl rfl rfl) (fun hg => Y.len Try.underlying51 (.gd (hg) rfl)) rfl ?_
                refine WL.g (.pl rfl rfl rfl) (fun hg => Y.geq (.gd (hg) rfl) (.gd (hg) rfl)) rfl ?_
                refine WL.q (Y.or (.pl rfl) (fun h2 => .gd (eqf h2) rfl)) rfl ?_
                refine WL.q (Y.move (.pl rfl)) rfl ?_
                refine WL.g (.pl rfl rfl rfl) (fun hg => Y.move (.pl rfl)) rfl ?_
                refine WL.g (.pl rfl rfl rfl) (fun hg => Y.fieldAddr0 (off := 0) (ft := 3) Try.underlying58 rfl cells3 (.pl rfl)) rfl ?_
                refine WL.g (.pl rfl rfl rfl) (fun hg => Y.loadB (v := .int .i64 x35.call) Try.underlying3 rfl (.gd (hg) rfl) (i := 1) rfl (rfl)) rfl ?_
                obtain ⟨x38, hx38, hF30⟩ := bnd hF30
                refine WL.g (.pl rfl rfl rfl) (fun hg => Y.rowEl Try.underlying51 cells55 (i := 2) rfl (.gd (hg) rfl) rfl (.gd (hg) rfl) (ix_lt (gpos hg hx38))) rfl ?_
                refine WL.g (.pl rfl rfl rfl) (fun hg => Y.rowField (off := 1) (ft := 3) Try.underlying55 rfl cells3 (i' := 2) rfl (ix_lt (gpos hg hx38)) (.gd (hg) rfl)) rfl ?_
                refine WL.g (.pl rfl rfl rfl) (fun hg => Y.loadR (enc := encCall) (v := .int .i64 x38.thing) (a := x38) (idx := x35.call) (j := 1) Try.underlying3 rfl lenCall (i := 2) rfl (.gd (hg) rfl) (ix_get (gpos hg hx38)) rfl rfl) rfl ?_
                refine WL.g (.pl rfl rfl rfl) (fun hg => Y.move (.pl rfl)) rfl ?_
                refine WL.g (.pl rfl rfl rfl) (fun hg => Y.neq (.gd (hg) rfl) (.gd (hg) rfl)) rfl ?_
                refine WL.q (Y.or (.pl rfl) (fun h2 => .gd (eqf h2) rfl)) rfl ?_
                refine WL.q (Y.move (.pl rfl)) rfl ?_
                refine WL.g (.pl rfl rfl rfl) (fun hg => Y.move (.pl rfl)) rfl ?_
                refine WL.q (Y.or (.pl rfl) (fun h2 => .gd (eqf h2) rfl)) rfl ?_
                refine WL.next hQ35 (.cons (i := 9) rfl (.cons (i := 11) rfl (.cons (i := 13) rfl (.cons (i := 14) rfl (.cons (i := 15) rfl (.cons (i := 16) rfl (.cons (i := 17) rfl (.cons (i := 48) rfl (.cons (i := 49) rfl (.cons (i := 50) rfl (.cons (i := 55) rfl (.cons (i := 56) rfl (.cons (i := 57) rfl (.cons (i := 91) rfl (.nil))))))))))))))) ?_
                refine W.cond (.pl rfl) (fun hC36 => ?_) (fun hC36 => ?_)
                · replace hF30 := cpos hC36 hF30
                  refine W.seqR fun Q37 hQ37 => ?_
                  refine WL.q (Y.assign (.pl rfl)) rfl ?_
                  refine WL.q (Y.assign (.pl rfl)) rfl ?_
                  refine WL.q (Y.assign (.pl rfl)) rfl ?_
                  refine WL.next hQ37 (.cons (i := 6) rfl (.cons (i := 7) rfl (.cons (i := 8) rfl (.nil)))) ?_
                  obtain rfl := Option.some.inj hF30
                  obtain rfl := Option.some.inj hF25
                  obtain rfl := einr hN25
                  obtain rfl := Option.some.inj hF16
                  obtain rfl := einr hN16
                  obtain rfl := Option.some.inj hF
                  refine W.retV (fn := Try.f58) (vs := [.slice none 0 0, .bool false, .int .i64 3]) Try.results58 ⟨.tmp rfl, ⟨.tmp rfl, ⟨.tmp rfl, trivial⟩⟩⟩ (fun _ _ h => h) (fun wz hw => ?_)
                  exact hR _ _ ⟨(none, 0), trivial, rfl, ((St.nilR (hw.pick [] rfl) encStep 2 58).pick [0] rfl)⟩
                · replace hF30 := cneg hC36 hF30
                  refine W.skip ?_
                  refine W.go hK34 (.cons (i := 9) rfl (.cons (i := 11) rfl (.cons (i := 13) rfl (.cons (i := 14) rfl (.cons (i := 15) rfl (.cons (i := 16) rfl (.cons (i := 17) rfl (.cons (i := 48) rfl (.cons (i := 49) rfl (.cons (i := 50) rfl (.cons (i := 55) rfl (.cons (i := 56) rfl (.cons (i := 57) rfl (.nil)))))))))))))) ?_
                  refine W.seqR fun Q38 hQ38 => ?_
                  refine WL.q (Y.move (.pl rfl)) rfl ?_
                  refine WL.q (Y.fieldAddr0 (off := 0) (ft := 3) Try.underlying58 rfl cells3 (.pl rfl)) rfl ?_
                  refine WL.q (Y.loadB (v := .int .i64 x35.call) Try.underlying3 rfl (.pl rfl) (i := 1) rfl (rfl)) rfl ?_
                  refine WL.q (Y.loadBA (ds := (encStep x35)) Try.underlying58 rfl cells58 (.pl rfl) (i := 1) rfl rfl subW) rfl ?_
                  refine WL.step (WO.mset (f := (fun x => Value.agg (encStep x).toArray)) (a := x35) Try.underlying119 Try.underlying3 (.pl rfl) (.pl rfl) (.pl rfl) (i := 4) rfl ?_)
                  refine WL.next hQ38 (.cons (i := 9) rfl (.cons (i := 11) rfl (.cons (i := 13) rfl (.cons (i := 14) rfl (.cons (i := 15) rfl (.cons (i := 16) rfl (.cons (i := 17) rfl (.cons (i := 48) rfl (.cons (i := 49) rfl (.cons (i := 50) rfl (.cons (i := 55) rfl (.cons (i := 56) rfl (.cons (i := 57) rfl (.nil)))))))))))))) ?_
                  refine W.seqR fun Q39 hQ39 => ?_
                  refine WL.q (Y.move (.pl rfl)) rfl ?_
                  refine WL.q (Y.move (.pl rfl)) rfl ?_
                  obtain ⟨hk39, hF30⟩ := ckh hF30
                  refine WL.q (Y.slice0 (xs := x29) Try.underlying44 cells58 (.pl rfl) rfl ((hs15.at (hx29))).cap_le (.pl rfl) (hk39)) rfl ?_
                  refine WL.q (Y.len Try.underlying44 (.pl rfl)) rfl ?_
                  refine WL.q (Y.move (.pl rfl)) rfl ?_
                  refine WL.next hQ39 (.cons (i := 9) rfl (.cons (i := 11) rfl (.cons (i := 13) rfl (.cons (i := 14) rfl (.cons (i := 15) rfl (.cons (i := 17) rfl (.cons (i := 48) rfl (.cons (i := 49) rfl (.cons (i := 50) rfl (.cons (i := 55) rfl (.cons (i := 56) rfl (.cons (i := 57) rfl (.cons (i := 98) rfl (.cons (i := 99) rfl (.cons (i := 100) rfl (.nil)))))))))))))))) ?_
                  refine W.block ?_
                  obtain ⟨o40, hL40, hF30⟩ := bnd hF30
                  refine W.loop2 (Em := fun (After40 : (List Int)) (v41 : Int) => [(100, .int .i64 v41)]) (M := fun After40 v41 => [cR encCall 7 A17 c18 55 r16.1, cBx b20 99 (encRel (Rel.mk r19.1 After40)), cM (fun x => Value.agg (encStep x).toArray) (some b21) (mput steps31 x35.call x35), cBx b36 58 (encStep x35)]) (I := fun After40 v41 k40 => iter (local_Join_L173 N x29 v32 x35 steps31) k40 (After40, v41) = some o40) After30 0 N (hL40) (.cons rfl (.nil)) (.cons (i := 9) rfl (.cons (i := 11) rfl (.cons (i := 13) rfl (.cons (i := 14) rfl (.cons (i := 15) rfl (.cons (i := 17) rfl (.cons (i := 48) rfl (.cons (i := 49) rfl (.cons (i := 50) rfl (.cons (i := 55) rfl (.cons (i := 56) rfl (.cons (i := 57) rfl (.cons (i := 98) rfl (.cons (i := 99) rfl (.nil))))))))))))))) (fun wz hw => hw.pick [2, 3, 4, 1] rfl) (fun After40 v41 k40 hI K41 hK41 => ?_)
                  obtain ⟨k40, t40, rfl, hF40, hN40⟩ := iter_step hI
                  refine W.seqR fun Q42 hQ42 => ?_
                  refine WL.q (Y.lss (.pl rfl) (.pl rfl)) rfl ?_
                  refine WL.next hQ42 (.cons (i := 9) rfl (.cons (i := 11) rfl (.cons (i := 13) rfl (.cons (i := 14) rfl (.cons (i := 15) rfl (.cons (i := 17) rfl (.cons (i := 48) rfl (.cons (i := 49) rfl (.cons (i := 50) rfl (.cons (i := 55) rfl (.cons (i := 56) rfl (.cons (i := 57) rfl (.cons (i := 98) rfl (.cons (i := 99) rfl (.cons (i := 100) rfl (.cons (i := 101) rfl (.nil))))))))))))))))) ?_
                  refine W.seq fun K43 hK43 => ?_
                  refine W.cond (.pl rfl) (fun hC44 => ?_) (fun hC44 => ?_)
                  · replace hF40 := cpos hC44 hF40
                    refine W.skip ?_
                    refine W.go hK43 (.cons (i := 9) rfl (.cons (i := 11) rfl (.cons (i := 13) rfl (.cons (i := 14) rfl (.cons (i := 15) rfl (.cons (i := 17) rfl (.cons (i := 48) rfl (.cons (i := 49) rfl (.cons (i := 50) rfl (.cons (i := 55) rfl (.cons (i := 56) rfl (.cons (i := 57) rfl (.cons (i := 98) rfl (.cons (i := 99) rfl (.cons (i := 100) rfl (.nil)))))))))))))))) ?_
                    refine W.seq fun K45 hK45 => ?_
                    refine W.block ?_
                    refine W.seqR fun Q46 hQ46 => ?_
                    obtain ⟨x42, hx42, hF40⟩ := bnd hF40
                    refine WL.q (Y.slEl Try.underlying44 cells58 (SlIn.sub0 (hs15.at (hx29)) (slB_nat0 (hk39))) (.pl rfl) (.pl rfl) (ix_lt (hx42))) rfl ?_
                    refine WL.q (Y.loadSA (enc := encStep) (ds := (encStep x42)) (j := 0) Try.underlying58 rfl cells58 (SlIn.sub0 (hs15.at (hx29)) (slB_nat0 (hk39))) (.pl rfl) (hx42) rfl rfl subW) rfl ?_
                    refine WL.step (WO.alloc (cs := (encStep (Step.mk 0 0)).toArray) zero58 rfl rfl fun b43 => ?_)
                    refine WL.step (WO.storeBA (ds := (encStep x42)) (cs' := (encStep x42)) cells58 (.pl rfl) (.pl rfl) rfl (oneStep _) (i := 0) rfl (lel (o := 0) (l := 2) (m := 2) (by decide) rfl rfl) (putW rfl) ?_)
                    refine WL.next hQ46 (.cons (i := 9) rfl (.cons (i := 11) rfl (.cons (i := 13) rfl (.cons (i := 14) rfl (.cons (i := 15) rfl (.cons (i := 17) rfl (.cons (i := 21) rfl (.cons (i := 48) rfl (.cons (i := 49) rfl (.cons (i := 50) rfl (.cons (i := 55) rfl (.cons (i := 56) rfl (.cons (i := 57) rfl (.cons (i := 98) rfl (.cons (i := 99) rfl (.cons (i := 100) rfl (.nil))))))))))))))))) ?_
                    refine W.regT 12 (by kernel_rfl) (by kernel_rfl) ?_
                    refine WS.q (Y.fieldAddr0 (off := 0) (ft := 3) Try.underlying58 rfl cells3 (.pl rfl)) rfl ?_
                    refine WS.q (Y.loadB (v := .int .i64 x42.call) Try.underlying3 rfl (.pl rfl) (i := 0) rfl (rfl)) rfl ?_
                    refine WS.q (Y.fieldAddr0 (off := 1) (ft := 97) Try.underlying99 rfl cells97 (.pl rfl)) rfl ?_
                    obtain ⟨x44, hx44, hF40⟩ := bnd hF40
                    refine WS.q (Y.arrZ Try.underlying97 cells96 (.pl rfl) (.pl rfl) (ax_lt (hx44))) rfl ?_
                    refine WS.q (Y.loadB (v := .int .u16 x44) Try.underlying96 rfl (.pl rfl) (i := 2) rfl (cellsA (pre := (Value.int .i64 r19.1 :: [])) (off := 1) (post := []) (a := After40) (enc := (eI .u16)) (d := 0) (n := 12) (sz := 1) (j := 0) (fun _ => rfl) rfl (ax_nat (hx44)) (ax_get (hx44)) rfl)) rfl ?_
                    refine WS.q (Y.fieldAddr0 (off := 0) (ft := 3) Try.underlying58 rfl cells3 (.pl rfl)) rfl ?_
                    refine WS.q (Y.loadB (v := .int .i64 x35.call) Try.underlying3 rfl (.pl rfl) (i := 4) rfl (rfl)) rfl ?_
                    refine WS.q (Y.conv Try.underlying3 Try.underlying113 (.pl rfl)) rfl ?_
                    refine WS.q (Y.shl (.pl rfl) (.pl rfl) (wrapU_nn rfl _)) rfl ?_
                    refine WS.q (Y.bor (.pl rfl) (.pl rfl)) rfl ?_
                    refine WS.q (Y.fieldAddr0 (off := 1) (ft := 97) Try.underlying99 rfl cells97 (.pl rfl)) rfl ?_
                    obtain ⟨x45, hx45, hF40⟩ := bnd hF40
                    refine WS.q (Y.arrZ Try.underlying97 cells96 (.pl rfl) (.pl rfl) (ax_lt (hx45))) rfl ?_
                    refine WS.tail ?_
                    refine WL.step (WO.storeB (cs' := (encRel (Rel.mk r19.1 (setA 12 0 After40 x42.call (borI .u16 x44 (shlI .u16 1 (IntKind.u64.wrap x35.call))))))) cells96 (.pl rfl) (.pl rfl) rfl (i := 2) rfl (ltl (m := 13) (offlt (off := 1) (sz := 1) (j := 0) (ax_nat (hx45)) (by decide)) rfl) (cellsSet (pre := (Value.int .i64 r19.1 :: [])) (off := 1) (post := []) (a := After40) (enc := (eI .u16)) (d := 0) (n := 12) (sz := 1) (j := 0) (x := x45) (x' := (borI .u16 x44 (shlI .u16 1 (IntKind.u64.wrap x35.call)))) (fun _ => rfl) rfl (ax_lt (hx45)) (ax_get (hx45)) (by decide) rfl rfl) ?_)
                    refine WL.nil ?_
                    refine W.go hK45 (.cons (i := 9) rfl (.cons (i := 11) rfl (.cons (i := 13) rfl (.cons (i := 14) rfl (.cons (i := 15) rfl (.cons (i := 17) rfl (.cons (i := 48) rfl (.cons (i := 49) rfl (.cons (i := 50) rfl (.cons (i := 55) rfl (.cons (i := 56) rfl (.cons (i := 57) rfl (.cons (i := 98) rfl (.cons (i := 99) rfl (.cons (i := 100) rfl (.nil)))))))))))))))) ?_
                    refine W.reg ?_
                    obtain ⟨hk46, hF40⟩ := ckh hF40
                    refine WL.q (Y.add (.pl rfl) (.pl rfl) (ok64_lt (hk46))) rfl ?_
                    refine WL.q (Y.move (.pl rfl)) rfl ?_
                    refine WL.nil ?_
                    obtain rfl := Option.some.inj hF40
                    exact W.again2 hK41 (setA 12 0 After40 x42.call (borI .u16 x44 (shlI .u16 1 (IntKind.u64.wrap x35.call)))) (v41 + 1) k40 hN40 (Nat.lt_succ_self _) (.cons rfl (.nil)) (.cons (i := 9) rfl (.cons (i := 11) rfl (.cons (i := 13) rfl (.cons (i := 14) rfl (.cons (i := 15) rfl (.cons (i := 17) rfl (.cons (i := 48) rfl (.cons (i := 49) rfl (.cons (i := 50) rfl (.cons (i := 55) rfl (.cons (i := 56) rfl (.cons (i := 57) rfl (.cons (i := 98) rfl (.cons (i := 99) rfl (.nil))))))))))))))) (fun wz hw => hw.pick [1, 2, 3, 4] rfl)
                  · replace hF40 := cneg hC44 hF40
                    refine W.exit ?_
                    obtain rfl := Option.some.inj hF40
                    obtain rfl := einr hN40
                    exact W.joinAt2 hK31 After40 (mput steps31 x35.call x35) (Option.some.inj hF30) (.nil) (.cons (i := 9) rfl (.cons (i := 11) rfl (.cons (i := 13) rfl (.cons (i := 14) rfl (.cons (i := 15) rfl (.cons (i := 48) rfl (.cons (i := 49) rfl (.cons (i := 50) rfl (.cons (i := 55) rfl (.cons (i := 56) rfl (.cons (i := 57) rfl (.nil)))))))))))) (fun wz hw => hw.pick [0, 1, 2] rfl)
              · -- behind
                rintro After33 steps34 rfl
                refine W.reg ?_
                obtain ⟨hk47, hF25⟩ := ckh hF25
                refine WL.q (Y.add (.pl rfl) (.pl rfl) (ok64_lt (hk47))) rfl ?_
                refine WL.q (Y.move (.pl rfl)) rfl ?_
                refine WL.nil ?_
                obtain rfl := Option.some.inj hF25
                exact W.again3 hK26 After33 steps34 (v32 + 1) k25 hN25 (Nat.lt_succ_self _) (.cons rfl (.nil)) (.cons (i := 9) rfl (.cons (i := 11) rfl (.cons (i := 13) rfl (.cons (i := 14) rfl (.cons (i := 15) rfl (.cons (i := 48) rfl (.cons (i := 49) rfl (.cons (i := 50) rfl (.cons (i := 55) rfl (.cons (i := 56) rfl (.nil))))))))))) (fun wz hw => hw.pick [0, 1, 2] rfl)
            · replace hF25 := cneg hC29 hF25
              refine W.exit ?_
              obtain rfl := Option.some.inj hF25
              exact W.joinAt2 hK22 After30 steps31 (einr hN25) (.nil) (.cons (i := 9) rfl (.cons (i := 11) rfl (.cons (i := 13) rfl (.cons (i := 48) rfl (.cons (i := 49) rfl (.cons (i := 50) rfl (.nil))))))) (fun wz hw => hw.pick [0, 1, 2] rfl)
          · -- behind
            rintro After27 steps28 rfl
            refine W.reg ?_
            obtain ⟨hk48, hF16⟩ := ckh hF16
            refine WL.q (Y.add (.pl rfl) (.pl rfl) (ok64_lt (hk48))) rfl ?_
            refine WL.q (Y.move (.pl rfl)) rfl ?_
            refine WL.nil ?_
            obtain rfl := Option.some.inj hF16
            exact W.again3 hK17 After27 steps28 (v26 + 1) k16 hN16 (Nat.lt_succ_self _) (.cons rfl (.nil)) (.cons (i := 9) rfl (.cons (i := 11) rfl (.cons (i := 13) rfl (.cons (i := 48) rfl (.cons (i := 49) rfl (.nil)))))) (fun wz hw => hw.pick [0, 1, 2] rfl)
        · replace hF16 := cneg hC20 hF16
          refine W.exit ?_
          obtain rfl := Option.some.inj hF16
          exact W.joinAt2 hK14 After24 steps25 (einr hN16) (.nil) (.cons (i := 11) rfl (.cons (i := 13) rfl (.nil))) (fun wz hw => hw.pick [1, 2] rfl)
      · -- behind
        rintro After22 steps23 rfl
        refine W.seqR fun Q51 hQ51 => ?_
        refine WL.q (Y.loadBA (ds := (encRel (Rel.mk r19.1 After22))) Try.underlying99 rfl cells99 (.pl rfl) (i := 0) rfl rfl subW) rfl ?_
        obtain ⟨r49, hr49, hF⟩ := bnd hF
        refine WL.step (WO.callM isGo83 (.cons (.pl rfl) (.nil)) rfl (fun wz hw => order_Least_ok (hr49) wz ) ?_)
        rintro ⟨A50, c51⟩ -
        refine WL.q (Y.move (.pl rfl)) rfl ?_
        refine WL.q (Y.extract (.pl rfl) rfl) rfl ?_
        refine WL.q (Y.extract (.pl rfl) rfl) rfl ?_
        refine WL.q (Y.assign (.pl rfl)) rfl ?_
        refine WL.q (Y.assign (.pl rfl)) rfl ?_
        refine WL.next hQ51 (.cons (i := 10) rfl (.cons (i := 13) rfl (.cons (i := 22) rfl (.nil)))) ?_
        refine W.seq fun K52 hK52 => ?_
        refine W.seqR fun Q53 hQ53 => ?_
        refine WL.q (Y.move (.pl rfl)) rfl ?_
        refine WL.q (Y.neq (.pl rfl) (.pl rfl)) rfl ?_
        refine WL.next hQ53 (.cons (i := 13) rfl (.cons (i := 22) rfl (.cons (i := 125) rfl (.nil)))) ?_
        refine W.cond (.pl rfl) (fun hC54 => ?_) (fun hC54 => ?_)
        · replace hF := cpos hC54 hF
          refine W.seqR fun Q55 hQ55 => ?_
          refine WL.q (Y.assign (.pl rfl)) rfl ?_
          refine WL.q (Y.assign (.pl rfl)) rfl ?_
          refine WL.q (Y.assign (.pl rfl)) rfl ?_
          refine WL.next hQ55 (.cons (i := 6) rfl (.cons (i := 7) rfl (.cons (i := 8) rfl (.nil)))) ?_
          obtain rfl := Option.some.inj hF
          refine W.retV (fn := Try.f58) (vs := [.slice none 0 0, .bool false, .int .i64 0]) Try.results58 ⟨.tmp rfl, ⟨.tmp rfl, ⟨.tmp rfl, trivial⟩⟩⟩ (fun _ _ h => h) (fun wz hw => ?_)
          exact hR _ _ ⟨(none, 0), trivial, rfl, ((St.nilR (hw.pick [] rfl) encStep 2 58).pick [0] rfl)⟩
        · replace hF := cneg hC54 hF
          refine W.skip ?_
          refine W.go hK52 (.cons (i := 13) rfl (.cons (i := 22) rfl (.nil))) ?_
          refine W.seqR fun Q56 hQ56 => ?_
          refine WL.q (Y.assign (.pl rfl)) rfl ?_
          refine WL.next hQ56 (.cons (i := 13) rfl (.cons (i := 22) rfl (.cons (i := 23) rfl (.nil)))) ?_
          obtain ⟨o57, hF57, hF⟩ := bnd hF
          refine W.join3 (Em := fun (out54 : (List Step)) (A52 : Option Addr) (c53 : Nat) => [(23, .slice A52 (out54).length c53)]) (M := fun out54 A52 c53 => [cR encStep 2 A52 c53 58 out54]) (I := fun out54 A52 c53 => out54 = o57) (.nil) (fun K58 hK58 => ?_) ?_
          · -- up to
            refine W.seqR fun Q59 hQ59 => ?_
            refine WL.q (Y.move (.pl rfl)) rfl ?_
            refine WL.q (Y.len Try.underlying22 (.pl rfl)) rfl ?_
            refine WL.q (Y.move (.pl rfl)) rfl ?_
            refine WL.next hQ59 (.cons (i := 13) rfl (.cons (i := 23) rfl (.cons (i := 126) rfl (.cons (i := 127) rfl (.cons (i := 128) rfl (.nil)))))) ?_
            refine W.block ?_
            refine W.loop4 (Em := fun (out57 : (List Step)) (v58 : Int) (A55 : Option Addr) (c56 : Nat) => [(23, .slice A55 (out57).length c56), (128, .int .i64 v58)]) (M := fun out57 v58 A55 c56 => [cM (fun x => Value.agg (encStep x).toArray) (some b21) steps23, cR encStep 2 A55 c56 58 out57, cR (eI .i64) 1 A50 c51 3 r49.1]) (I := fun out57 v58 A55 c56 k60 => iter (local_Join_L175 N r49 steps23) k60 (out57, v58) = some o57) [] 0 none 0 N (hF57) (.cons rfl (.cons rfl (.nil))) (.cons (i := 13) rfl (.cons (i := 126) rfl (.cons (i := 127) rfl (.nil)))) (fun wz hw => (St.nilR (hw.pick [2, 0] rfl) encStep 2 58).pick [1, 0, 2] rfl) (fun out57 v58 A55 c56 k60 hI K61 hK61 => ?_)
            obtain ⟨k60, t60, rfl, hF60, hN60⟩ := iter_step hI
            refine W.seqR fun Q62 hQ62 => ?_
            refine WL.q (Y.lss (.pl rfl) (.pl rfl)) rfl ?_
            refine WL.next hQ62 (.cons (i := 13) rfl (.cons (i := 23) rfl (.cons (i := 126) rfl (.cons (i := 127) rfl (.cons (i := 128) rfl (.cons (i := 129) rfl (.nil))))))) ?_
            refine W.seq fun K63 hK63 => ?_
            refine W.cond (.pl rfl) (fun hC64 => ?_) (fun hC64 => ?_)
            · replace hF60 := cpos hC64 hF60
              refine W.skip ?_
              refine W.go hK63 (.cons (i := 13) rfl (.cons (i := 23) rfl (.cons (i := 126) rfl (.cons (i := 127) rfl (.cons (i := 128) rfl (.nil)))))) ?_
              refine W.seq fun K65 hK65 => ?_
              refine W.block ?_
              refine W.seqR fun Q66 hQ66 => ?_
              obtain ⟨x59, hx59, hF60⟩ := bnd hF60
              refine WL.q (Y.rowEl Try.underlying22 cells3 (i := 2) rfl (.pl rfl) rfl (.pl rfl) (ix_lt (hx59))) rfl ?_
              refine WL.q (Y.loadR (enc := (eI .i64)) (v := .int .i64 x59) (a := x59) (idx := v58) (j := 0) Try.underlying3 rfl (fun _ => rfl) (i := 2) rfl (.pl rfl) (ix_get (hx59)) rfl rfl) rfl ?_
              refine WL.q (Y.assign (.pl rfl)) rfl ?_
              refine WL.next hQ66 (.cons (i := 13) rfl (.cons (i := 23) rfl (.cons (i := 25) rfl (.cons (i := 126) rfl (.cons (i := 127) rfl (.cons (i := 128) rfl (.nil))))))) ?_
              refine W.seqR fun Q67 hQ67 => ?_
              refine WL.q (Y.move (.pl rfl)) rfl ?_
              refine WL.q (Y.move (.pl rfl)) rfl ?_
              refine WL.q (Y.mhas (f := (fun x => Value.agg (encStep x).toArray)) (dv := Step.z) Try.underlying119 Try.underlying3 zero58 (.pl rfl) (.pl rfl) (i := 0) rfl) rfl ?_
              refine WL.q (Y.move (.pl rfl)) rfl ?_
              refine WL.q (Y.extract (.pl rfl) rfl) rfl ?_
              refine WL.q (Y.extract (.pl rfl) rfl) rfl ?_
              refine WL.step (WO.alloc (cs := (encStep (Step.mk 0 0)).toArray) zero58 rfl rfl fun b60 => ?_)
              refine WL.step (WO.storeBA (ds := (encStep ((mget steps23 x59).getD Step.z))) (cs' := (encStep ((mget steps23 x59).getD Step.z))) cells58 (.pl rfl) (.pl rfl) rfl (oneStep _) (i := 0) rfl (lel (o := 0) (l := 2) (m := 2) (by decide) rfl rfl) (putW rfl) ?_)
              refine WL.q (Y.assign (.pl rfl)) rfl ?_
              refine WL.next hQ67 (.cons (i := 13) rfl (.cons (i := 23) rfl (.cons (i := 26) rfl (.cons (i := 27) rfl (.cons (i := 126) rfl (.cons (i := 127) rfl (.cons (i := 128) rfl (.nil)))))))) ?_
              refine W.seqR fun Q68 hQ68 => ?_
              refine WL.q (Y.move (.pl rfl)) rfl ?_
              refine WL.next hQ68 (.cons (i := 13) rfl (.cons (i := 23) rfl (.cons (i := 26) rfl (.cons (i := 126) rfl (.cons (i := 127) rfl (.cons (i := 128) rfl (.cons (i := 138) rfl (.nil)))))))) ?_
              refine W.cond (.pl rfl) (fun hC69 => ?_) (fun hC69 => ?_)
              · replace hF60 := cpos hC69 hF60
                refine W.reg ?_
                refine WL.q (Y.move (.pl rfl)) rfl ?_
                refine WL.q (Y.loadBA (ds := (encStep ((mget steps23 x59).getD Step.z))) Try.underlying58 rfl cells58 (.pl rfl) (i := 0) rfl rfl subW) rfl ?_
                refine WL.step (WO.bsliceC (enc := encStep) (ys := ([((mget steps23 x59).getD Step.z)] : List Step)) Try.underlying44 bz58 (.cons (.pl rfl) (.nil)) rfl lenStep rfl rfl (by decide) (by decide) rfl fun b61 => ?_)
                obtain ⟨hk64, hF60⟩ := ckh hF60
                refine WL.step (WO.appendC (enc := encStep) Try.underlying44 ap58 lenStep oneStep (.pl rfl) rfl (.pl rfl) (i := 3) rfl (m2 := 0) rfl (hk64) rfl fun A62 c63 => ?_)
                refine WL.q (Y.assign (.pl rfl)) rfl ?_
                refine WL.nil ?_
                refine W.go hK65 (.cons (i := 13) rfl (.cons (i := 23) rfl (.cons (i := 126) rfl (.cons (i := 127) rfl (.cons (i := 128) rfl (.nil)))))) ?_
                refine W.reg ?_
                obtain ⟨hk65, hF60⟩ := ckh hF60
                refine WL.q (Y.add (.pl rfl) (.pl rfl) (ok64_lt (hk65))) rfl ?_
                refine WL.q (Y.move (.pl rfl)) rfl ?_
                refine WL.nil ?_
                obtain rfl := Option.some.inj hF60
                exact W.again4 hK61 (out57 ++ ([((mget steps23 x59).getD Step.z)] : List Step)) (v58 + 1) A62 c63 k60 hN60 (Nat.lt_succ_self _) (.cons rfl (.cons rfl (.nil))) (.cons (i := 13) rfl (.cons (i := 126) rfl (.cons (i := 127) rfl (.nil)))) (fun wz hw => hw.pick [2, 3, 4] rfl)
              · replace hF60 := cneg hC69 hF60
                refine W.skip ?_
                refine W.go hK65 (.cons (i := 13) rfl (.cons (i := 23) rfl (.cons (i := 126) rfl (.cons (i := 127) rfl (.cons (i := 128) rfl (.nil)))))) ?_
                refine W.reg ?_
                obtain ⟨hk66, hF60⟩ := ckh hF60
                refine WL.q (Y.add (.pl rfl) (.pl rfl) (ok64_lt (hk66))) rfl ?_
                refine WL.q (Y.move (.pl rfl)) rfl ?_
                refine WL.nil ?_
                obtain rfl := Option.some.inj hF60
                exact W.again4 hK61 out57 (v58 + 1) A55 c56 k60 hN60 (Nat.lt_succ_self _) (.cons rfl (.cons rfl (.nil))) (.cons (i := 13) rfl (.cons (i := 126) rfl (.cons (i := 127) rfl (.nil)))) (fun wz hw => hw.pick [1, 2, 3] rfl)
            · replace hF60 := cneg hC64 hF60
              refine W.exit ?_
              obtain rfl := Option.some.inj hF60
              exact W.joinAt3 hK58 out57 A55 c56 (einr hN60) (.cons rfl (.nil)) (.nil) (fun wz hw => hw.pick [1] rfl)
          · -- behind
            rintro out54 A52 c53 rfl
            refine W.seqR fun Q73 hQ73 => ?_
            refine WL.q (Y.move (.pl rfl)) rfl ?_
            refine WL.q (Y.assign (.pl rfl)) rfl ?_
            refine WL.q (Y.assign (.pl rfl)) rfl ?_
            refine WL.q (Y.assign (.pl rfl)) rfl ?_
            refine WL.next hQ73 (.cons (i := 6) rfl (.cons (i := 7) rfl (.cons (i := 8) rfl (.nil)))) ?_
            obtain rfl := Option.some.inj hF
            refine W.retV (fn := Try.f58) (vs := [.slice A52 (out54).length c53, .bool true, .int .i64 0]) Try.results58 ⟨.tmp rfl, ⟨.tmp rfl, ⟨.tmp rfl, trivial⟩⟩⟩ (fun _ _ h => h) (fun wz hw => ?_)
            exact hR _ _ ⟨(A52, c53), trivial, rfl, (hw.pick [0] rfl)⟩

end Go.Proofs.Ytpakplmpihhmbaa
