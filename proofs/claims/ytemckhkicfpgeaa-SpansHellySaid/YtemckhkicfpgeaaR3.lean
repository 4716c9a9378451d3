/- The laws of orders: what their code computes, and the walks, on. -/
import Derived.Test.YtemckhkicfpgeaaR2
set_option linter.unusedVariables false
set_option linter.unusedSimpArgs false
set_option linter.unusedSectionVars false
set_option maxRecDepth 100000
namespace Go.Proofs.Ytemckhkicfpgeaa
open Go.RowKit
theorem isGo23 : IsGo Try.prog 23 := ⟨_, Try.func23, by kernel_rfl, rfl⟩
theorem isGo25 : IsGo Try.prog 25 := ⟨_, Try.func25, by kernel_rfl, rfl⟩
def order_Ranks_L171 (N : Nat) (r3 : (Int × (List Int) × Int)) (v12 : Int) : ((List Int) × Int) → Option (((List Int) × Int) ⊕ (List Int))
  | (out14, v15) =>
    cond (decide (v15 < r3.1))
      (bd (order_has N (Rel.mk r3.1 r3.2.1) v12 v15) fun (r16 : Bool) =>
      cond r16
        (bd (ix out14 v15) fun (x17 : Int) =>
        bd (ix out14 v12) fun (x18 : Int) =>
        ck (ok64 (x18 + 1)) <|
        bd (ix out14 v15) fun (x20 : Int) =>
        ck (ok64 (v15 + 1)) <|
        some (.inl ((out14.set v15.toNat (max x17 (x18 + 1))), (v15 + 1))))
        (ck (ok64 (v15 + 1)) <|
        some (.inl (out14, (v15 + 1)))))
      (some (.inr out14))

def order_Ranks_L169 (N : Nat) (r3 : (Int × (List Int) × Int)) : ((List Int) × Int) → Option (((List Int) × Int) ⊕ (List Int))
  | (out11, v12) =>
    cond (decide (v12 < r3.1))
      (bd (α := (List Int)) (iter (order_Ranks_L171 N r3 v12) N (out11, 0)) <|
      fun (out13 : (List Int)) => 
        ck (ok64 (v12 + 1)) <|
        some (.inl (out13, (v12 + 1))))
      (some (.inr out11))

def order_Ranks_L157 (N : Nat) (r3 : (Int × (List Int) × Int)) : ((List Int) × Int) → Option (((List Int) × Int) ⊕ (List Int))
  | (out8, v9) =>
    cond (decide (v9 < r3.1))
      (bd (α := (List Int)) (iter (order_Ranks_L169 N r3) N (out8, 0)) <|
      fun (out10 : (List Int)) => 
        ck (ok64 (v9 + 1)) <|
        some (.inl (out10, (v9 + 1))))
      (some (.inr out8))

def order_Ranks (N : Nat) (r1 : Rel) : Option ((List Int) × Int) :=
  bd (order_acyclic N r1) fun (r3 : (Int × (List Int) × Int)) =>
  cond (!(decide (r3.2.2 = 0)))
    (some ([], r3.2.2))
    (ck (mkB 8 r3.1) <|
    bd (α := (List Int)) (iter (order_Ranks_L157 N r3) N ((List.replicate r3.1.toNat (0 : Int)), 0)) <|
    fun (out7 : (List Int)) => 
      some (out7, 0))

theorem order_Ranks_ok {N : Nat} {r1 : Rel} {res : ((List Int) × Int)} (hF : order_Ranks N r1 = some res) (w : World) :
    Made Try.prog 23 [.agg (encRel r1).toArray] w (fun g : (Option Addr × Nat) => .tuple #[.slice g.1 (res.1).length g.2, .int .i64 res.2]) (fun g => [cR (eI .i64) 1 g.1 g.2 3 res.1]) (fun _ => True) := by
  refine W.enter (n := 55) Try.func23 rfl rfl Sub.refl (by simp) (St.start w) fun R hR => ?_
  unfold order_Ranks at hF
  -- region 0: order.go:197
  refine W.seqR fun Q1 hQ1 => ?_
  refine WL.step (WO.boxA (.pl rfl) rfl fun b2 => ?_)
  refine WL.q (Y.assign (.pl rfl)) rfl ?_
  refine WL.q (Y.assign (.pl rfl)) rfl ?_
  refine WL.next hQ1 (.cons (i := 1) rfl (.nil)) ?_
  -- region 1: order.go:198
  refine W.seqR fun Q2 hQ2 => ?_
  refine WL.q (Y.loadBA (ds := (encRel r1)) Try.underlying25 rfl cells25 (.pl rfl) (i := 0) rfl rfl subW) rfl ?_
  obtain ⟨r3, hr3, hF⟩ := bnd hF
  refine WL.step (WO.callP isGo40 (.cons (.pl rfl) (.nil)) rfl (fun w hw => order_acyclic_ok (hr3) w ) ?_)
  refine WL.q (Y.move (.pl rfl)) rfl ?_
  refine WL.q (Y.extract (.pl rfl) rfl) rfl ?_
  refine WL.q (Y.extract (.pl rfl) rfl) rfl ?_
  refine WL.step (WO.alloc (cs := (encRel (Rel.mk 0 [])).toArray) zero25 rfl rfl fun b4 => ?_)
  refine WL.step (WO.storeBA (ds := (encRel (Rel.mk r3.1 r3.2.1))) (cs' := (encRel (Rel.mk r3.1 r3.2.1))) cells25 (.pl rfl) (.pl rfl) rfl (oneRel _) (i := 0) rfl (lel (o := 0) (l := 13) (m := 13) (by decide) rfl rfl) (putW rfl) ?_)
  refine WL.q (Y.assign (.pl rfl)) rfl ?_
  refine WL.next hQ2 (.cons (i := 4) rfl (.cons (i := 5) rfl (.nil))) ?_
  refine W.seq fun K3 hK3 => ?_
  -- region 2: order.go:199
  refine W.seqR fun Q4 hQ4 => ?_
  refine WL.q (Y.move (.pl rfl)) rfl ?_
  refine WL.q (Y.neq (.pl rfl) (.pl rfl)) rfl ?_
  refine WL.next hQ4 (.cons (i := 4) rfl (.cons (i := 5) rfl (.cons (i := 15) rfl (.nil)))) ?_
  refine W.cond (.pl rfl) (fun hC5 => ?_) (fun hC5 => ?_)
  · replace hF := cpos hC5 hF
    -- region 3: order.go:200
    refine W.seqR fun Q6 hQ6 => ?_
    refine WL.q (Y.move (.pl rfl)) rfl ?_
    refine WL.q (Y.assign (.pl rfl)) rfl ?_
    refine WL.q (Y.assign (.pl rfl)) rfl ?_
    refine WL.next hQ6 (.cons (i := 2) rfl (.cons (i := 3) rfl (.nil))) ?_
    obtain rfl := Option.some.inj hF
    refine W.retV (fn := Try.f23) (vs := [.slice none 0 0, .int .i64 r3.2.2]) Try.results23 ⟨.tmp rfl, ⟨.tmp rfl, trivial⟩⟩ (fun _ _ h => h) (fun w hw => ?_)
    exact hR _ _ ⟨(none, 0), trivial, rfl, ((St.nilR (hw.pick [] rfl) (eI .i64) 1 3).pick [0] rfl)⟩
  · replace hF := cneg hC5 hF
    refine W.skip ?_
    refine W.go hK3 (.cons (i := 4) rfl (.nil)) ?_
    -- region 4: order.go:202
    refine W.seqR fun Q7 hQ7 => ?_
    refine WL.q (Y.fieldAddr0 (off := 0) (ft := 3) Try.underlying25 rfl cells3 (.pl rfl)) rfl ?_
    refine WL.q (Y.loadB (v := .int .i64 r3.1) Try.underlying3 rfl (.pl rfl) (i := 0) rfl (rfl)) rfl ?_
    obtain ⟨hk6, hF⟩ := ckh hF
    refine WL.step (WO.makeC (enc := (eI .i64)) (z := 0) Try.underlying34 mka3 rfl (.pl rfl) (hk6) rfl fun b5 => ?_)
    refine WL.q (Y.assign (.pl rfl)) rfl ?_
    refine WL.next hQ7 (.cons (i := 4) rfl (.cons (i := 6) rfl (.nil))) ?_
    obtain ⟨o8, hF8, hF⟩ := bnd hF
    refine W.join1 (Em := fun (out7 : (List Int)) => [(6, .slice (some ⟨b5, 0, none⟩) (out7).length r3.1.toNat)]) (M := fun out7 => [cR (eI .i64) 1 (some ⟨b5, 0, none⟩) r3.1.toNat 3 out7]) (I := fun out7 => out7 = o8) (.nil) (fun K9 hK9 => ?_) ?_
    · -- up to
      -- region 5: order.go:203
      refine W.seqR fun Q10 hQ10 => ?_
      refine WL.q (Y.fieldAddr0 (off := 0) (ft := 3) Try.underlying25 rfl cells3 (.pl rfl)) rfl ?_
      refine WL.q (Y.loadB (v := .int .i64 r3.1) Try.underlying3 rfl (.pl rfl) (i := 1) rfl (rfl)) rfl ?_
      refine WL.q (Y.move (.pl rfl)) rfl ?_
      refine WL.next hQ10 (.cons (i := 4) rfl (.cons (i := 6) rfl (.cons (i := 21) rfl (.cons (i := 22) rfl (.nil))))) ?_
      refine W.block ?_
      refine W.loop2 (Em := fun (out8 : (List Int)) (v9 : Int) => [(6, .slice (some ⟨b5, 0, none⟩) (out8).length r3.1.toNat), (22, .int .i64 v9)]) (M := fun out8 v9 => [cBx b4 25 (encRel (Rel.mk r3.1 r3.2.1)), cR (eI .i64) 1 (some ⟨b5, 0, none⟩) r3.1.toNat 3 out8]) (I := fun out8 v9 k11 => iter (order_Ranks_L157 N r3) k11 (out8, v9) = some o8) (List.replicate r3.1.toNat (0 : Int)) 0 N (hF8) (.cons rfl (.cons rfl (.nil))) (.cons (i := 4) rfl (.cons (i := 21) rfl (.nil))) (fun w hw => hw.pick [1, 0] rfl) (fun out8 v9 k11 hI K12 hK12 => ?_)
      obtain ⟨k11, t11, rfl, hF11, hN11⟩ := iter_step hI
      -- region 6: order.go:203
      refine W.seqR fun Q13 hQ13 => ?_
      refine WL.q (Y.lss (.pl rfl) (.pl rfl)) rfl ?_
      refine WL.next hQ13 (.cons (i := 4) rfl (.cons (i := 6) rfl (.cons (i := 21) rfl (.cons (i := 22) rfl (.cons (i := 23) rfl (.nil)))))) ?_
      refine W.seq fun K14 hK14 => ?_
      refine W.cond (.pl rfl) (fun hC15 => ?_) (fun hC15 => ?_)
      · replace hF11 := cpos hC15 hF11
        refine W.skip ?_
        refine W.go hK14 (.cons (i := 4) rfl (.cons (i := 6) rfl (.cons (i := 21) rfl (.cons (i := 22) rfl (.nil))))) ?_
        obtain ⟨o16, hF16, hF11⟩ := bnd hF11
        refine W.join1 (Em := fun (out10 : (List Int)) => [(6, .slice (some ⟨b5, 0, none⟩) (out10).length r3.1.toNat)]) (M := fun out10 => [cBx b4 25 (encRel (Rel.mk r3.1 r3.2.1)), cR (eI .i64) 1 (some ⟨b5, 0, none⟩) r3.1.toNat 3 out10]) (I := fun out10 => out10 = o16) (.cons (i := 4) rfl (.cons (i := 21) rfl (.cons (i := 22) rfl (.nil)))) (fun K17 hK17 => ?_) ?_
        · -- up to
          refine W.block ?_
          -- region 7: order.go:204
          refine W.seqR fun Q18 hQ18 => ?_
          refine WL.q (Y.fieldAddr0 (off := 0) (ft := 3) Try.underlying25 rfl cells3 (.pl rfl)) rfl ?_
          refine WL.q (Y.loadB (v := .int .i64 r3.1) Try.underlying3 rfl (.pl rfl) (i := 0) rfl (rfl)) rfl ?_
          refine WL.q (Y.move (.pl rfl)) rfl ?_
          refine WL.next hQ18 (.cons (i := 4) rfl (.cons (i := 6) rfl (.cons (i := 21) rfl (.cons (i := 22) rfl (.cons (i := 25) rfl (.cons (i := 26) rfl (.nil))))))) ?_
          refine W.block ?_
          refine W.loop2 (Em := fun (out11 : (List Int)) (v12 : Int) => [(6, .slice (some ⟨b5, 0, none⟩) (out11).length r3.1.toNat), (26, .int .i64 v12)]) (M := fun out11 v12 => [cBx b4 25 (encRel (Rel.mk r3.1 r3.2.1)), cR (eI .i64) 1 (some ⟨b5, 0, none⟩) r3.1.toNat 3 out11]) (I := fun out11 v12 k19 => iter (order_Ranks_L169 N r3) k19 (out11, v12) = some o16) out8 0 N (hF16) (.cons rfl (.cons rfl (.nil))) (.cons (i := 4) rfl (.cons (i := 21) rfl (.cons (i := 22) rfl (.cons (i := 25) rfl (.nil))))) (fun w hw => hw.pick [0, 1] rfl) (fun out11 v12 k19 hI K20 hK20 => ?_)
          obtain ⟨k19, t19, rfl, hF19, hN19⟩ := iter_step hI
          -- region 8: order.go:204
          refine W.seqR fun Q21 hQ21 => ?_
          refine WL.q (Y.lss (.pl rfl) (.pl rfl)) rfl ?_
          refine WL.next hQ21 (.cons (i := 4) rfl (.cons (i := 6) rfl (.cons (i := 21) rfl (.cons (i := 22) rfl (.cons (i := 25) rfl (.cons (i := 26) rfl (.cons (i := 27) rfl (.nil)))))))) ?_
          refine W.seq fun K22 hK22 => ?_
          refine W.cond (.pl rfl) (fun hC23 => ?_) (fun hC23 => ?_)
          · replace hF19 := cpos hC23 hF19
            refine W.skip ?_
            refine W.go hK22 (.cons (i := 4) rfl (.cons (i := 6) rfl (.cons (i := 21) rfl (.cons (i := 22) rfl (.cons (i := 25) rfl (.cons (i := 26) rfl (.nil))))))) ?_
            obtain ⟨o24, hF24, hF19⟩ := bnd hF19
            refine W.join1 (Em := fun (out13 : (List Int)) => [(6, .slice (some ⟨b5, 0, none⟩) (out13).length r3.1.toNat)]) (M := fun out13 => [cBx b4 25 (encRel (Rel.mk r3.1 r3.2.1)), cR (eI .i64) 1 (some ⟨b5, 0, none⟩) r3.1.toNat 3 out13]) (I := fun out13 => out13 = o24) (.cons (i := 4) rfl (.cons (i := 21) rfl (.cons (i := 22) rfl (.cons (i := 25) rfl (.cons (i := 26) rfl (.nil)))))) (fun K25 hK25 => ?_) ?_
            · -- up to
              refine W.block ?_
              -- region 9: order.go:204
              refine W.seqR fun Q26 hQ26 => ?_
              refine WL.q (Y.move (.pl rfl)) rfl ?_
              refine WL.q (Y.assign (.pl rfl)) rfl ?_
              refine WL.next hQ26 (.cons (i := 4) rfl (.cons (i := 6) rfl (.cons (i := 7) rfl (.cons (i := 21) rfl (.cons (i := 22) rfl (.cons (i := 25) rfl (.cons (i := 26) rfl (.nil)))))))) ?_
              -- region 10: order.go:205
              refine W.seqR fun Q27 hQ27 => ?_
              refine WL.q (Y.fieldAddr0 (off := 0) (ft := 3) Try.underlying25 rfl cells3 (.pl rfl)) rfl ?_
              refine WL.q (Y.loadB (v := .int .i64 r3.1) Try.underlying3 rfl (.pl rfl) (i := 0) rfl (rfl)) rfl ?_
              refine WL.q (Y.move (.pl rfl)) rfl ?_
              refine WL.next hQ27 (.cons (i := 4) rfl (.cons (i := 6) rfl (.cons (i := 7) rfl (.cons (i := 21) rfl (.cons (i := 22) rfl (.cons (i := 25) rfl (.cons (i := 26) rfl (.cons (i := 30) rfl (.cons (i := 31) rfl (.nil)))))))))) ?_
              refine W.block ?_
              refine W.loop2 (Em := fun (out14 : (List Int)) (v15 : Int) => [(6, .slice (some ⟨b5, 0, none⟩) (out14).length r3.1.toNat), (31, .int .i64 v15)]) (M := fun out14 v15 => [cBx b4 25 (encRel (Rel.mk r3.1 r3.2.1)), cR (eI .i64) 1 (some ⟨b5, 0, none⟩) r3.1.toNat 3 out14]) (I := fun out14 v15 k28 => iter (order_Ranks_L171 N r3 v12) k28 (out14, v15) = some o24) out11 0 N (hF24) (.cons rfl (.cons rfl (.nil))) (.cons (i := 4) rfl (.cons (i := 7) rfl (.cons (i := 21) rfl (.cons (i := 22) rfl (.cons (i := 25) rfl (.cons (i := 26) rfl (.cons (i := 30) rfl (.nil)))))))) (fun w hw => hw.pick [0, 1] rfl) (fun out14 v15 k28 hI K29 hK29 => ?_)
              obtain ⟨k28, t28, rfl, hF28, hN28⟩ := iter_step hI
              -- region 11: order.go:205
              refine W.seqR fun Q30 hQ30 => ?_
              refine WL.q (Y.lss (.pl rfl) (.pl rfl)) rfl ?_
              refine WL.next hQ30 (.cons (i := 4) rfl (.cons (i := 6) rfl (.cons (i := 7) rfl (.cons (i := 21) rfl (.cons (i := 22) rfl (.cons (i := 25) rfl (.cons (i := 26) rfl (.cons (i := 30) rfl (.cons (i := 31) rfl (.cons (i := 32) rfl (.nil))))))))))) ?_
              refine W.seq fun K31 hK31 => ?_
              refine W.cond (.pl rfl) (fun hC32 => ?_) (fun hC32 => ?_)
              · replace hF28 := cpos hC32 hF28
                refine W.skip ?_
                refine W.go hK31 (.cons (i := 4) rfl (.cons (i := 6) rfl (.cons (i := 7) rfl (.cons (i := 21) rfl (.cons (i := 22) rfl (.cons (i := 25) rfl (.cons (i := 26) rfl (.cons (i := 30) rfl (.cons (i := 31) rfl (.nil)))))))))) ?_
                refine W.seq fun K33 hK33 => ?_
                refine W.block ?_
                -- region 12: order.go:205
                refine W.seqR fun Q34 hQ34 => ?_
                refine WL.q (Y.move (.pl rfl)) rfl ?_
                refine WL.q (Y.assign (.pl rfl)) rfl ?_
                refine WL.next hQ34 (.cons (i := 4) rfl (.cons (i := 6) rfl (.cons (i := 7) rfl (.cons (i := 8) rfl (.cons (i := 21) rfl (.cons (i := 22) rfl (.cons (i := 25) rfl (.cons (i := 26) rfl (.cons (i := 30) rfl (.cons (i := 31) rfl (.nil))))))))))) ?_
                -- region 13: order.go:206
                refine W.seqR fun Q35 hQ35 => ?_
                refine WL.q (Y.loadBA (ds := (encRel (Rel.mk r3.1 r3.2.1))) Try.underlying25 rfl cells25 (.pl rfl) (i := 0) rfl rfl subW) rfl ?_
                refine WL.q (Y.move (.pl rfl)) rfl ?_
                refine WL.q (Y.move (.pl rfl)) rfl ?_
                obtain ⟨r16, hr16, hF28⟩ := bnd hF28
                refine WL.step (WO.callP isGo45 (.cons (.pl rfl) (.cons (.pl rfl) (.cons (.pl rfl) (.nil)))) rfl (fun w hw => order_has_ok (hr16) w ) ?_)
                refine WL.next hQ35 (.cons (i := 4) rfl (.cons (i := 6) rfl (.cons (i := 7) rfl (.cons (i := 8) rfl (.cons (i := 21) rfl (.cons (i := 22) rfl (.cons (i := 25) rfl (.cons (i := 26) rfl (.cons (i := 30) rfl (.cons (i := 31) rfl (.cons (i := 37) rfl (.nil)))))))))))) ?_
                refine W.cond (.pl rfl) (fun hC36 => ?_) (fun hC36 => ?_)
                · replace hF28 := cpos hC36 hF28
                  -- region 14: order.go:207
                  refine W.regT 13 (by kernel_rfl) (by kernel_rfl) ?_
                  refine WS.q (Y.move (.pl rfl)) rfl ?_
                  refine WS.q (Y.move (.pl rfl)) rfl ?_
                  refine WS.q (Y.move (.pl rfl)) rfl ?_
                  refine WS.q (Y.move (.pl rfl)) rfl ?_
                  obtain ⟨x17, hx17, hF28⟩ := bnd hF28
                  refine WS.q (Y.litEl (xs := out14) Try.underlying34 cells3 (.pl rfl) rfl (.pl rfl) (ix_lt (hx17))) rfl ?_
                  refine WS.q (Y.loadR (enc := (eI .i64)) (v := .int .i64 x17) (a := x17) (idx := v15) (j := 0) Try.underlying3 rfl (fun _ => rfl) (i := 1) rfl (.pl rfl) (ix_get (hx17)) rfl rfl) rfl ?_
                  refine WS.q (Y.move (.pl rfl)) rfl ?_
                  refine WS.q (Y.move (.pl rfl)) rfl ?_
                  obtain ⟨x18, hx18, hF28⟩ := bnd hF28
                  refine WS.q (Y.litEl (xs := out14) Try.underlying34 cells3 (.pl rfl) rfl (.pl rfl) (ix_lt (hx18))) rfl ?_
                  refine WS.q (Y.loadR (enc := (eI .i64)) (v := .int .i64 x18) (a := x18) (idx := v12) (j := 0) Try.underlying3 rfl (fun _ => rfl) (i := 1) rfl (.pl rfl) (ix_get (hx18)) rfl rfl) rfl ?_
                  obtain ⟨hk19, hF28⟩ := ckh hF28
                  refine WS.q (Y.add (.pl rfl) (.pl rfl) (ok64_lt (hk19))) rfl ?_
                  refine WS.q (Y.max (.pl rfl) (.pl rfl)) rfl ?_
                  obtain ⟨x20, hx20, hF28⟩ := bnd hF28
                  refine WS.q (Y.litEl (xs := out14) Try.underlying34 cells3 (.pl rfl) rfl (.pl rfl) (ix_lt (hx20))) rfl ?_
                  refine WS.tail ?_
                  refine WL.step (WO.storeS (enc := (eI .i64)) (a := x20) (a' := (max x17 (x18 + 1))) (idx := v15) (j := 0) cells3 (.pl rfl) (.pl rfl) rfl (fun _ => rfl) (i := 1) rfl (ix_get (hx20)) rfl (by decide) rfl ?_)
                  refine WL.nil ?_
                  refine W.go hK33 (.cons (i := 4) rfl (.cons (i := 6) rfl (.cons (i := 7) rfl (.cons (i := 21) rfl (.cons (i := 22) rfl (.cons (i := 25) rfl (.cons (i := 26) rfl (.cons (i := 30) rfl (.cons (i := 31) rfl (.nil)))))))))) ?_
                  -- region 15: order.go:205
                  refine W.reg ?_
                  obtain ⟨hk21, hF28⟩ := ckh hF28
                  refine WL.q (Y.add (.pl rfl) (.pl rfl) (ok64_lt (hk21))) rfl ?_
                  refine WL.q (Y.move (.pl rfl)) rfl ?_
                  refine WL.nil ?_
                  obtain rfl := Option.some.inj hF28
                  exact W.again2 hK29 (out14.set v15.toNat (max x17 (x18 + 1))) (v15 + 1) k28 hN28 (Nat.lt_succ_self _) (.cons (eqSl (by simp)) (.cons rfl (.nil))) (.cons (i := 4) rfl (.cons (i := 7) rfl (.cons (i := 21) rfl (.cons (i := 22) rfl (.cons (i := 25) rfl (.cons (i := 26) rfl (.cons (i := 30) rfl (.nil)))))))) (fun w hw => hw.pick [0, 1] rfl)
                · replace hF28 := cneg hC36 hF28
                  refine W.skip ?_
                  refine W.go hK33 (.cons (i := 4) rfl (.cons (i := 6) rfl (.cons (i := 7) rfl (.cons (i := 21) rfl (.cons (i := 22) rfl (.cons (i := 25) rfl (.cons (i := 26) rfl (.cons (i := 30) rfl (.cons (i := 31) rfl (.nil)))))))))) ?_
                  -- region 15: order.go:205
                  refine W.reg ?_
                  obtain ⟨hk22, hF28⟩ := ckh hF28
                  refine WL.q (Y.add (.pl rfl) (.pl rfl) (ok64_lt (hk22))) rfl ?_
                  refine WL.q (Y.move (.pl rfl)) rfl ?_
                  refine WL.nil ?_
                  obtain rfl := Option.some.inj hF28
                  exact W.again2 hK29 out14 (v15 + 1) k28 hN28 (Nat.lt_succ_self _) (.cons rfl (.cons rfl (.nil))) (.cons (i := 4) rfl (.cons (i := 7) rfl (.cons (i := 21) rfl (.cons (i := 22) rfl (.cons (i := 25) rfl (.cons (i := 26) rfl (.cons (i := 30) rfl (.nil)))))))) (fun w hw => hw.pick [0, 1] rfl)
              · replace hF28 := cneg hC32 hF28
                refine W.exit ?_
                obtain rfl := Option.some.inj hF28
                exact W.joinAt1 hK25 out14 (einr hN28) (.cons rfl (.nil)) (.cons (i := 4) rfl (.cons (i := 21) rfl (.cons (i := 22) rfl (.cons (i := 25) rfl (.cons (i := 26) rfl (.nil)))))) (fun w hw => hw.pick [0, 1] rfl)
            · -- behind
              rintro out13 rfl
              -- region 16: order.go:204
              refine W.reg ?_
              obtain ⟨hk23, hF19⟩ := ckh hF19
              refine WL.q (Y.add (.pl rfl) (.pl rfl) (ok64_lt (hk23))) rfl ?_
              refine WL.q (Y.move (.pl rfl)) rfl ?_
              refine WL.nil ?_
              obtain rfl := Option.some.inj hF19
              exact W.again2 hK20 out13 (v12 + 1) k19 hN19 (Nat.lt_succ_self _) (.cons rfl (.cons rfl (.nil))) (.cons (i := 4) rfl (.cons (i := 21) rfl (.cons (i := 22) rfl (.cons (i := 25) rfl (.nil))))) (fun w hw => hw.pick [0, 1] rfl)
          · replace hF19 := cneg hC23 hF19
            refine W.exit ?_
            obtain rfl := Option.some.inj hF19
            exact W.joinAt1 hK17 out11 (einr hN19) (.cons rfl (.nil)) (.cons (i := 4) rfl (.cons (i := 21) rfl (.cons (i := 22) rfl (.nil)))) (fun w hw => hw.pick [0, 1] rfl)
        · -- behind
          rintro out10 rfl
          -- region 17: order.go:203
          refine W.reg ?_
          obtain ⟨hk24, hF11⟩ := ckh hF11
          refine WL.q (Y.add (.pl rfl) (.pl rfl) (ok64_lt (hk24))) rfl ?_
          refine WL.q (Y.move (.pl rfl)) rfl ?_
          refine WL.nil ?_
          obtain rfl := Option.some.inj hF11
          exact W.again2 hK12 out10 (v9 + 1) k11 hN11 (Nat.lt_succ_self _) (.cons rfl (.cons rfl (.nil))) (.cons (i := 4) rfl (.cons (i := 21) rfl (.nil))) (fun w hw => hw.pick [0, 1] rfl)
      · replace hF11 := cneg hC15 hF11
        refine W.exit ?_
        obtain rfl := Option.some.inj hF11
        exact W.joinAt1 hK9 out8 (einr hN11) (.cons rfl (.nil)) (.nil) (fun w hw => hw.pick [1] rfl)
    · -- behind
      rintro out7 rfl
      -- region 18: order.go:212
      refine W.seqR fun Q42 hQ42 => ?_
      refine WL.q (Y.move (.pl rfl)) rfl ?_
      refine WL.q (Y.assign (.pl rfl)) rfl ?_
      refine WL.q (Y.assign (.pl rfl)) rfl ?_
      refine WL.next hQ42 (.cons (i := 2) rfl (.cons (i := 3) rfl (.nil))) ?_
      obtain rfl := Option.some.inj hF
      refine W.retV (fn := Try.f23) (vs := [.slice (some ⟨b5, 0, none⟩) (out7).length r3.1.toNat, .int .i64 0]) Try.results23 ⟨.tmp rfl, ⟨.tmp rfl, trivial⟩⟩ (fun _ _ h => h) (fun w hw => ?_)
      exact hR _ _ ⟨((some ⟨b5, 0, none⟩), r3.1.toNat), trivial, rfl, (hw.pick [0] rfl)⟩

def alibkeep_OrderMirsky_L29 (N : Nat) (r1 : Rel) (r9 : (Int × (List Int) × Bool × Int)) (v18 : Int) (r3 : ((List Int) × Int)) (most17 : Int) (x20 : Int) : Int → Option (Int ⊕ (Int ⊕ Bool))
  | v21 =>
    cond (decide (v21 < r1.n))
      (bd (alibref_Ahead N (Rel.mk r9.1 r9.2.1) v18 v21) fun (r22 : Bool) =>
      bd ((cond (r22 == true) (ix r3.1 v18) (some 0))) fun (x23 : Int) =>
      bd ((cond (r22 == true) (ix r3.1 v21) (some 0))) fun (x24 : Int) =>
      cond (r22 && (decide (x24 ≤ x23)))
        (some (.inr (.inr false)))
        (ck (ok64 (v21 + 1)) <|
        some (.inl (v21 + 1))))
      (some (.inr (.inl (max most17 x20))))

def alibkeep_OrderMirsky_L27 (N : Nat) (r1 : Rel) (r3 : ((List Int) × Int)) (r9 : (Int × (List Int) × Bool × Int)) : (Int × Int) → Option ((Int × Int) ⊕ (Int ⊕ Bool))
  | (most17, v18) =>
    cond (decide (v18 < r1.n))
      (bd (α := (Int ⊕ Bool)) (bd (ix r3.1 v18) fun (x20 : Int) =>
        iter (alibkeep_OrderMirsky_L29 N r1 r9 v18 r3 most17 x20) N 0) <|
      Sum.elim (fun (most19 : Int) => 
        ck (ok64 (v18 + 1)) <|
        some (.inl (most19, (v18 + 1)))) (fun p => some (.inr (.inr p))))
      (some (.inr (.inl most17)))

def alibkeep_OrderMirsky_L31 (N : Nat) (r6 : ((List Int) × Int)) (r1 : Rel) (r9 : (Int × (List Int) × Bool × Int)) : Int → Option (Int ⊕ (Unit ⊕ Bool))
  | i27 =>
    cond (decide (i27 < ((r6.1).length : Int)))
      (ck (ok64 (i27 - 1)) <|
      bd (ix r6.1 (i27 - 1)) fun (x29 : Int) =>
      bd ((cond ((decide (x29 < 0)) == false) (ix r6.1 i27) (some 0))) fun (x30 : Int) =>
      ck (!(((decide (x29 < 0)) || (decide (x30 < 0))) == false) || (ok64 (i27 - 1))) <|
      bd ((cond (((decide (x29 < 0)) || (decide (x30 < 0))) == false) (ix r6.1 (i27 - 1)) (some 0))) fun (x32 : Int) =>
      bd ((cond ((((decide (x29 < 0)) || (decide (x30 < 0))) || (decide (r1.n ≤ x32))) == false) (ix r6.1 i27) (some 0))) fun (x33 : Int) =>
      ck (!(((((decide (x29 < 0)) || (decide (x30 < 0))) || (decide (r1.n ≤ x32))) || (decide (r1.n ≤ x33))) == false) || (ok64 (i27 - 1))) <|
      bd ((cond (((((decide (x29 < 0)) || (decide (x30 < 0))) || (decide (r1.n ≤ x32))) || (decide (r1.n ≤ x33))) == false) (ix r6.1 (i27 - 1)) (some 0))) fun (x35 : Int) =>
      bd ((cond (((((decide (x29 < 0)) || (decide (x30 < 0))) || (decide (r1.n ≤ x32))) || (decide (r1.n ≤ x33))) == false) (ix r6.1 i27) (some 0))) fun (x36 : Int) =>
      bd ((cond (((((decide (x29 < 0)) || (decide (x30 < 0))) || (decide (r1.n ≤ x32))) || (decide (r1.n ≤ x33))) == false) (alibref_Ahead N (Rel.mk r9.1 r9.2.1) x35 x36) (some false))) fun (r37 : Bool) =>
      cond (((((decide (x29 < 0)) || (decide (x30 < 0))) || (decide (r1.n ≤ x32))) || (decide (r1.n ≤ x33))) || (!r37))
        (some (.inr (.inr false)))
        (ck (ok64 (i27 + 1)) <|
        some (.inl (i27 + 1))))
      (some (.inr (.inl ())))

def alibkeep_OrderMirsky (N : Nat) (r1 : Rel) : Option Bool :=
  bd (order_Ranks N r1) fun (r3 : ((List Int) × Int)) =>
  bd (order_Chain N r1) fun (r6 : ((List Int) × Int)) =>
  bd (order_Close N r1) fun (r9 : (Int × (List Int) × Bool × Int)) =>
  bd (α := Bool) (bd (alibkeep_orderLives N) fun (r12 : Bool) =>
    cond ((!r12) == false)
      (bd (alibkeep_ok N ([r3.2, r6.2, r9.2.2.2] : List Int)) fun (r14 : Bool) =>
      some (((!r12) || (!r14)) || (!(decide (((r3.1).length : Int) = r1.n)))))
      (some (((!r12) || false) || (!(decide (((r3.1).length : Int) = r1.n)))))) <|
  fun (v11 : Bool) => 
    cond v11
      (bd (alibkeep_orderLives N) fun (r15 : Bool) =>
      some (r15 && ((decide (r3.2 = 0)) == (decide (r6.2 = 0)))))
      (bd (α := (Int ⊕ Bool)) (iter (alibkeep_OrderMirsky_L27 N r1 r3 r9) N ((-1), 0)) <|
      Sum.elim (fun (most16 : Int) => 
        bd (α := (Unit ⊕ Bool)) (iter (alibkeep_OrderMirsky_L31 N r6 r1 r9) N 1) <|
        Sum.elim (fun _ => 
          ck (ok64 (most16 + 1)) <|
          some (decide (((r6.1).length : Int) = (most16 + 1)))) (fun p => some p)) (fun p => some p))

theorem alibkeep_OrderMirsky_ok {N : Nat} {r1 : Rel} {res : Bool} (hF : alibkeep_OrderMirsky N r1 = some res) (w : World) :
    Pure Try.prog 7 [.agg (encRel r1).toArray] w (.bool res) := by
  refine W.enter (n := 145) Try.func7 rfl rfl Sub.refl (by simp) (St.start w) fun R hR => ?_
  unfold alibkeep_OrderMirsky at hF
  -- region 0: order.go:99
  refine W.seqR fun Q1 hQ1 => ?_
  refine WL.step (WO.boxA (.pl rfl) rfl fun b2 => ?_)
  refine WL.q (Y.assign (.pl rfl)) rfl ?_
  refine WL.next hQ1 (.cons (i := 1) rfl (.nil)) ?_
  -- region 1: order.go:100
  refine W.seqR fun Q2 hQ2 => ?_
  refine WL.q (Y.loadBA (ds := (encRel r1)) Try.underlying25 rfl cells25 (.pl rfl) (i := 0) rfl rfl subW) rfl ?_
  obtain ⟨r3, hr3, hF⟩ := bnd hF
  refine WL.step (WO.callM isGo23 (.cons (.pl rfl) (.nil)) rfl (fun w hw => order_Ranks_ok (hr3) w ) ?_)
  rintro ⟨A4, c5⟩ -
  refine WL.q (Y.move (.pl rfl)) rfl ?_
  refine WL.q (Y.extract (.pl rfl) rfl) rfl ?_
  refine WL.q (Y.extract (.pl rfl) rfl) rfl ?_
  refine WL.q (Y.assign (.pl rfl)) rfl ?_
  refine WL.q (Y.assign (.pl rfl)) rfl ?_
  refine WL.next hQ2 (.cons (i := 1) rfl (.cons (i := 3) rfl (.cons (i := 4) rfl (.nil)))) ?_
  -- region 2: order.go:101
  refine W.seqR fun Q3 hQ3 => ?_
  refine WL.q (Y.loadBA (ds := (encRel r1)) Try.underlying25 rfl cells25 (.pl rfl) (i := 1) rfl rfl subW) rfl ?_
  obtain ⟨r6, hr6, hF⟩ := bnd hF
  refine WL.step (WO.callM isGo22 (.cons (.pl rfl) (.nil)) rfl (fun w hw => order_Chain_ok (hr6) w ) ?_)
  rintro ⟨A7, c8⟩ -
  refine WL.q (Y.move (.pl rfl)) rfl ?_
  refine WL.q (Y.extract (.pl rfl) rfl) rfl ?_
  refine WL.q (Y.extract (.pl rfl) rfl) rfl ?_
  refine WL.q (Y.assign (.pl rfl)) rfl ?_
  refine WL.q (Y.assign (.pl rfl)) rfl ?_
  refine WL.next hQ3 (.cons (i := 1) rfl (.cons (i := 3) rfl (.cons (i := 4) rfl (.cons (i := 5) rfl (.cons (i := 6) rfl (.nil)))))) ?_
  -- region 3: order.go:102
  refine W.seqR fun Q4 hQ4 => ?_
  refine WL.q (Y.loadBA (ds := (encRel r1)) Try.underlying25 rfl cells25 (.pl rfl) (i := 2) rfl rfl subW) rfl ?_
  obtain ⟨r9, hr9, hF⟩ := bnd hF
  refine WL.step (WO.callP isGo15 (.cons (.pl rfl) (.nil)) rfl (fun w hw => order_Close_ok (hr9) w ) ?_)
  refine WL.q (Y.move (.pl rfl)) rfl ?_
  refine WL.q (Y.extract (.pl rfl) rfl) rfl ?_
  refine WL.q (Y.extract (.pl rfl) rfl) rfl ?_
  refine WL.q (Y.extract (.pl rfl) rfl) rfl ?_
  refine WL.step (WO.alloc (cs := (encRel (Rel.mk 0 [])).toArray) zero25 rfl rfl fun b10 => ?_)
  refine WL.step (WO.storeBA (ds := (encRel (Rel.mk r9.1 r9.2.1))) (cs' := (encRel (Rel.mk r9.1 r9.2.1))) cells25 (.pl rfl) (.pl rfl) rfl (oneRel _) (i := 0) rfl (lel (o := 0) (l := 13) (m := 13) (by decide) rfl rfl) (putW rfl) ?_)
  refine WL.q (Y.assign (.pl rfl)) rfl ?_
  refine WL.q (Y.assign (.pl rfl)) rfl ?_
  refine WL.next hQ4 (.cons (i := 1) rfl (.cons (i := 3) rfl (.cons (i := 4) rfl (.cons (i := 5) rfl (.cons (i := 6) rfl (.cons (i := 7) rfl (.cons (i := 9) rfl (.nil)))))))) ?_
  refine W.seq fun K5 hK5 => ?_
  obtain ⟨o6, hF6, hF⟩ := bnd hF
  refine W.join1 (Em := fun (v11 : Bool) => [(46, .bool v11)]) (M := fun v11 => [cBx b2 25 (encRel r1), cR (eI .i64) 1 A4 c5 3 r3.1, cR (eI .i64) 1 A7 c8 3 r6.1, cBx b10 25 (encRel (Rel.mk r9.1 r9.2.1))]) (I := fun v11 => v11 = o6) (.cons (i := 1) rfl (.cons (i := 3) rfl (.cons (i := 4) rfl (.cons (i := 5) rfl (.cons (i := 6) rfl (.cons (i := 7) rfl (.nil))))))) (fun K7 hK7 => ?_) ?_
  · -- up to
    -- region 4: order.go:103
    refine W.reg ?_
    obtain ⟨r12, hr12, hF6⟩ := bnd hF6
    refine WL.step (WO.callP isGo16 (.nil) rfl (fun w hw => alibkeep_orderLives_ok (hr12) w ) ?_)
    refine WL.q (Y.not (.pl rfl)) rfl ?_
    refine WL.q (Y.move (.pl rfl)) rfl ?_
    refine WL.g (.pl rfl rfl rfl) (fun hg => Y.move (.pl rfl)) rfl ?_
    refine WL.g (.pl rfl rfl rfl) (fun hg => Y.move (.pl rfl)) rfl ?_
    refine WL.g (.pl rfl rfl rfl) (fun hg => Y.move (.pl rfl)) rfl ?_
    refine bsplit ((!r12) == false) (fun hg8 => ?_) (fun hg8 => ?_)
    · replace hF6 := cpos hg8 hF6
      refine WL.gd (.pl rfl rfl rfl) (hg8) ?_
      refine WL.step (WO.bsliceC (enc := (eI .i64)) (ys := ([r3.2, r6.2, r9.2.2.2] : List Int)) Try.underlying75 bz26 (.cons (.gd (hg8) rfl) (.cons (.gd (hg8) rfl) (.cons (.gd (hg8) rfl) (.nil)))) rfl (fun _ => rfl) rfl rfl (by decide) (by decide) rfl fun b13 => ?_)
      refine WL.gd (.pl rfl rfl rfl) (hg8) ?_
      obtain ⟨r14, hr14, hF6⟩ := bnd hF6
      refine WL.step (WO.callP isGo20 (.cons (.pl rfl) (.nil)) rfl (fun w hw => alibkeep_ok_ok (hr14) w (SlIn.ofRow (fun _ => rfl) hw (i := 0) rfl)) ?_)
      refine WL.gd (.pl rfl rfl rfl) (hg8) ?_
      refine WL.q (Y.not (.pl rfl)) rfl ?_
      refine WL.q (Y.or (.pl rfl) (fun _ => .pl rfl)) rfl ?_
      refine WL.q (Y.move (.pl rfl)) rfl ?_
      refine WL.g (.pl rfl rfl rfl) (fun hg => Y.move (.pl rfl)) rfl ?_
      refine WL.g (.pl rfl rfl rfl) (fun hg => Y.len Try.underlying34 (.gd (hg) rfl)) rfl ?_
      refine WL.g (.pl rfl rfl rfl) (fun hg => Y.fieldAddr0 (off := 0) (ft := 3) Try.underlying25 rfl cells3 (.pl rfl)) rfl ?_
      refine WL.g (.pl rfl rfl rfl) (fun hg => Y.loadB (v := .int .i64 r1.n) Try.underlying3 rfl (.gd (hg) rfl) (i := 4) rfl (rfl)) rfl ?_
      refine WL.g (.pl rfl rfl rfl) (fun hg => Y.neq (.gd (hg) rfl) (.gd (hg) rfl)) rfl ?_
      refine WL.q (Y.or (.pl rfl) (fun h2 => .gd (eqf h2) rfl)) rfl ?_
      refine WL.nil ?_
      exact W.joinAt1 hK7 (((!r12) || (!r14)) || (!(decide (((r3.1).length : Int) = r1.n)))) (Option.some.inj hF6) (.cons rfl (.nil)) (.cons (i := 1) rfl (.cons (i := 3) rfl (.cons (i := 4) rfl (.cons (i := 5) rfl (.cons (i := 6) rfl (.cons (i := 7) rfl (.nil))))))) (fun w hw => hw.pick [4, 3, 2, 1] rfl)
    · replace hF6 := cneg hg8 hF6
      refine WL.gn (.pl rfl rfl rfl) hg8 rfl ?_
      refine WL.gn (.pl rfl rfl rfl) hg8 rfl ?_
      refine WL.gn (.pl rfl rfl rfl) hg8 rfl ?_
      refine WL.q (Y.or (b := false) (.pl rfl) (fun h2 => (gabsO hg8 h2).elim)) rfl ?_
      refine WL.q (Y.move (.pl rfl)) rfl ?_
      refine WL.g (.pl rfl rfl rfl) (fun hg => Y.move (.pl rfl)) rfl ?_
      refine WL.g (.pl rfl rfl rfl) (fun hg => Y.len Try.underlying34 (.gd (hg) rfl)) rfl ?_
      refine WL.g (.pl rfl rfl rfl) (fun hg => Y.fieldAddr0 (off := 0) (ft := 3) Try.underlying25 rfl cells3 (.pl rfl)) rfl ?_
      refine WL.g (.pl rfl rfl rfl) (fun hg => Y.loadB (v := .int .i64 r1.n) Try.underlying3 rfl (.gd (hg) rfl) (i := 3) rfl (rfl)) rfl ?_
      refine WL.g (.pl rfl rfl rfl) (fun hg => Y.neq (.gd (hg) rfl) (.gd (hg) rfl)) rfl ?_
      refine WL.q (Y.or (.pl rfl) (fun h2 => .gd (eqf h2) rfl)) rfl ?_
      refine WL.nil ?_
      exact W.joinAt1 hK7 (((!r12) || false) || (!(decide (((r3.1).length : Int) = r1.n)))) (Option.some.inj hF6) (.cons rfl (.nil)) (.cons (i := 1) rfl (.cons (i := 3) rfl (.cons (i := 4) rfl (.cons (i := 5) rfl (.cons (i := 6) rfl (.cons (i := 7) rfl (.nil))))))) (fun w hw => hw.pick [3, 2, 1, 0] rfl)
  · -- behind
    rintro v11 rfl
    refine W.cond (.pl rfl) (fun hC9 => ?_) (fun hC9 => ?_)
    · replace hF := cpos hC9 hF
      -- region 5: order.go:104
      refine W.seqR fun Q10 hQ10 => ?_
      obtain ⟨r15, hr15, hF⟩ := bnd hF
      refine WL.step (WO.callP isGo16 (.nil) rfl (fun w hw => alibkeep_orderLives_ok (hr15) w ) ?_)
      refine WL.q (Y.move (.pl rfl)) rfl ?_
      refine WL.g (.pl rfl rfl rfl) (fun hg => Y.move (.pl rfl)) rfl ?_
      refine WL.g (.pl rfl rfl rfl) (fun hg => Y.eql (.gd (hg) rfl) (.pl rfl)) rfl ?_
      refine WL.g (.pl rfl rfl rfl) (fun hg => Y.move (.pl rfl)) rfl ?_
      refine WL.g (.pl rfl rfl rfl) (fun hg => Y.eql (.gd (hg) rfl) (.pl rfl)) rfl ?_
      refine WL.g (.pl rfl rfl rfl) (fun hg => Y.eqlB Try.underlying4 (.gd (hg) rfl) (.gd (hg) rfl)) rfl ?_
      refine WL.q (Y.and (.pl rfl) (fun h2 => .gd (eqt h2) rfl)) rfl ?_
      refine WL.q (Y.assign (.pl rfl)) rfl ?_
      refine WL.next hQ10 (.cons (i := 2) rfl (.nil)) ?_
      obtain rfl := Option.some.inj hF
      refine W.retV (fn := Try.f7) (vs := [.bool (r15 && ((decide (r3.2 = 0)) == (decide (r6.2 = 0))))]) Try.results7 ⟨.tmp rfl, trivial⟩ (fun _ _ h => h) (fun w hw => ?_)
      exact hR _ _ ⟨rfl, (hw.pick [] rfl)⟩
    · replace hF := cneg hC9 hF
      refine W.skip ?_
      refine W.go hK5 (.cons (i := 1) rfl (.cons (i := 3) rfl (.cons (i := 5) rfl (.cons (i := 7) rfl (.nil))))) ?_
      -- region 6: order.go:106
      refine W.seqR fun Q11 hQ11 => ?_
      refine WL.q (Y.assign (.pl rfl)) rfl ?_
      refine WL.next hQ11 (.cons (i := 1) rfl (.cons (i := 3) rfl (.cons (i := 5) rfl (.cons (i := 7) rfl (.cons (i := 10) rfl (.nil)))))) ?_
      obtain ⟨o12, hF12, hF⟩ := bnd hF
      refine W.join1 (Em := fun (most16 : Int) => [(10, .int .i64 most16)]) (M := fun most16 => [cBx b2 25 (encRel r1), cR (eI .i64) 1 A7 c8 3 r6.1, cBx b10 25 (encRel (Rel.mk r9.1 r9.2.1))]) (I := fun most16 => (.inl most16) = o12) (.cons (i := 1) rfl (.cons (i := 5) rfl (.cons (i := 7) rfl (.nil)))) (fun K13 hK13 => ?_) ?_
      · -- up to
        -- region 7: order.go:107
        refine W.seqR fun Q14 hQ14 => ?_
        refine WL.q (Y.fieldAddr0 (off := 0) (ft := 3) Try.underlying25 rfl cells3 (.pl rfl)) rfl ?_
        refine WL.q (Y.loadB (v := .int .i64 r1.n) Try.underlying3 rfl (.pl rfl) (i := 0) rfl (rfl)) rfl ?_
        refine WL.q (Y.move (.pl rfl)) rfl ?_
        refine WL.next hQ14 (.cons (i := 1) rfl (.cons (i := 3) rfl (.cons (i := 5) rfl (.cons (i := 7) rfl (.cons (i := 10) rfl (.cons (i := 56) rfl (.cons (i := 57) rfl (.nil)))))))) ?_
        refine W.block ?_
        refine W.loop2 (Em := fun (most17 : Int) (v18 : Int) => [(10, .int .i64 most17), (57, .int .i64 v18)]) (M := fun most17 v18 => [cBx b2 25 (encRel r1), cR (eI .i64) 1 A4 c5 3 r3.1, cR (eI .i64) 1 A7 c8 3 r6.1, cBx b10 25 (encRel (Rel.mk r9.1 r9.2.1))]) (I := fun most17 v18 k15 => iter (alibkeep_OrderMirsky_L27 N r1 r3 r9) k15 (most17, v18) = some o12) (-1) 0 N (hF12) (.cons rfl (.cons rfl (.nil))) (.cons (i := 1) rfl (.cons (i := 3) rfl (.cons (i := 5) rfl (.cons (i := 7) rfl (.cons (i := 56) rfl (.nil)))))) (fun w hw => hw.pick [0, 1, 2, 3] rfl) (fun most17 v18 k15 hI K16 hK16 => ?_)
        obtain ⟨k15, t15, rfl, hF15, hN15⟩ := iter_step hI
        -- region 8: order.go:107
        refine W.seqR fun Q17 hQ17 => ?_
        refine WL.q (Y.lss (.pl rfl) (.pl rfl)) rfl ?_
        refine WL.next hQ17 (.cons (i := 1) rfl (.cons (i := 3) rfl (.cons (i := 5) rfl (.cons (i := 7) rfl (.cons (i := 10) rfl (.cons (i := 56) rfl (.cons (i := 57) rfl (.cons (i := 58) rfl (.nil))))))))) ?_
        refine W.seq fun K18 hK18 => ?_
        refine W.cond (.pl rfl) (fun hC19 => ?_) (fun hC19 => ?_)
        · replace hF15 := cpos hC19 hF15
          refine W.skip ?_
          refine W.go hK18 (.cons (i := 1) rfl (.cons (i := 3) rfl (.cons (i := 5) rfl (.cons (i := 7) rfl (.cons (i := 10) rfl (.cons (i := 56) rfl (.cons (i := 57) rfl (.nil)))))))) ?_
          obtain ⟨o20, hF20, hF15⟩ := bnd hF15
          refine W.join1 (Em := fun (most19 : Int) => [(10, .int .i64 most19)]) (M := fun most19 => [cBx b2 25 (encRel r1), cR (eI .i64) 1 A4 c5 3 r3.1, cR (eI .i64) 1 A7 c8 3 r6.1, cBx b10 25 (encRel (Rel.mk r9.1 r9.2.1))]) (I := fun most19 => (.inl most19) = o20) (.cons (i := 1) rfl (.cons (i := 3) rfl (.cons (i := 5) rfl (.cons (i := 7) rfl (.cons (i := 56) rfl (.cons (i := 57) rfl (.nil))))))) (fun K21 hK21 => ?_) ?_
          · -- up to
            refine W.block ?_
            -- region 9: order.go:107
            refine W.seqR fun Q22 hQ22 => ?_
            refine WL.q (Y.move (.pl rfl)) rfl ?_
            refine WL.q (Y.assign (.pl rfl)) rfl ?_
            refine WL.next hQ22 (.cons (i := 1) rfl (.cons (i := 3) rfl (.cons (i := 5) rfl (.cons (i := 7) rfl (.cons (i := 10) rfl (.cons (i := 11) rfl (.cons (i := 56) rfl (.cons (i := 57) rfl (.nil))))))))) ?_
            -- region 10: order.go:108
            refine W.seqR fun Q23 hQ23 => ?_
            refine WL.q (Y.move (.pl rfl)) rfl ?_
            refine WL.q (Y.move (.pl rfl)) rfl ?_
            refine WL.q (Y.move (.pl rfl)) rfl ?_
            obtain ⟨x20, hx20, hF20⟩ := bnd hF20
            refine WL.q (Y.rowEl Try.underlying34 cells3 (i := 1) rfl (.pl rfl) rfl (.pl rfl) (ix_lt (hx20))) rfl ?_
            refine WL.q (Y.loadR (enc := (eI .i64)) (v := .int .i64 x20) (a := x20) (idx := v18) (j := 0) Try.underlying3 rfl (fun _ => rfl) (i := 1) rfl (.pl rfl) (ix_get (hx20)) rfl rfl) rfl ?_
            refine WL.q (Y.max (.pl rfl) (.pl rfl)) rfl ?_
            refine WL.q (Y.assign (.pl rfl)) rfl ?_
            refine WL.next hQ23 (.cons (i := 1) rfl (.cons (i := 3) rfl (.cons (i := 5) rfl (.cons (i := 7) rfl (.cons (i := 10) rfl (.cons (i := 11) rfl (.cons (i := 56) rfl (.cons (i := 57) rfl (.nil))))))))) ?_
            -- region 11: order.go:109
            refine W.seqR fun Q24 hQ24 => ?_
            refine WL.q (Y.fieldAddr0 (off := 0) (ft := 3) Try.underlying25 rfl cells3 (.pl rfl)) rfl ?_
            refine WL.q (Y.loadB (v := .int .i64 r1.n) Try.underlying3 rfl (.pl rfl) (i := 0) rfl (rfl)) rfl ?_
            refine WL.q (Y.move (.pl rfl)) rfl ?_
            refine WL.next hQ24 (.cons (i := 1) rfl (.cons (i := 3) rfl (.cons (i := 5) rfl (.cons (i := 7) rfl (.cons (i := 10) rfl (.cons (i := 11) rfl (.cons (i := 56) rfl (.cons (i := 57) rfl (.cons (i := 67) rfl (.cons (i := 68) rfl (.nil))))))))))) ?_
            refine W.block ?_
            refine W.loop1 (Em := fun (v21 : Int) => [(68, .int .i64 v21)]) (M := fun v21 => [cBx b2 25 (encRel r1), cR (eI .i64) 1 A4 c5 3 r3.1, cR (eI .i64) 1 A7 c8 3 r6.1, cBx b10 25 (encRel (Rel.mk r9.1 r9.2.1))]) (I := fun v21 k25 => iter (alibkeep_OrderMirsky_L29 N r1 r9 v18 r3 most17 x20) k25 v21 = some o20) 0 N (hF20) (.cons rfl (.nil)) (.cons (i := 1) rfl (.cons (i := 3) rfl (.cons (i := 5) rfl (.cons (i := 7) rfl (.cons (i := 10) rfl (.cons (i := 11) rfl (.cons (i := 56) rfl (.cons (i := 57) rfl (.cons (i := 67) rfl (.nil)))))))))) (fun w hw => hw.pick [0, 1, 2, 3] rfl) (fun v21 k25 hI K26 hK26 => ?_)
            obtain ⟨k25, t25, rfl, hF25, hN25⟩ := iter_step hI
            -- region 12: order.go:109
            refine W.seqR fun Q27 hQ27 => ?_
            refine WL.q (Y.lss (.pl rfl) (.pl rfl)) rfl ?_
            refine WL.next hQ27 (.cons (i := 1) rfl (.cons (i := 3) rfl (.cons (i := 5) rfl (.cons (i := 7) rfl (.cons (i := 10) rfl (.cons (i := 11) rfl (.cons (i := 56) rfl (.cons (i := 57) rfl (.cons (i := 67) rfl (.cons (i := 68) rfl (.cons (i := 69) rfl (.nil)))))))))))) ?_
            refine W.seq fun K28 hK28 => ?_
            refine W.cond (.pl rfl) (fun hC29 => ?_) (fun hC29 => ?_)
            · replace hF25 := cpos hC29 hF25
              refine W.skip ?_
              refine W.go hK28 (.cons (i := 1) rfl (.cons (i := 3) rfl (.cons (i := 5) rfl (.cons (i := 7) rfl (.cons (i := 10) rfl (.cons (i := 11) rfl (.cons (i := 56) rfl (.cons (i := 57) rfl (.cons (i := 67) rfl (.cons (i := 68) rfl (.nil))))))))))) ?_
              refine W.seq fun K30 hK30 => ?_
              refine W.block ?_
              -- region 13: order.go:109
              refine W.seqR fun Q31 hQ31 => ?_
              refine WL.q (Y.move (.pl rfl)) rfl ?_
              refine WL.q (Y.assign (.pl rfl)) rfl ?_
              refine WL.next hQ31 (.cons (i := 1) rfl (.cons (i := 3) rfl (.cons (i := 5) rfl (.cons (i := 7) rfl (.cons (i := 10) rfl (.cons (i := 11) rfl (.cons (i := 12) rfl (.cons (i := 56) rfl (.cons (i := 57) rfl (.cons (i := 67) rfl (.cons (i := 68) rfl (.nil)))))))))))) ?_
              -- region 14: order.go:110
              refine W.seqD (by kernel_rfl) (by kernel_rfl) fun R32 hR32 => ?_
              refine WD.q (Y.loadBA (ds := (encRel (Rel.mk r9.1 r9.2.1))) Try.underlying25 rfl cells25 (.pl rfl) (i := 3) rfl rfl subW) rfl ?_
              refine WD.q (Y.move (.pl rfl)) rfl ?_
              refine WD.q (Y.move (.pl rfl)) rfl ?_
              obtain ⟨r22, hr22, hF25⟩ := bnd hF25
              refine WD.callP isGo21 (.cons (.pl rfl) (.cons (.pl rfl) (.cons (.pl rfl) (.nil)))) rfl (fun w hw => alibref_Ahead_ok (hr22) w ) ?_
              refine WD.q (Y.move (.pl rfl)) rfl ?_
              refine WD.g (.pl rfl rfl rfl) (fun hg => Y.move (.pl rfl)) rfl ?_
              refine WD.g (.pl rfl rfl rfl) (fun hg => Y.move (.pl rfl)) rfl ?_
              obtain ⟨x23, hx23, hF25⟩ := bnd hF25
              refine WD.g (.pl rfl rfl rfl) (fun hg => Y.rowEl Try.underlying34 cells3 (i := 1) rfl (.gd (hg) rfl) rfl (.gd (hg) rfl) (ix_lt (gpos hg hx23))) rfl ?_
              refine WD.g (.pl rfl rfl rfl) (fun hg => Y.loadR (enc := (eI .i64)) (v := .int .i64 x23) (a := x23) (idx := v18) (j := 0) Try.underlying3 rfl (fun _ => rfl) (i := 1) rfl (.gd (hg) rfl) (ix_get (gpos hg hx23)) rfl rfl) rfl ?_
              refine WD.g (.pl rfl rfl rfl) (fun hg => Y.move (.pl rfl)) rfl ?_
              refine WD.g (.pl rfl rfl rfl) (fun hg => Y.move (.pl rfl)) rfl ?_
              obtain ⟨x24, hx24, hF25⟩ := bnd hF25
              refine WD.g (.pl rfl rfl rfl) (fun hg => Y.rowEl Try.underlying34 cells3 (i := 1) rfl (.gd (hg) rfl) rfl (.gd (hg) rfl) (ix_lt (gpos hg hx24))) rfl ?_
              refine WD.g (.pl rfl rfl rfl) (fun hg => Y.loadR (enc := (eI .i64)) (v := .int .i64 x24) (a := x24) (idx := v21) (j := 0) Try.underlying3 rfl (fun _ => rfl) (i := 1) rfl (.gd (hg) rfl) (ix_get (gpos hg hx24)) rfl rfl) rfl ?_
              refine WD.g (.pl rfl rfl rfl) (fun hg => Y.geq (.gd (hg) rfl) (.gd (hg) rfl)) rfl ?_
              refine WD.q (Y.and (.pl rfl) (fun h2 => .gd (eqt h2) rfl)) rfl ?_
              refine WD.next hR32 (.cons (i := 1) rfl (.cons (i := 3) rfl (.cons (i := 5) rfl (.cons (i := 7) rfl (.cons (i := 10) rfl (.cons (i := 11) rfl (.cons (i := 56) rfl (.cons (i := 57) rfl (.cons (i := 67) rfl (.cons (i := 68) rfl (.cons (i := 85) rfl (.nil)))))))))))) ?_
              refine W.cond (.pl rfl) (fun hC33 => ?_) (fun hC33 => ?_)
              · replace hF25 := cpos hC33 hF25
                -- region 15: order.go:111
                refine W.seqR fun Q34 hQ34 => ?_
                refine WL.q (Y.assign (.pl rfl)) rfl ?_
                refine WL.next hQ34 (.cons (i := 2) rfl (.nil)) ?_
                obtain rfl := Option.some.inj hF25
                obtain rfl := einr hN25
                obtain rfl := Option.some.inj hF15
                obtain rfl := einr hN15
                obtain rfl := Option.some.inj hF
                refine W.retV (fn := Try.f7) (vs := [.bool false]) Try.results7 ⟨.tmp rfl, trivial⟩ (fun _ _ h => h) (fun w hw => ?_)
                exact hR _ _ ⟨rfl, (hw.pick [] rfl)⟩
              · replace hF25 := cneg hC33 hF25
                refine W.skip ?_
                refine W.go hK30 (.cons (i := 1) rfl (.cons (i := 3) rfl (.cons (i := 5) rfl (.cons (i := 7) rfl (.cons (i := 10) rfl (.cons (i := 11) rfl (.cons (i := 56) rfl (.cons (i := 57) rfl (.cons (i := 67) rfl (.cons (i := 68) rfl (.nil))))))))))) ?_
                -- region 16: order.go:109
                refine W.reg ?_
                obtain ⟨hk25, hF25⟩ := ckh hF25
                refine WL.q (Y.add (.pl rfl) (.pl rfl) (ok64_lt (hk25))) rfl ?_
                refine WL.q (Y.move (.pl rfl)) rfl ?_
                refine WL.nil ?_
                obtain rfl := Option.some.inj hF25
                exact W.again1 hK26 (v21 + 1) k25 hN25 (Nat.lt_succ_self _) (.cons rfl (.nil)) (.cons (i := 1) rfl (.cons (i := 3) rfl (.cons (i := 5) rfl (.cons (i := 7) rfl (.cons (i := 10) rfl (.cons (i := 11) rfl (.cons (i := 56) rfl (.cons (i := 57) rfl (.cons (i := 67) rfl (.nil)))))))))) (fun w hw => hw.pick [0, 1, 2, 3] rfl)
            · replace hF25 := cneg hC29 hF25
              refine W.exit ?_
              obtain rfl := Option.some.inj hF25
              exact W.joinAt1 hK21 (max most17 x20) (einr hN25) (.cons rfl (.nil)) (.cons (i := 1) rfl (.cons (i := 3) rfl (.cons (i := 5) rfl (.cons (i := 7) rfl (.cons (i := 56) rfl (.cons (i := 57) rfl (.nil))))))) (fun w hw => hw.pick [0, 1, 2, 3] rfl)
          · -- behind
            rintro most19 rfl
            -- region 17: order.go:107
            refine W.reg ?_
            obtain ⟨hk26, hF15⟩ := ckh hF15
            refine WL.q (Y.add (.pl rfl) (.pl rfl) (ok64_lt (hk26))) rfl ?_
            refine WL.q (Y.move (.pl rfl)) rfl ?_
            refine WL.nil ?_
            obtain rfl := Option.some.inj hF15
            exact W.again2 hK16 most19 (v18 + 1) k15 hN15 (Nat.lt_succ_self _) (.cons rfl (.cons rfl (.nil))) (.cons (i := 1) rfl (.cons (i := 3) rfl (.cons (i := 5) rfl (.cons (i := 7) rfl (.cons (i := 56) rfl (.nil)))))) (fun w hw => hw.pick [0, 1, 2, 3] rfl)
        · replace hF15 := cneg hC19 hF15
          refine W.exit ?_
          obtain rfl := Option.some.inj hF15
          exact W.joinAt1 hK13 most17 (einr hN15) (.cons rfl (.nil)) (.cons (i := 1) rfl (.cons (i := 5) rfl (.cons (i := 7) rfl (.nil)))) (fun w hw => hw.pick [0, 2, 3] rfl)
      · -- behind
        rintro most16 rfl
        obtain ⟨o37, hF37, hF⟩ := bnd hF
        refine W.join0 (Em := []) (M := [cR (eI .i64) 1 A7 c8 3 r6.1]) (I := (.inl ()) = o37) (.cons (i := 5) rfl (.cons (i := 10) rfl (.nil))) (fun K38 hK38 => ?_) ?_
        · -- up to
          -- region 18: order.go:115
          refine W.seqR fun Q39 hQ39 => ?_
          refine WL.q (Y.assign (.pl rfl)) rfl ?_
          refine WL.next hQ39 (.cons (i := 1) rfl (.cons (i := 5) rfl (.cons (i := 7) rfl (.cons (i := 10) rfl (.cons (i := 13) rfl (.nil)))))) ?_
          refine W.block ?_
          refine W.loop1 (Em := fun (i27 : Int) => [(13, .int .i64 i27)]) (M := fun i27 => [cBx b2 25 (encRel r1), cR (eI .i64) 1 A7 c8 3 r6.1, cBx b10 25 (encRel (Rel.mk r9.1 r9.2.1))]) (I := fun i27 k40 => iter (alibkeep_OrderMirsky_L31 N r6 r1 r9) k40 i27 = some o37) 1 N (hF37) (.cons rfl (.nil)) (.cons (i := 1) rfl (.cons (i := 5) rfl (.cons (i := 7) rfl (.cons (i := 10) rfl (.nil))))) (fun w hw => hw.pick [0, 1, 2] rfl) (fun i27 k40 hI K41 hK41 => ?_)
          obtain ⟨k40, t40, rfl, hF40, hN40⟩ := iter_step hI
          refine W.seq fun K42 hK42 => ?_
          -- region 19: order.go:115
          refine W.seqR fun Q43 hQ43 => ?_
          refine WL.q (Y.move (.pl rfl)) rfl ?_
          refine WL.q (Y.move (.pl rfl)) rfl ?_
          refine WL.q (Y.len Try.underlying34 (.pl rfl)) rfl ?_
          refine WL.q (Y.lss (.pl rfl) (.pl rfl)) rfl ?_
          refine WL.next hQ43 (.cons (i := 1) rfl (.cons (i := 5) rfl (.cons (i := 7) rfl (.cons (i := 10) rfl (.cons (i := 13) rfl (.cons (i := 91) rfl (.nil))))))) ?_
          refine W.cond (.pl rfl) (fun hC44 => ?_) (fun hC44 => ?_)
          · replace hF40 := cpos hC44 hF40
            refine W.skip ?_
            refine W.go hK42 (.cons (i := 1) rfl (.cons (i := 5) rfl (.cons (i := 7) rfl (.cons (i := 10) rfl (.cons (i := 13) rfl (.nil)))))) ?_
            refine W.seq fun K45 hK45 => ?_
            refine W.block ?_
            -- region 21: order.go:116
            refine W.seqD (by kernel_rfl) (by kernel_rfl) fun R46 hR46 => ?_
            refine WD.q (Y.move (.pl rfl)) rfl ?_
            refine WD.q (Y.move (.pl rfl)) rfl ?_
            obtain ⟨hk28, hF40⟩ := ckh hF40
            refine WD.q (Y.sub (.pl rfl) (.pl rfl) (ok64_lt (hk28))) rfl ?_
            obtain ⟨x29, hx29, hF40⟩ := bnd hF40
            refine WD.q (Y.rowEl Try.underlying34 cells3 (i := 1) rfl (.pl rfl) rfl (.pl rfl) (ix_lt (hx29))) rfl ?_
            refine WD.q (Y.loadR (enc := (eI .i64)) (v := .int .i64 x29) (a := x29) (idx := (i27 - 1)) (j := 0) Try.underlying3 rfl (fun _ => rfl) (i := 1) rfl (.pl rfl) (ix_get (hx29)) rfl rfl) rfl ?_
            refine WD.q (Y.lss (.pl rfl) (.pl rfl)) rfl ?_
            refine WD.q (Y.move (.pl rfl)) rfl ?_
            refine WD.g (.pl rfl rfl rfl) (fun hg => Y.move (.pl rfl)) rfl ?_
            refine WD.g (.pl rfl rfl rfl) (fun hg => Y.move (.pl rfl)) rfl ?_
            obtain ⟨x30, hx30, hF40⟩ := bnd hF40
            refine WD.g (.pl rfl rfl rfl) (fun hg => Y.rowEl Try.underlying34 cells3 (i := 1) rfl (.gd (hg) rfl) rfl (.gd (hg) rfl) (ix_lt (gpos hg hx30))) rfl ?_
            refine WD.g (.pl rfl rfl rfl) (fun hg => Y.loadR (enc := (eI .i64)) (v := .int .i64 x30) (a := x30) (idx := i27) (j := 0) Try.underlying3 rfl (fun _ => rfl) (i := 1) rfl (.gd (hg) rfl) (ix_get (gpos hg hx30)) rfl rfl) rfl ?_
            refine WD.g (.pl rfl rfl rfl) (fun hg => Y.lss (.gd (hg) rfl) (.pl rfl)) rfl ?_
            refine WD.q (Y.or (.pl rfl) (fun h2 => .gd (eqf h2) rfl)) rfl ?_
            refine WD.q (Y.move (.pl rfl)) rfl ?_
            refine WD.g (.pl rfl rfl rfl) (fun hg => Y.move (.pl rfl)) rfl ?_
            refine WD.g (.pl rfl rfl rfl) (fun hg => Y.move (.pl rfl)) rfl ?_
            obtain ⟨hk31, hF40⟩ := ckh hF40
            refine WD.g (.pl rfl rfl rfl) (fun hg => Y.sub (.gd (hg) rfl) (.pl rfl) (ok64_lt (gor hg hk31))) rfl ?_
            obtain ⟨x32, hx32, hF40⟩ := bnd hF40
            refine WD.g (.pl rfl rfl rfl) (fun hg => Y.rowEl Try.underlying34 cells3 (i := 1) rfl (.gd (hg) rfl) rfl (.gd (hg) rfl) (ix_lt (gpos hg hx32))) rfl ?_
            refine WD.g (.pl rfl rfl rfl) (fun hg => Y.loadR (enc := (eI .i64)) (v := .int .i64 x32) (a := x32) (idx := (i27 - 1)) (j := 0) Try.underlying3 rfl (fun _ => rfl) (i := 1) rfl (.gd (hg) rfl) (ix_get (gpos hg hx32)) rfl rfl) rfl ?_
            refine WD.g (.pl rfl rfl rfl) (fun hg => Y.fieldAddr0 (off := 0) (ft := 3) Try.underlying25 rfl cells3 (.pl rfl)) rfl ?_
            refine WD.g (.pl rfl rfl rfl) (fun hg => Y.loadB (v := .int .i64 r1.n) Try.underlying3 rfl (.gd (hg) rfl) (i := 0) rfl (rfl)) rfl ?_
            refine WD.g (.pl rfl rfl rfl) (fun hg => Y.geq (.gd (hg) rfl) (.gd (hg) rfl)) rfl ?_
            refine WD.q (Y.or (.pl rfl) (fun h2 => .gd (eqf h2) rfl)) rfl ?_
            refine WD.q (Y.move (.pl rfl)) rfl ?_
            refine WD.g (.pl rfl rfl rfl) (fun hg => Y.move (.pl rfl)) rfl ?_
            refine WD.g (.pl rfl rfl rfl) (fun hg => Y.move (.pl rfl)) rfl ?_
            obtain ⟨x33, hx33, hF40⟩ := bnd hF40
            refine WD.g (.pl rfl rfl rfl) (fun hg => Y.rowEl Try.underlying34 cells3 (i := 1) rfl (.gd (hg) rfl) rfl (.gd (hg) rfl) (ix_lt (gpos hg hx33))) rfl ?_
            refine WD.g (.pl rfl rfl rfl) (fun hg => Y.loadR (enc := (eI .i64)) (v := .int .i64 x33) (a := x33) (idx := i27) (j := 0) Try.underlying3 rfl (fun _ => rfl) (i := 1) rfl (.gd (hg) rfl) (ix_get (gpos hg hx33)) rfl rfl) rfl ?_
            refine WD.g (.pl rfl rfl rfl) (fun hg => Y.fieldAddr0 (off := 0) (ft := 3) Try.underlying25 rfl cells3 (.pl rfl)) rfl ?_
            refine WD.g (.pl rfl rfl rfl) (fun hg => Y.loadB (v := .int .i64 r1.n) Try.underlying3 rfl (.gd (hg) rfl) (i := 0) rfl (rfl)) rfl ?_
            refine WD.g (.pl rfl rfl rfl) (fun hg => Y.geq (.gd (hg) rfl) (.gd (hg) rfl)) rfl ?_
            refine WD.q (Y.or (.pl rfl) (fun h2 => .gd (eqf h2) rfl)) rfl ?_
            refine WD.q (Y.move (.pl rfl)) rfl ?_
            refine WD.g (.pl rfl rfl rfl) (fun hg => Y.loadBA (ds := (encRel (Rel.mk r9.1 r9.2.1))) Try.underlying25 rfl cells25 (.pl rfl) (i := 2) rfl rfl subW) rfl ?_
            refine WD.g (.pl rfl rfl rfl) (fun hg => Y.move (.pl rfl)) rfl ?_
            refine WD.g (.pl rfl rfl rfl) (fun hg => Y.move (.pl rfl)) rfl ?_
            obtain ⟨hk34, hF40⟩ := ckh hF40
            refine WD.g (.pl rfl rfl rfl) (fun hg => Y.sub (.gd (hg) rfl) (.pl rfl) (ok64_lt (gor hg hk34))) rfl ?_
            obtain ⟨x35, hx35, hF40⟩ := bnd hF40
            refine WD.g (.pl rfl rfl rfl) (fun hg => Y.rowEl Try.underlying34 cells3 (i := 1) rfl (.gd (hg) rfl) rfl (.gd (hg) rfl) (ix_lt (gpos hg hx35))) rfl ?_
            refine WD.g (.pl rfl rfl rfl) (fun hg => Y.loadR (enc := (eI .i64)) (v := .int .i64 x35) (a := x35) (idx := (i27 - 1)) (j := 0) Try.underlying3 rfl (fun _ => rfl) (i := 1) rfl (.gd (hg) rfl) (ix_get (gpos hg hx35)) rfl rfl) rfl ?_
            refine WD.g (.pl rfl rfl rfl) (fun hg => Y.move (.pl rfl)) rfl ?_
            refine WD.g (.pl rfl rfl rfl) (fun hg => Y.move (.pl rfl)) rfl ?_
            obtain ⟨x36, hx36, hF40⟩ := bnd hF40
            refine WD.g (.pl rfl rfl rfl) (fun hg => Y.rowEl Try.underlying34 cells3 (i := 1) rfl (.gd (hg) rfl) rfl (.gd (hg) rfl) (ix_lt (gpos hg hx36))) rfl ?_
            refine WD.g (.pl rfl rfl rfl) (fun hg => Y.loadR (enc := (eI .i64)) (v := .int .i64 x36) (a := x36) (idx := i27) (j := 0) Try.underlying3 rfl (fun _ => rfl) (i := 1) rfl (.gd (hg) rfl) (ix_get (gpos hg hx36)) rfl rfl) rfl ?_
            obtain ⟨r37, hr37, hF40⟩ := bnd hF40
            refine WD.gP (.pl rfl rfl rfl) isGo21 (fun hg => (.cons (.gd (hg) rfl) (.cons (.gd (hg) rfl) (.cons (.gd (hg) rfl) (.nil))))) rfl (fun hg w hw => alibref_Ahead_ok (gpos hg hr37) w ) ?_
            refine WD.g (.pl rfl rfl rfl) (fun hg => Y.not (.gd (hg) rfl)) rfl ?_
            refine WD.q (Y.or (.pl rfl) (fun h2 => .gd (eqf h2) rfl)) rfl ?_
            refine WD.next hR46 (.cons (i := 1) rfl (.cons (i := 5) rfl (.cons (i := 7) rfl (.cons (i := 10) rfl (.cons (i := 13) rfl (.cons (i := 139) rfl (.nil))))))) ?_
            refine W.cond (.pl rfl) (fun hC47 => ?_) (fun hC47 => ?_)
            · replace hF40 := cpos hC47 hF40
              -- region 22: order.go:117
              refine W.seqR fun Q48 hQ48 => ?_
              refine WL.q (Y.assign (.pl rfl)) rfl ?_
              refine WL.next hQ48 (.cons (i := 2) rfl (.nil)) ?_
              obtain rfl := Option.some.inj hF40
              obtain rfl := einr hN40
              obtain rfl := Option.some.inj hF
              refine W.retV (fn := Try.f7) (vs := [.bool false]) Try.results7 ⟨.tmp rfl, trivial⟩ (fun _ _ h => h) (fun w hw => ?_)
              exact hR _ _ ⟨rfl, (hw.pick [] rfl)⟩
            · replace hF40 := cneg hC47 hF40
              refine W.skip ?_
              refine W.go hK45 (.cons (i := 1) rfl (.cons (i := 5) rfl (.cons (i := 7) rfl (.cons (i := 10) rfl (.cons (i := 13) rfl (.nil)))))) ?_
              -- region 20: order.go:115
              refine W.reg ?_
              refine WL.q (Y.move (.pl rfl)) rfl ?_
              obtain ⟨hk38, hF40⟩ := ckh hF40
              refine WL.q (Y.add (.pl rfl) (.pl rfl) (ok64_lt (hk38))) rfl ?_
              refine WL.q (Y.assign (.pl rfl)) rfl ?_
              refine WL.nil ?_
              obtain rfl := Option.some.inj hF40
              exact W.again1 hK41 (i27 + 1) k40 hN40 (Nat.lt_succ_self _) (.cons rfl (.nil)) (.cons (i := 1) rfl (.cons (i := 5) rfl (.cons (i := 7) rfl (.cons (i := 10) rfl (.nil))))) (fun w hw => hw.pick [0, 1, 2] rfl)
          · replace hF40 := cneg hC44 hF40
            refine W.exit ?_
            obtain rfl := Option.some.inj hF40
            exact W.joinAt0 hK38  (einr hN40) (.nil) (.cons (i := 5) rfl (.cons (i := 10) rfl (.nil))) (fun w hw => hw.pick [1] rfl)
        · -- behind
          rintro  rfl
          -- region 23: order.go:120
          refine W.seqR fun Q50 hQ50 => ?_
          refine WL.q (Y.move (.pl rfl)) rfl ?_
          refine WL.q (Y.len Try.underlying34 (.pl rfl)) rfl ?_
          refine WL.q (Y.move (.pl rfl)) rfl ?_
          obtain ⟨hk39, hF⟩ := ckh hF
          refine WL.q (Y.add (.pl rfl) (.pl rfl) (ok64_lt (hk39))) rfl ?_
          refine WL.q (Y.eql (.pl rfl) (.pl rfl)) rfl ?_
          refine WL.q (Y.assign (.pl rfl)) rfl ?_
          refine WL.next hQ50 (.cons (i := 2) rfl (.nil)) ?_
          obtain rfl := Option.some.inj hF
          refine W.retV (fn := Try.f7) (vs := [.bool (decide (((r6.1).length : Int) = (most16 + 1)))]) Try.results7 ⟨.tmp rfl, trivial⟩ (fun _ _ h => h) (fun w hw => ?_)
          exact hR _ _ ⟨rfl, (hw.pick [] rfl)⟩

def slices_Index_int_int_L3 (N : Nat) (s1 : (List Int)) (v6 : Int) : Int → Option (Int ⊕ (Unit ⊕ Int))
  | v7 =>
    cond (decide (v7 < ((s1).length : Int)))
      (bd (ix s1 v7) fun (x8 : Int) =>
      cond (decide (v6 = x8))
        (some (.inr (.inr v7)))
        (ck (ok64 (v7 + 1)) <|
        some (.inl (v7 + 1))))
      (some (.inr (.inl ())))

def slices_Index_int_int (N : Nat) (s1 : (List Int)) (v6 : Int) : Option Int :=
  bd (α := (Unit ⊕ Int)) (iter (slices_Index_int_int_L3 N s1 v6) N 0) <|
  Sum.elim (fun _ => 
    some (-1)) (fun p => some p)

theorem slices_Index_int_int_ok {N : Nat} {s1 : (List Int)} {v6 : Int} {res : Int} (hF : slices_Index_int_int N s1 v6 = some res) (w : World) {v5 : Value} (hs4 : SlIn (eI .i64) 1 w v5 s1) :
    Pure Try.prog 25 [v5, .int .i64 v6] w (.int .i64 res) := by
  obtain ⟨A2, c3, rfl, hcc3, hs4⟩ := hs4.form
  refine W.enter (n := 19) Try.func25 rfl rfl Sub.refl (by simp) (St.start w) fun R hR => ?_
  unfold slices_Index_int_int at hF
  -- region 0: slices.go:96
  refine W.seqR fun Q1 hQ1 => ?_
  refine WL.q (Y.assign (.pl rfl)) rfl ?_
  refine WL.next hQ1 (.cons (i := 0) rfl (.cons (i := 1) rfl (.nil))) ?_
  obtain ⟨o2, hF2, hF⟩ := bnd hF
  refine W.join0 (Em := []) (M := []) (I := (.inl ()) = o2) (.nil) (fun K3 hK3 => ?_) ?_
  · -- up to
    -- region 1: slices.go:97
    refine W.seqR fun Q4 hQ4 => ?_
    refine WL.q (Y.move (.pl rfl)) rfl ?_
    refine WL.q (Y.len Try.underlying34 (.pl rfl)) rfl ?_
    refine WL.q (Y.move (.pl rfl)) rfl ?_
    refine WL.next hQ4 (.cons (i := 0) rfl (.cons (i := 1) rfl (.cons (i := 7) rfl (.cons (i := 8) rfl (.nil))))) ?_
    refine W.block ?_
    refine W.loop1 (Em := fun (v7 : Int) => [(8, .int .i64 v7)]) (M := fun v7 => []) (I := fun v7 k5 => iter (slices_Index_int_int_L3 N s1 v6) k5 v7 = some o2) 0 N (hF2) (.cons rfl (.nil)) (.cons (i := 0) rfl (.cons (i := 1) rfl (.cons (i := 7) rfl (.nil)))) (fun w hw => hw.pick [] rfl) (fun v7 k5 hI K6 hK6 => ?_)
    obtain ⟨k5, t5, rfl, hF5, hN5⟩ := iter_step hI
    -- region 2: slices.go:97
    refine W.seqR fun Q7 hQ7 => ?_
    refine WL.q (Y.lss (.pl rfl) (.pl rfl)) rfl ?_
    refine WL.next hQ7 (.cons (i := 0) rfl (.cons (i := 1) rfl (.cons (i := 7) rfl (.cons (i := 8) rfl (.cons (i := 9) rfl (.nil)))))) ?_
    refine W.seq fun K8 hK8 => ?_
    refine W.cond (.pl rfl) (fun hC9 => ?_) (fun hC9 => ?_)
    · replace hF5 := cpos hC9 hF5
      refine W.skip ?_
      refine W.go hK8 (.cons (i := 0) rfl (.cons (i := 1) rfl (.cons (i := 7) rfl (.cons (i := 8) rfl (.nil))))) ?_
      refine W.seq fun K10 hK10 => ?_
      refine W.block ?_
      -- region 3: slices.go:97
      refine W.seqR fun Q11 hQ11 => ?_
      refine WL.q (Y.move (.pl rfl)) rfl ?_
      refine WL.q (Y.assign (.pl rfl)) rfl ?_
      refine WL.next hQ11 (.cons (i := 0) rfl (.cons (i := 1) rfl (.cons (i := 5) rfl (.cons (i := 7) rfl (.cons (i := 8) rfl (.nil)))))) ?_
      -- region 4: slices.go:98
      refine W.seqR fun Q12 hQ12 => ?_
      refine WL.q (Y.move (.pl rfl)) rfl ?_
      refine WL.q (Y.move (.pl rfl)) rfl ?_
      refine WL.q (Y.move (.pl rfl)) rfl ?_
      obtain ⟨x8, hx8, hF5⟩ := bnd hF5
      refine WL.q (Y.slEl Try.underlying34 cells3 hs4 (.pl rfl) (.pl rfl) (ix_lt (hx8))) rfl ?_
      refine WL.q (Y.loadS (enc := (eI .i64)) (v := .int .i64 x8) (j := 0) Try.underlying3 rfl hs4 (.pl rfl) (hx8) rfl rfl) rfl ?_
      refine WL.q (Y.eql (.pl rfl) (.pl rfl)) rfl ?_
      refine WL.next hQ12 (.cons (i := 0) rfl (.cons (i := 1) rfl (.cons (i := 5) rfl (.cons (i := 7) rfl (.cons (i := 8) rfl (.cons (i := 16) rfl (.nil))))))) ?_
      refine W.cond (.pl rfl) (fun hC13 => ?_) (fun hC13 => ?_)
      · replace hF5 := cpos hC13 hF5
        -- region 5: slices.go:99
        refine W.seqR fun Q14 hQ14 => ?_
        refine WL.q (Y.move (.pl rfl)) rfl ?_
        refine WL.q (Y.assign (.pl rfl)) rfl ?_
        refine WL.next hQ14 (.cons (i := 4) rfl (.nil)) ?_
        obtain rfl := Option.some.inj hF5
        obtain rfl := einr hN5
        obtain rfl := Option.some.inj hF
        refine W.retV (fn := Try.f25) (vs := [.int .i64 v7]) Try.results25 ⟨.tmp rfl, trivial⟩ (fun _ _ h => h) (fun w hw => ?_)
        exact hR _ _ ⟨rfl, (hw.pick [] rfl)⟩
      · replace hF5 := cneg hC13 hF5
        refine W.skip ?_
        refine W.go hK10 (.cons (i := 0) rfl (.cons (i := 1) rfl (.cons (i := 7) rfl (.cons (i := 8) rfl (.nil))))) ?_
        -- region 6: slices.go:97
        refine W.reg ?_
        obtain ⟨hk9, hF5⟩ := ckh hF5
        refine WL.q (Y.add (.pl rfl) (.pl rfl) (ok64_lt (hk9))) rfl ?_
        refine WL.q (Y.move (.pl rfl)) rfl ?_
        refine WL.nil ?_
        obtain rfl := Option.some.inj hF5
        exact W.again1 hK6 (v7 + 1) k5 hN5 (Nat.lt_succ_self _) (.cons rfl (.nil)) (.cons (i := 0) rfl (.cons (i := 1) rfl (.cons (i := 7) rfl (.nil)))) (fun w hw => hw.pick [] rfl)
    · replace hF5 := cneg hC9 hF5
      refine W.exit ?_
      obtain rfl := Option.some.inj hF5
      exact W.joinAt0 hK3  (einr hN5) (.nil) (.nil) (fun w hw => hw.pick [] rfl)
  · -- behind
    rintro  rfl
    -- region 7: slices.go:102
    refine W.seqR fun Q16 hQ16 => ?_
    refine WL.q (Y.assign (.pl rfl)) rfl ?_
    refine WL.next hQ16 (.cons (i := 4) rfl (.nil)) ?_
    obtain rfl := Option.some.inj hF
    refine W.retV (fn := Try.f25) (vs := [.int .i64 (-1)]) Try.results25 ⟨.tmp rfl, trivial⟩ (fun _ _ h => h) (fun w hw => ?_)
    exact hR _ _ ⟨rfl, (hw.pick [] rfl)⟩

def alibkeep_OrderSzpilrajn (N : Nat) (r1 : Rel) (i2 : Int) (j3 : Int) : Option Bool :=
  bd (order_Close N r1) fun (r5 : (Int × (List Int) × Bool × Int)) =>
  bd (order_Least N r1) fun (r7 : ((List Int) × Int)) =>
  bd (order_Count N r1) fun (r10 : (Int × Int)) =>
  bd (alibkeep_orderLives N) fun (r11 : Bool) =>
  cond ((!r11) || (!(decide (r5.2.2.2 = 0))))
    (bd (alibkeep_orderLives N) fun (r12 : Bool) =>
    some ((r12 && (decide (r7.2 = r5.2.2.2))) && (decide (r10.2 = r5.2.2.2))))
    (cond (((decide (r7.2 = 0)) == r5.2.2.1) || ((decide (r10.2 = 0)) == r5.2.2.1))
      (some false)
      (cond r5.2.2.1
        (some true)
        (cond (((((((decide (r10.1 < 1)) || (!(decide (((r7.1).length : Int) = r1.n)))) || (decide (i2 < 0))) || (decide (j3 < 0))) || (decide (r1.n ≤ i2))) || (decide (r1.n ≤ j3))) || (decide (i2 = j3)))
          (some ((decide (1 ≤ r10.1)) && (decide (((r7.1).length : Int) = r1.n))))
          (bd (alibref_Ahead N (Rel.mk r5.1 r5.2.1) i2 j3) fun (r13 : Bool) =>
          cond r13
            (bd (slices_Index_int_int N r7.1 i2) fun (r14 : Int) =>
            bd (slices_Index_int_int N r7.1 j3) fun (r15 : Int) =>
            some (decide (r14 < r15)))
            (bd (ax 12 0 r1.after j3) fun (x16 : Int) =>
            ck (decide (0 ≤ i2)) <|
            bd (ax 12 0 r1.after j3) fun (x18 : Int) =>
            bd (order_Close N (Rel.mk r1.n (setA 12 0 r1.after j3 (borI .u16 x16 (shlI .u16 1 i2))))) fun (r19 : (Int × (List Int) × Bool × Int)) =>
            bd (order_Count N (Rel.mk r1.n (setA 12 0 r1.after j3 (borI .u16 x16 (shlI .u16 1 i2))))) fun (r20 : (Int × Int)) =>
            bd (alibkeep_ok N ([r19.2.2.2, r20.2] : List Int)) fun (r22 : Bool) =>
            some (((r22 && (!r19.2.2.1)) && (decide (1 ≤ r20.1))) && (decide (r20.1 ≤ r10.1))))))))

theorem alibkeep_OrderSzpilrajn_ok {N : Nat} {r1 : Rel} {i2 : Int} {j3 : Int} {res : Bool} (hF : alibkeep_OrderSzpilrajn N r1 i2 j3 = some res) (w : World) :
    Pure Try.prog 8 [.agg (encRel r1).toArray, .int .i64 i2, .int .i64 j3] w (.bool res) := by
  refine W.enter (n := 151) Try.func8 rfl rfl Sub.refl (by simp) (St.start w) fun R hR => ?_
  unfold alibkeep_OrderSzpilrajn at hF
  -- region 0: order.go:42
  refine W.seqR fun Q1 hQ1 => ?_
  refine WL.step (WO.boxA (.pl rfl) rfl fun b4 => ?_)
  refine WL.q (Y.assign (.pl rfl)) rfl ?_
  refine WL.next hQ1 (.cons (i := 1) rfl (.cons (i := 2) rfl (.cons (i := 3) rfl (.nil)))) ?_
  -- region 1: order.go:43
  refine W.seqR fun Q2 hQ2 => ?_
  refine WL.q (Y.loadBA (ds := (encRel r1)) Try.underlying25 rfl cells25 (.pl rfl) (i := 0) rfl rfl subW) rfl ?_
  obtain ⟨r5, hr5, hF⟩ := bnd hF
  refine WL.step (WO.callP isGo15 (.cons (.pl rfl) (.nil)) rfl (fun w hw => order_Close_ok (hr5) w ) ?_)
  refine WL.q (Y.move (.pl rfl)) rfl ?_
  refine WL.q (Y.extract (.pl rfl) rfl) rfl ?_
  refine WL.q (Y.extract (.pl rfl) rfl) rfl ?_
  refine WL.q (Y.extract (.pl rfl) rfl) rfl ?_
  refine WL.step (WO.alloc (cs := (encRel (Rel.mk 0 [])).toArray) zero25 rfl rfl fun b6 => ?_)
  refine WL.step (WO.storeBA (ds := (encRel (Rel.mk r5.1 r5.2.1))) (cs' := (encRel (Rel.mk r5.1 r5.2.1))) cells25 (.pl rfl) (.pl rfl) rfl (oneRel _) (i := 0) rfl (lel (o := 0) (l := 13) (m := 13) (by decide) rfl rfl) (putW rfl) ?_)
  refine WL.q (Y.assign (.pl rfl)) rfl ?_
  refine WL.q (Y.assign (.pl rfl)) rfl ?_
  refine WL.next hQ2 (.cons (i := 1) rfl (.cons (i := 2) rfl (.cons (i := 3) rfl (.cons (i := 7) rfl (.cons (i := 8) rfl (.cons (i := 9) rfl (.nil))))))) ?_
  -- region 2: order.go:44
  refine W.seqR fun Q3 hQ3 => ?_
  refine WL.q (Y.loadBA (ds := (encRel r1)) Try.underlying25 rfl cells25 (.pl rfl) (i := 1) rfl rfl subW) rfl ?_
  obtain ⟨r7, hr7, hF⟩ := bnd hF
  refine WL.step (WO.callM isGo24 (.cons (.pl rfl) (.nil)) rfl (fun w hw => order_Least_ok (hr7) w ) ?_)
  rintro ⟨A8, c9⟩ -
  refine WL.q (Y.move (.pl rfl)) rfl ?_
  refine WL.q (Y.extract (.pl rfl) rfl) rfl ?_
  refine WL.q (Y.extract (.pl rfl) rfl) rfl ?_
  refine WL.q (Y.assign (.pl rfl)) rfl ?_
  refine WL.q (Y.assign (.pl rfl)) rfl ?_
  refine WL.next hQ3 (.cons (i := 1) rfl (.cons (i := 2) rfl (.cons (i := 3) rfl (.cons (i := 7) rfl (.cons (i := 8) rfl (.cons (i := 9) rfl (.cons (i := 10) rfl (.cons (i := 11) rfl (.nil))))))))) ?_
  -- region 3: order.go:45
  refine W.seqR fun Q4 hQ4 => ?_
  refine WL.q (Y.loadBA (ds := (encRel r1)) Try.underlying25 rfl cells25 (.pl rfl) (i := 2) rfl rfl subW) rfl ?_
  obtain ⟨r10, hr10, hF⟩ := bnd hF
  refine WL.step (WO.callP isGo17 (.cons (.pl rfl) (.nil)) rfl (fun w hw => order_Count_ok (hr10) w ) ?_)
  refine WL.q (Y.move (.pl rfl)) rfl ?_
  refine WL.q (Y.extract (.pl rfl) rfl) rfl ?_
  refine WL.q (Y.extract (.pl rfl) rfl) rfl ?_
  refine WL.q (Y.assign (.pl rfl)) rfl ?_
  refine WL.q (Y.assign (.pl rfl)) rfl ?_
  refine WL.next hQ4 (.cons (i := 1) rfl (.cons (i := 2) rfl (.cons (i := 3) rfl (.cons (i := 7) rfl (.cons (i := 8) rfl (.cons (i := 9) rfl (.cons (i := 10) rfl (.cons (i := 11) rfl (.cons (i := 12) rfl (.cons (i := 13) rfl (.nil))))))))))) ?_
  refine W.seq fun K5 hK5 => ?_
  -- region 4: order.go:46
  refine W.seqR fun Q6 hQ6 => ?_
  obtain ⟨r11, hr11, hF⟩ := bnd hF
  refine WL.step (WO.callP isGo16 (.nil) rfl (fun w hw => alibkeep_orderLives_ok (hr11) w ) ?_)
  refine WL.q (Y.not (.pl rfl)) rfl ?_
  refine WL.q (Y.move (.pl rfl)) rfl ?_
  refine WL.g (.pl rfl rfl rfl) (fun hg => Y.move (.pl rfl)) rfl ?_
  refine WL.g (.pl rfl rfl rfl) (fun hg => Y.neq (.gd (hg) rfl) (.pl rfl)) rfl ?_
  refine WL.q (Y.or (.pl rfl) (fun h2 => .gd (eqf h2) rfl)) rfl ?_
  refine WL.next hQ6 (.cons (i := 1) rfl (.cons (i := 2) rfl (.cons (i := 3) rfl (.cons (i := 7) rfl (.cons (i := 8) rfl (.cons (i := 9) rfl (.cons (i := 10) rfl (.cons (i := 11) rfl (.cons (i := 12) rfl (.cons (i := 13) rfl (.cons (i := 37) rfl (.nil)))))))))))) ?_
  refine W.cond (.pl rfl) (fun hC7 => ?_) (fun hC7 => ?_)
  · replace hF := cpos hC7 hF
    -- region 5: order.go:47
    refine W.seqR fun Q8 hQ8 => ?_
    obtain ⟨r12, hr12, hF⟩ := bnd hF
    refine WL.step (WO.callP isGo16 (.nil) rfl (fun w hw => alibkeep_orderLives_ok (hr12) w ) ?_)
    refine WL.q (Y.move (.pl rfl)) rfl ?_
    refine WL.g (.pl rfl rfl rfl) (fun hg => Y.move (.pl rfl)) rfl ?_
    refine WL.g (.pl rfl rfl rfl) (fun hg => Y.move (.pl rfl)) rfl ?_
    refine WL.g (.pl rfl rfl rfl) (fun hg => Y.eql (.gd (hg) rfl) (.gd (hg) rfl)) rfl ?_
    refine WL.q (Y.and (.pl rfl) (fun h2 => .gd (eqt h2) rfl)) rfl ?_
    refine WL.q (Y.move (.pl rfl)) rfl ?_
    refine WL.g (.pl rfl rfl rfl) (fun hg => Y.move (.pl rfl)) rfl ?_
    refine WL.g (.pl rfl rfl rfl) (fun hg => Y.move (.pl rfl)) rfl ?_
    refine WL.g (.pl rfl rfl rfl) (fun hg => Y.eql (.gd (hg) rfl) (.gd (hg) rfl)) rfl ?_
    refine WL.q (Y.and (.pl rfl) (fun h2 => .gd (eqt h2) rfl)) rfl ?_
    refine WL.q (Y.assign (.pl rfl)) rfl ?_
    refine WL.next hQ8 (.cons (i := 6) rfl (.nil)) ?_
    obtain rfl := Option.some.inj hF
    refine W.retV (fn := Try.f8) (vs := [.bool ((r12 && (decide (r7.2 = r5.2.2.2))) && (decide (r10.2 = r5.2.2.2)))]) Try.results8 ⟨.tmp rfl, trivial⟩ (fun _ _ h => h) (fun w hw => ?_)
    exact hR _ _ ⟨rfl, (hw.pick [] rfl)⟩
  · replace hF := cneg hC7 hF
    refine W.skip ?_
    refine W.go hK5 (.cons (i := 1) rfl (.cons (i := 2) rfl (.cons (i := 3) rfl (.cons (i := 7) rfl (.cons (i := 8) rfl (.cons (i := 10) rfl (.cons (i := 11) rfl (.cons (i := 12) rfl (.cons (i := 13) rfl (.nil)))))))))) ?_
    refine W.seq fun K9 hK9 => ?_
    -- region 6: order.go:49
    refine W.seqR fun Q10 hQ10 => ?_
    refine WL.q (Y.move (.pl rfl)) rfl ?_
    refine WL.q (Y.eql (.pl rfl) (.pl rfl)) rfl ?_
    refine WL.q (Y.move (.pl rfl)) rfl ?_
    refine WL.q (Y.eqlB Try.underlying4 (.pl rfl) (.pl rfl)) rfl ?_
    refine WL.q (Y.move (.pl rfl)) rfl ?_
    refine WL.g (.pl rfl rfl rfl) (fun hg => Y.move (.pl rfl)) rfl ?_
    refine WL.g (.pl rfl rfl rfl) (fun hg => Y.eql (.gd (hg) rfl) (.pl rfl)) rfl ?_
    refine WL.g (.pl rfl rfl rfl) (fun hg => Y.move (.pl rfl)) rfl ?_
    refine WL.g (.pl rfl rfl rfl) (fun hg => Y.eqlB Try.underlying4 (.gd (hg) rfl) (.gd (hg) rfl)) rfl ?_
    refine WL.q (Y.or (.pl rfl) (fun h2 => .gd (eqf h2) rfl)) rfl ?_
    refine WL.next hQ10 (.cons (i := 1) rfl (.cons (i := 2) rfl (.cons (i := 3) rfl (.cons (i := 7) rfl (.cons (i := 8) rfl (.cons (i := 10) rfl (.cons (i := 12) rfl (.cons (i := 58) rfl (.nil))))))))) ?_
    refine W.cond (.pl rfl) (fun hC11 => ?_) (fun hC11 => ?_)
    · replace hF := cpos hC11 hF
      -- region 7: order.go:50
      refine W.seqR fun Q12 hQ12 => ?_
      refine WL.q (Y.assign (.pl rfl)) rfl ?_
      refine WL.next hQ12 (.cons (i := 6) rfl (.nil)) ?_
      obtain rfl := Option.some.inj hF
      refine W.retV (fn := Try.f8) (vs := [.bool false]) Try.results8 ⟨.tmp rfl, trivial⟩ (fun _ _ h => h) (fun w hw => ?_)
      exact hR _ _ ⟨rfl, (hw.pick [] rfl)⟩
    · replace hF := cneg hC11 hF
      refine W.skip ?_
      refine W.go hK9 (.cons (i := 1) rfl (.cons (i := 2) rfl (.cons (i := 3) rfl (.cons (i := 7) rfl (.cons (i := 8) rfl (.cons (i := 10) rfl (.cons (i := 12) rfl (.nil)))))))) ?_
      refine W.seq fun K13 hK13 => ?_
      -- region 8: order.go:52
      refine W.seqR fun Q14 hQ14 => ?_
      refine WL.q (Y.move (.pl rfl)) rfl ?_
      refine WL.next hQ14 (.cons (i := 1) rfl (.cons (i := 2) rfl (.cons (i := 3) rfl (.cons (i := 7) rfl (.cons (i := 10) rfl (.cons (i := 12) rfl (.cons (i := 59) rfl (.nil)))))))) ?_
      refine W.cond (.pl rfl) (fun hC15 => ?_) (fun hC15 => ?_)
      · replace hF := cpos hC15 hF
        -- region 9: order.go:53
        refine W.seqR fun Q16 hQ16 => ?_
        refine WL.q (Y.assign (.pl rfl)) rfl ?_
        refine WL.next hQ16 (.cons (i := 6) rfl (.nil)) ?_
        obtain rfl := Option.some.inj hF
        refine W.retV (fn := Try.f8) (vs := [.bool true]) Try.results8 ⟨.tmp rfl, trivial⟩ (fun _ _ h => h) (fun w hw => ?_)
        exact hR _ _ ⟨rfl, (hw.pick [] rfl)⟩
      · replace hF := cneg hC15 hF
        refine W.skip ?_
        refine W.go hK13 (.cons (i := 1) rfl (.cons (i := 2) rfl (.cons (i := 3) rfl (.cons (i := 7) rfl (.cons (i := 10) rfl (.cons (i := 12) rfl (.nil))))))) ?_
        refine W.seq fun K17 hK17 => ?_
        -- region 10: order.go:55
        refine W.seqR fun Q18 hQ18 => ?_
        refine WL.q (Y.move (.pl rfl)) rfl ?_
        refine WL.q (Y.lss (.pl rfl) (.pl rfl)) rfl ?_
        refine WL.q (Y.move (.pl rfl)) rfl ?_
        refine WL.g (.pl rfl rfl rfl) (fun hg => Y.move (.pl rfl)) rfl ?_
        refine WL.g (.pl rfl rfl rfl) (fun hg => Y.len Try.underlying34 (.gd (hg) rfl)) rfl ?_
        refine WL.g (.pl rfl rfl rfl) (fun hg => Y.fieldAddr0 (off := 0) (ft := 3) Try.underlying25 rfl cells3 (.pl rfl)) rfl ?_
        refine WL.g (.pl rfl rfl rfl) (fun hg => Y.loadB (v := .int .i64 r1.n) Try.underlying3 rfl (.gd (hg) rfl) (i := 2) rfl (rfl)) rfl ?_
        refine WL.g (.pl rfl rfl rfl) (fun hg => Y.neq (.gd (hg) rfl) (.gd (hg) rfl)) rfl ?_
        refine WL.q (Y.or (.pl rfl) (fun h2 => .gd (eqf h2) rfl)) rfl ?_
        refine WL.q (Y.move (.pl rfl)) rfl ?_
        refine WL.g (.pl rfl rfl rfl) (fun hg => Y.move (.pl rfl)) rfl ?_
        refine WL.g (.pl rfl rfl rfl) (fun hg => Y.lss (.gd (hg) rfl) (.pl rfl)) rfl ?_
        refine WL.q (Y.or (.pl rfl) (fun h2 => .gd (eqf h2) rfl)) rfl ?_
        refine WL.q (Y.move (.pl rfl)) rfl ?_
        refine WL.g (.pl rfl rfl rfl) (fun hg => Y.move (.pl rfl)) rfl ?_
        refine WL.g (.pl rfl rfl rfl) (fun hg => Y.lss (.gd (hg) rfl) (.pl rfl)) rfl ?_
        refine WL.q (Y.or (.pl rfl) (fun h2 => .gd (eqf h2) rfl)) rfl ?_
        refine WL.q (Y.move (.pl rfl)) rfl ?_
        refine WL.g (.pl rfl rfl rfl) (fun hg => Y.move (.pl rfl)) rfl ?_
        refine WL.g (.pl rfl rfl rfl) (fun hg => Y.fieldAddr0 (off := 0) (ft := 3) Try.underlying25 rfl cells3 (.pl rfl)) rfl ?_
        refine WL.g (.pl rfl rfl rfl) (fun hg => Y.loadB (v := .int .i64 r1.n) Try.underlying3 rfl (.gd (hg) rfl) (i := 2) rfl (rfl)) rfl ?_
        refine WL.g (.pl rfl rfl rfl) (fun hg => Y.geq (.gd (hg) rfl) (.gd (hg) rfl)) rfl ?_
        refine WL.q (Y.or (.pl rfl) (fun h2 => .gd (eqf h2) rfl)) rfl ?_
        refine WL.q (Y.move (.pl rfl)) rfl ?_
        refine WL.g (.pl rfl rfl rfl) (fun hg => Y.move (.pl rfl)) rfl ?_
        refine WL.g (.pl rfl rfl rfl) (fun hg => Y.fieldAddr0 (off := 0) (ft := 3) Try.underlying25 rfl cells3 (.pl rfl)) rfl ?_
        refine WL.g (.pl rfl rfl rfl) (fun hg => Y.loadB (v := .int .i64 r1.n) Try.underlying3 rfl (.gd (hg) rfl) (i := 2) rfl (rfl)) rfl ?_
        refine WL.g (.pl rfl rfl rfl) (fun hg => Y.geq (.gd (hg) rfl) (.gd (hg) rfl)) rfl ?_
        refine WL.q (Y.or (.pl rfl) (fun h2 => .gd (eqf h2) rfl)) rfl ?_
        refine WL.q (Y.move (.pl rfl)) rfl ?_
        refine WL.g (.pl rfl rfl rfl) (fun hg => Y.move (.pl rfl)) rfl ?_
        refine WL.g (.pl rfl rfl rfl) (fun hg => Y.move (.pl rfl)) rfl ?_
        refine WL.g (.pl rfl rfl rfl) (fun hg => Y.eql (.gd (hg) rfl) (.gd (hg) rfl)) rfl ?_
        refine WL.q (Y.or (.pl rfl) (fun h2 => .gd (eqf h2) rfl)) rfl ?_
        refine WL.next hQ18 (.cons (i := 1) rfl (.cons (i := 2) rfl (.cons (i := 3) rfl (.cons (i := 7) rfl (.cons (i := 10) rfl (.cons (i := 12) rfl (.cons (i := 93) rfl (.nil)))))))) ?_
        refine W.cond (.pl rfl) (fun hC19 => ?_) (fun hC19 => ?_)
        · replace hF := cpos hC19 hF
          -- region 11: order.go:56
          refine W.seqR fun Q20 hQ20 => ?_
          refine WL.q (Y.move (.pl rfl)) rfl ?_
          refine WL.q (Y.geq (.pl rfl) (.pl rfl)) rfl ?_
          refine WL.q (Y.move (.pl rfl)) rfl ?_
          refine WL.g (.pl rfl rfl rfl) (fun hg => Y.move (.pl rfl)) rfl ?_
          refine WL.g (.pl rfl rfl rfl) (fun hg => Y.len Try.underlying34 (.gd (hg) rfl)) rfl ?_
          refine WL.g (.pl rfl rfl rfl) (fun hg => Y.fieldAddr0 (off := 0) (ft := 3) Try.underlying25 rfl cells3 (.pl rfl)) rfl ?_
          refine WL.g (.pl rfl rfl rfl) (fun hg => Y.loadB (v := .int .i64 r1.n) Try.underlying3 rfl (.gd (hg) rfl) (i := 2) rfl (rfl)) rfl ?_
          refine WL.g (.pl rfl rfl rfl) (fun hg => Y.eql (.gd (hg) rfl) (.gd (hg) rfl)) rfl ?_
          refine WL.q (Y.and (.pl rfl) (fun h2 => .gd (eqt h2) rfl)) rfl ?_
          refine WL.q (Y.assign (.pl rfl)) rfl ?_
          refine WL.next hQ20 (.cons (i := 6) rfl (.nil)) ?_
          obtain rfl := Option.some.inj hF
          refine W.retV (fn := Try.f8) (vs := [.bool ((decide (1 ≤ r10.1)) && (decide (((r7.1).length : Int) = r1.n)))]) Try.results8 ⟨.tmp rfl, trivial⟩ (fun _ _ h => h) (fun w hw => ?_)
          exact hR _ _ ⟨rfl, (hw.pick [] rfl)⟩
        · replace hF := cneg hC19 hF
          refine W.skip ?_
          refine W.go hK17 (.cons (i := 1) rfl (.cons (i := 2) rfl (.cons (i := 3) rfl (.cons (i := 7) rfl (.cons (i := 10) rfl (.cons (i := 12) rfl (.nil))))))) ?_
          refine W.seq fun K21 hK21 => ?_
          -- region 12: order.go:58
          refine W.seqR fun Q22 hQ22 => ?_
          refine WL.q (Y.loadBA (ds := (encRel (Rel.mk r5.1 r5.2.1))) Try.underlying25 rfl cells25 (.pl rfl) (i := 1) rfl rfl subW) rfl ?_
          refine WL.q (Y.move (.pl rfl)) rfl ?_
          refine WL.q (Y.move (.pl rfl)) rfl ?_
          obtain ⟨r13, hr13, hF⟩ := bnd hF
          refine WL.step (WO.callP isGo21 (.cons (.pl rfl) (.cons (.pl rfl) (.cons (.pl rfl) (.nil)))) rfl (fun w hw => alibref_Ahead_ok (hr13) w ) ?_)
          refine WL.next hQ22 (.cons (i := 1) rfl (.cons (i := 2) rfl (.cons (i := 3) rfl (.cons (i := 10) rfl (.cons (i := 12) rfl (.cons (i := 106) rfl (.nil))))))) ?_
          refine W.cond (.pl rfl) (fun hC23 => ?_) (fun hC23 => ?_)
          · replace hF := cpos hC23 hF
            -- region 13: order.go:59
            refine W.seqR fun Q24 hQ24 => ?_
            refine WL.q (Y.move (.pl rfl)) rfl ?_
            refine WL.q (Y.move (.pl rfl)) rfl ?_
            obtain ⟨r14, hr14, hF⟩ := bnd hF
            refine WL.step (WO.callP isGo25 (.cons (.pl rfl) (.cons (.pl rfl) (.nil))) rfl (fun w hw => slices_Index_int_int_ok (hr14) w (SlIn.ofRow (fun _ => rfl) hw (i := 0) rfl)) ?_)
            refine WL.q (Y.move (.pl rfl)) rfl ?_
            refine WL.q (Y.move (.pl rfl)) rfl ?_
            obtain ⟨r15, hr15, hF⟩ := bnd hF
            refine WL.step (WO.callP isGo25 (.cons (.pl rfl) (.cons (.pl rfl) (.nil))) rfl (fun w hw => slices_Index_int_int_ok (hr15) w (SlIn.ofRow (fun _ => rfl) hw (i := 0) rfl)) ?_)
            refine WL.q (Y.lss (.pl rfl) (.pl rfl)) rfl ?_
            refine WL.q (Y.assign (.pl rfl)) rfl ?_
            refine WL.next hQ24 (.cons (i := 6) rfl (.nil)) ?_
            obtain rfl := Option.some.inj hF
            refine W.retV (fn := Try.f8) (vs := [.bool (decide (r14 < r15))]) Try.results8 ⟨.tmp rfl, trivial⟩ (fun _ _ h => h) (fun w hw => ?_)
            exact hR _ _ ⟨rfl, (hw.pick [] rfl)⟩
          · replace hF := cneg hC23 hF
            refine W.skip ?_
            refine W.go hK21 (.cons (i := 1) rfl (.cons (i := 2) rfl (.cons (i := 3) rfl (.cons (i := 12) rfl (.nil))))) ?_
            -- region 14: order.go:61
            refine W.seqT 9 (by kernel_rfl) (by kernel_rfl) fun Q25 hQ25 => ?_
            refine WS.q (Y.move (.pl rfl)) rfl ?_
            refine WS.q (Y.fieldAddr0 (off := 1) (ft := 23) Try.underlying25 rfl cells23 (.pl rfl)) rfl ?_
            obtain ⟨x16, hx16, hF⟩ := bnd hF
            refine WS.q (Y.arrZ Try.underlying23 cells22 (.pl rfl) (.pl rfl) (ax_lt (hx16))) rfl ?_
            refine WS.q (Y.loadB (v := .int .u16 x16) Try.underlying22 rfl (.pl rfl) (i := 2) rfl (cellsA (pre := (Value.int .i64 r1.n :: [])) (off := 1) (post := []) (a := r1.after) (enc := (eI .u16)) (d := 0) (n := 12) (sz := 1) (j := 0) (fun _ => rfl) rfl (ax_nat (hx16)) (ax_get (hx16)) rfl)) rfl ?_
            refine WS.q (Y.move (.pl rfl)) rfl ?_
            obtain ⟨hk17, hF⟩ := ckh hF
            refine WS.q (Y.shl (.pl rfl) (.pl rfl) (of_decide_eq_true (hk17))) rfl ?_
            refine WS.q (Y.bor (.pl rfl) (.pl rfl)) rfl ?_
            refine WS.q (Y.fieldAddr0 (off := 1) (ft := 23) Try.underlying25 rfl cells23 (.pl rfl)) rfl ?_
            obtain ⟨x18, hx18, hF⟩ := bnd hF
            refine WS.q (Y.arrZ Try.underlying23 cells22 (.pl rfl) (.pl rfl) (ax_lt (hx18))) rfl ?_
            refine WS.tail ?_
            refine WL.step (WO.storeB (cs' := (encRel (Rel.mk r1.n (setA 12 0 r1.after j3 (borI .u16 x16 (shlI .u16 1 i2)))))) cells22 (.pl rfl) (.pl rfl) rfl (i := 2) rfl (ltl (m := 13) (offlt (off := 1) (sz := 1) (j := 0) (ax_nat (hx18)) (by decide)) rfl) (cellsSet (pre := (Value.int .i64 r1.n :: [])) (off := 1) (post := []) (a := r1.after) (enc := (eI .u16)) (d := 0) (n := 12) (sz := 1) (j := 0) (x := x18) (x' := (borI .u16 x16 (shlI .u16 1 i2))) (fun _ => rfl) rfl (ax_lt (hx18)) (ax_get (hx18)) (by decide) rfl rfl) ?_)
            refine WL.next hQ25 (.cons (i := 3) rfl (.cons (i := 12) rfl (.nil))) ?_
            -- region 15: order.go:62
            refine W.seqR fun Q26 hQ26 => ?_
            refine WL.q (Y.loadBA (ds := (encRel (Rel.mk r1.n (setA 12 0 r1.after j3 (borI .u16 x16 (shlI .u16 1 i2)))))) Try.underlying25 rfl cells25 (.pl rfl) (i := 2) rfl rfl subW) rfl ?_
            obtain ⟨r19, hr19, hF⟩ := bnd hF
            refine WL.step (WO.callP isGo15 (.cons (.pl rfl) (.nil)) rfl (fun w hw => order_Close_ok (hr19) w ) ?_)
            refine WL.q (Y.move (.pl rfl)) rfl ?_
            refine WL.q (Y.extract (.pl rfl) rfl) rfl ?_
            refine WL.q (Y.extract (.pl rfl) rfl) rfl ?_
            refine WL.q (Y.extract (.pl rfl) rfl) rfl ?_
            refine WL.q (Y.assign (.pl rfl)) rfl ?_
            refine WL.q (Y.assign (.pl rfl)) rfl ?_
            refine WL.next hQ26 (.cons (i := 3) rfl (.cons (i := 8) rfl (.cons (i := 9) rfl (.cons (i := 12) rfl (.nil))))) ?_
            -- region 16: order.go:63
            refine W.seqR fun Q27 hQ27 => ?_
            refine WL.q (Y.loadBA (ds := (encRel (Rel.mk r1.n (setA 12 0 r1.after j3 (borI .u16 x16 (shlI .u16 1 i2)))))) Try.underlying25 rfl cells25 (.pl rfl) (i := 2) rfl rfl subW) rfl ?_
            obtain ⟨r20, hr20, hF⟩ := bnd hF
            refine WL.step (WO.callP isGo17 (.cons (.pl rfl) (.nil)) rfl (fun w hw => order_Count_ok (hr20) w ) ?_)
            refine WL.q (Y.move (.pl rfl)) rfl ?_
            refine WL.q (Y.extract (.pl rfl) rfl) rfl ?_
            refine WL.q (Y.extract (.pl rfl) rfl) rfl ?_
            refine WL.q (Y.assign (.pl rfl)) rfl ?_
            refine WL.q (Y.assign (.pl rfl)) rfl ?_
            refine WL.next hQ27 (.cons (i := 8) rfl (.cons (i := 9) rfl (.cons (i := 12) rfl (.cons (i := 14) rfl (.cons (i := 15) rfl (.nil)))))) ?_
            -- region 17: order.go:64
            refine W.seqR fun Q28 hQ28 => ?_
            refine WL.q (Y.move (.pl rfl)) rfl ?_
            refine WL.q (Y.move (.pl rfl)) rfl ?_
            refine WL.step (WO.bsliceC (enc := (eI .i64)) (ys := ([r19.2.2.2, r20.2] : List Int)) Try.underlying75 bz26 (.cons (.pl rfl) (.cons (.pl rfl) (.nil))) rfl (fun _ => rfl) rfl rfl (by decide) (by decide) rfl fun b21 => ?_)
            obtain ⟨r22, hr22, hF⟩ := bnd hF
            refine WL.step (WO.callP isGo20 (.cons (.pl rfl) (.nil)) rfl (fun w hw => alibkeep_ok_ok (hr22) w (SlIn.ofRow (fun _ => rfl) hw (i := 0) rfl)) ?_)
            refine WL.q (Y.move (.pl rfl)) rfl ?_
            refine WL.g (.pl rfl rfl rfl) (fun hg => Y.move (.pl rfl)) rfl ?_
            refine WL.g (.pl rfl rfl rfl) (fun hg => Y.not (.gd (hg) rfl)) rfl ?_
            refine WL.q (Y.and (.pl rfl) (fun h2 => .gd (eqt h2) rfl)) rfl ?_
            refine WL.q (Y.move (.pl rfl)) rfl ?_
            refine WL.g (.pl rfl rfl rfl) (fun hg => Y.move (.pl rfl)) rfl ?_
            refine WL.g (.pl rfl rfl rfl) (fun hg => Y.geq (.gd (hg) rfl) (.pl rfl)) rfl ?_
            refine WL.q (Y.and (.pl rfl) (fun h2 => .gd (eqt h2) rfl)) rfl ?_
            refine WL.q (Y.move (.pl rfl)) rfl ?_
            refine WL.g (.pl rfl rfl rfl) (fun hg => Y.move (.pl rfl)) rfl ?_
            refine WL.g (.pl rfl rfl rfl) (fun hg => Y.move (.pl rfl)) rfl ?_
            refine WL.g (.pl rfl rfl rfl) (fun hg => Y.leq (.gd (hg) rfl) (.gd (hg) rfl)) rfl ?_
            refine WL.q (Y.and (.pl rfl) (fun h2 => .gd (eqt h2) rfl)) rfl ?_
            refine WL.q (Y.assign (.pl rfl)) rfl ?_
            refine WL.next hQ28 (.cons (i := 6) rfl (.nil)) ?_
            obtain rfl := Option.some.inj hF
            refine W.retV (fn := Try.f8) (vs := [.bool (((r22 && (!r19.2.2.1)) && (decide (1 ≤ r20.1))) && (decide (r20.1 ≤ r10.1)))]) Try.results8 ⟨.tmp rfl, trivial⟩ (fun _ _ h => h) (fun w hw => ?_)
            exact hR _ _ ⟨rfl, (hw.pick [] rfl)⟩

end Go.Proofs.Ytemckhkicfpgeaa
