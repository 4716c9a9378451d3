/- The laws of seq: what their code computes, and the walks. -/
import Derived.Test.YtpakplmpihhmbaaA2
set_option linter.unusedVariables false
set_option linter.unusedSimpArgs false
set_option linter.unusedSectionVars false
set_option maxRecDepth 100000
namespace Go.Proofs.Ytpakplmpihhmbaa
open Go.RowKit
theorem isGo31 : IsGo Try.prog 31 := ⟨_, Try.func31, by kernel_rfl, rfl⟩
theorem isGo46 : IsGo Try.prog 46 := ⟨_, Try.func46, by kernel_rfl, rfl⟩
theorem isGo47 : IsGo Try.prog 47 := ⟨_, Try.func47, by kernel_rfl, rfl⟩
theorem isGo48 : IsGo Try.prog 48 := ⟨_, Try.func48, by kernel_rfl, rfl⟩
theorem isGo49 : IsGo Try.prog 49 := ⟨_, Try.func49, by kernel_rfl, rfl⟩
theorem isGo50 : IsGo Try.prog 50 := ⟨_, Try.func50, by kernel_rfl, rfl⟩
theorem isGo75 : IsGo Try.prog 75 := ⟨_, Try.func75, by kernel_rfl, rfl⟩
theorem isGo76 : IsGo Try.prog 76 := ⟨_, Try.func76, by kernel_rfl, rfl⟩
theorem isGo77 : IsGo Try.prog 77 := ⟨_, Try.func77, by kernel_rfl, rfl⟩
theorem ap49 : ∃ i z, Try.prog.info? 49 = some i ∧ i.zero = some z ∧ i.size = 4 ∧ i.bytes = 32 ∧ z.cells.size = 4 ∧ 0 < 4 := ⟨_, (Value.agg #[(Value.int .i64 0), (Value.int .i64 0), (Value.int .i64 0), (Value.int .i64 0)]), rfl, by kernel_rfl, by kernel_rfl, by kernel_rfl, by kernel_rfl, by decide⟩
def seq_programs_L27 (N : Nat) (calls1 : (List Call)) (x12 : Call) (v10 : Int) : ((List Int) × Int) → Option (((List Int) × Int) ⊕ (List Int))
  | (After14, v15) =>
    cond (decide (v15 < ((calls1).length : Int)))
      (bd (ix calls1 v15) fun (x16 : Call) =>
      cond ((decide (x12.who = x16.who)) && (decide (v10 < v15)))
        (bd (ax 12 0 After14 v10) fun (x18 : Int) =>
        bd (ax 12 0 After14 v10) fun (x19 : Int) =>
        ck (ok64 (v15 + 1)) <|
        some (.inl ((setA 12 0 After14 v10 (borI .u16 x18 (shlI .u16 1 (IntKind.u64.wrap v15)))), (v15 + 1))))
        (ck (ok64 (v15 + 1)) <|
        some (.inl (After14, (v15 + 1)))))
      (some (.inr After14))

def seq_programs_L25 (N : Nat) (calls1 : (List Call)) : ((List Int) × Int) → Option (((List Int) × Int) ⊕ (List Int))
  | (After9, v10) =>
    cond (decide (v10 < ((calls1).length : Int)))
      (bd (α := (List Int)) (bd (ix calls1 v10) fun (x12 : Call) =>
        iter (seq_programs_L27 N calls1 x12 v10) N (After9, 0)) <|
      fun (After11 : (List Int)) => 
        ck (ok64 (v10 + 1)) <|
        some (.inl (After11, (v10 + 1))))
      (some (.inr After9))

def seq_programs (N : Nat) (calls1 : (List Call)) : Option (List Int) :=
  bd (α := (List Int)) (iter (seq_programs_L25 N calls1) N ([], 0)) <|
  fun (After8 : (List Int)) => 
    some After8

theorem seq_programs_ok {N : Nat} {calls1 : (List Call)} {res : (List Int)} (hF : seq_programs N calls1 = some res) (w : World) {v5 : Value} (hs4 : SlIn encCall 7 w v5 calls1) :
    Pure Try.prog 75 [v5] w (.agg (encRel (Rel.mk ((calls1).length : Int) res)).toArray) := by
  obtain ⟨A2, c3, rfl, hcc3, hs4⟩ := hs4.form
  refine W.enter (n := 48) Try.func75 rfl rfl Sub.refl (by simp) (St.start w) fun R hR => ?_
  unfold seq_programs at hF
  -- region 0: seq.go:10
  refine W.seqR fun Q1 hQ1 => ?_
  refine WL.step (WO.alloc (cs := (encRel (Rel.mk 0 [])).toArray) zero99 rfl rfl fun b6 => ?_)
  refine WL.next hQ1 (.cons (i := 0) rfl (.cons (i := 2) rfl (.nil))) ?_
  -- region 1: seq.go:11
  refine W.seqR fun Q2 hQ2 => ?_
  refine WL.q (Y.move (.pl rfl)) rfl ?_
  refine WL.q (Y.len Try.underlying51 (.pl rfl)) rfl ?_
  refine WL.q (Y.build (cs := (encRel (Rel.mk ((calls1).length : Int) [])).toArray) shape99 (.cons (.pl rfl) (.nil)) (one_parts ⟨rfl, trivial⟩) rfl) rfl ?_
  refine WL.step (WO.alloc (cs := (encRel (Rel.mk 0 [])).toArray) zero99 rfl rfl fun b7 => ?_)
  refine WL.step (WO.storeBA (ds := (encRel (Rel.mk ((calls1).length : Int) []))) (cs' := (encRel (Rel.mk ((calls1).length : Int) []))) cells99 (.pl rfl) (.pl rfl) rfl (oneRel _) (i := 0) rfl (lel (o := 0) (l := 13) (m := 13) (by decide) rfl rfl) (putW rfl) ?_)
  refine WL.next hQ2 (.cons (i := 0) rfl (.cons (i := 2) rfl (.cons (i := 3) rfl (.nil)))) ?_
  obtain ⟨o3, hF3, hF⟩ := bnd hF
  refine W.join1 (Em := fun (After8 : (List Int)) => []) (M := fun After8 => [cBx b6 99 (encRel (Rel.mk 0 [])), cBx b7 99 (encRel (Rel.mk ((calls1).length : Int) After8))]) (I := fun After8 => After8 = o3) (.cons (i := 2) rfl (.cons (i := 3) rfl (.nil))) (fun K4 hK4 => ?_) ?_
  · -- up to
    -- region 2: seq.go:12
    refine W.seqR fun Q5 hQ5 => ?_
    refine WL.q (Y.move (.pl rfl)) rfl ?_
    refine WL.q (Y.len Try.underlying51 (.pl rfl)) rfl ?_
    refine WL.q (Y.move (.pl rfl)) rfl ?_
    refine WL.next hQ5 (.cons (i := 0) rfl (.cons (i := 2) rfl (.cons (i := 3) rfl (.cons (i := 11) rfl (.cons (i := 12) rfl (.cons (i := 13) rfl (.nil))))))) ?_
    refine W.block ?_
    refine W.loop2 (Em := fun (After9 : (List Int)) (v10 : Int) => [(13, .int .i64 v10)]) (M := fun After9 v10 => [cBx b6 99 (encRel (Rel.mk 0 [])), cBx b7 99 (encRel (Rel.mk ((calls1).length : Int) After9))]) (I := fun After9 v10 k6 => iter (seq_programs_L25 N calls1) k6 (After9, v10) = some o3) [] 0 N (hF3) (.cons rfl (.nil)) (.cons (i := 0) rfl (.cons (i := 2) rfl (.cons (i := 3) rfl (.cons (i := 11) rfl (.cons (i := 12) rfl (.nil)))))) (fun w hw => hw.pick [1, 0] rfl) (fun After9 v10 k6 hI K7 hK7 => ?_)
    obtain ⟨k6, t6, rfl, hF6, hN6⟩ := iter_step hI
    -- region 3: seq.go:12
    refine W.seqR fun Q8 hQ8 => ?_
    refine WL.q (Y.lss (.pl rfl) (.pl rfl)) rfl ?_
    refine WL.next hQ8 (.cons (i := 0) rfl (.cons (i := 2) rfl (.cons (i := 3) rfl (.cons (i := 11) rfl (.cons (i := 12) rfl (.cons (i := 13) rfl (.cons (i := 14) rfl (.nil)))))))) ?_
    refine W.seq fun K9 hK9 => ?_
    refine W.cond (.pl rfl) (fun hC10 => ?_) (fun hC10 => ?_)
    · replace hF6 := cpos hC10 hF6
      refine W.skip ?_
      refine W.go hK9 (.cons (i := 0) rfl (.cons (i := 2) rfl (.cons (i := 3) rfl (.cons (i := 11) rfl (.cons (i := 12) rfl (.cons (i := 13) rfl (.nil))))))) ?_
      obtain ⟨o11, hF11, hF6⟩ := bnd hF6
      refine W.join1 (Em := fun (After11 : (List Int)) => []) (M := fun After11 => [cBx b6 99 (encRel (Rel.mk 0 [])), cBx b7 99 (encRel (Rel.mk ((calls1).length : Int) After11))]) (I := fun After11 => After11 = o11) (.cons (i := 0) rfl (.cons (i := 2) rfl (.cons (i := 3) rfl (.cons (i := 11) rfl (.cons (i := 12) rfl (.cons (i := 13) rfl (.nil))))))) (fun K12 hK12 => ?_) ?_
      · -- up to
        refine W.block ?_
        -- region 4: seq.go:12
        refine W.seqR fun Q13 hQ13 => ?_
        refine WL.q (Y.move (.pl rfl)) rfl ?_
        obtain ⟨x12, hx12, hF11⟩ := bnd hF11
        refine WL.q (Y.slEl Try.underlying51 cells55 hs4 (.pl rfl) (.pl rfl) (ix_lt (hx12))) rfl ?_
        refine WL.q (Y.loadSA (enc := encCall) (ds := (encCall x12)) (j := 0) Try.underlying55 rfl cells55 hs4 (.pl rfl) (hx12) rfl rfl subW) rfl ?_
        refine WL.step (WO.alloc (cs := (encCall (Call.mk 0 0 0 0 0 0 0)).toArray) zero55 rfl rfl fun b13 => ?_)
        refine WL.q (Y.assign (.pl rfl)) rfl ?_
        refine WL.step (WO.storeBA (ds := (encCall x12)) (cs' := (encCall x12)) cells55 (.pl rfl) (.pl rfl) rfl (oneCall _) (i := 0) rfl (lel (o := 0) (l := 7) (m := 7) (by decide) rfl rfl) (putW rfl) ?_)
        refine WL.next hQ13 (.cons (i := 0) rfl (.cons (i := 2) rfl (.cons (i := 3) rfl (.cons (i := 4) rfl (.cons (i := 5) rfl (.cons (i := 11) rfl (.cons (i := 12) rfl (.cons (i := 13) rfl (.nil))))))))) ?_
        -- region 5: seq.go:13
        refine W.seqR fun Q14 hQ14 => ?_
        refine WL.q (Y.move (.pl rfl)) rfl ?_
        refine WL.q (Y.len Try.underlying51 (.pl rfl)) rfl ?_
        refine WL.q (Y.move (.pl rfl)) rfl ?_
        refine WL.next hQ14 (.cons (i := 0) rfl (.cons (i := 2) rfl (.cons (i := 3) rfl (.cons (i := 4) rfl (.cons (i := 5) rfl (.cons (i := 11) rfl (.cons (i := 12) rfl (.cons (i := 13) rfl (.cons (i := 18) rfl (.cons (i := 19) rfl (.cons (i := 20) rfl (.nil)))))))))))) ?_
        refine W.block ?_
        refine W.loop2 (Em := fun (After14 : (List Int)) (v15 : Int) => [(20, .int .i64 v15)]) (M := fun After14 v15 => [cBx b6 99 (encRel (Rel.mk 0 [])), cBx b7 99 (encRel (Rel.mk ((calls1).length : Int) After14)), cBx b13 55 (encCall x12)]) (I := fun After14 v15 k15 => iter (seq_programs_L27 N calls1 x12 v10) k15 (After14, v15) = some o11) After9 0 N (hF11) (.cons rfl (.nil)) (.cons (i := 0) rfl (.cons (i := 2) rfl (.cons (i := 3) rfl (.cons (i := 4) rfl (.cons (i := 5) rfl (.cons (i := 11) rfl (.cons (i := 12) rfl (.cons (i := 13) rfl (.cons (i := 18) rfl (.cons (i := 19) rfl (.nil))))))))))) (fun w hw => hw.pick [1, 2, 0] rfl) (fun After14 v15 k15 hI K16 hK16 => ?_)
        obtain ⟨k15, t15, rfl, hF15, hN15⟩ := iter_step hI
        -- region 6: seq.go:13
        refine W.seqR fun Q17 hQ17 => ?_
        refine WL.q (Y.lss (.pl rfl) (.pl rfl)) rfl ?_
        refine WL.next hQ17 (.cons (i := 0) rfl (.cons (i := 2) rfl (.cons (i := 3) rfl (.cons (i := 4) rfl (.cons (i := 5) rfl (.cons (i := 11) rfl (.cons (i := 12) rfl (.cons (i := 13) rfl (.cons (i := 18) rfl (.cons (i := 19) rfl (.cons (i := 20) rfl (.cons (i := 21) rfl (.nil))))))))))))) ?_
        refine W.seq fun K18 hK18 => ?_
        refine W.cond (.pl rfl) (fun hC19 => ?_) (fun hC19 => ?_)
        · replace hF15 := cpos hC19 hF15
          refine W.skip ?_
          refine W.go hK18 (.cons (i := 0) rfl (.cons (i := 2) rfl (.cons (i := 3) rfl (.cons (i := 4) rfl (.cons (i := 5) rfl (.cons (i := 11) rfl (.cons (i := 12) rfl (.cons (i := 13) rfl (.cons (i := 18) rfl (.cons (i := 19) rfl (.cons (i := 20) rfl (.nil)))))))))))) ?_
          refine W.seq fun K20 hK20 => ?_
          refine W.block ?_
          -- region 7: seq.go:13
          refine W.seqR fun Q21 hQ21 => ?_
          refine WL.q (Y.move (.pl rfl)) rfl ?_
          obtain ⟨x16, hx16, hF15⟩ := bnd hF15
          refine WL.q (Y.slEl Try.underlying51 cells55 hs4 (.pl rfl) (.pl rfl) (ix_lt (hx16))) rfl ?_
          refine WL.q (Y.loadSA (enc := encCall) (ds := (encCall x16)) (j := 0) Try.underlying55 rfl cells55 hs4 (.pl rfl) (hx16) rfl rfl subW) rfl ?_
          refine WL.step (WO.alloc (cs := (encCall (Call.mk 0 0 0 0 0 0 0)).toArray) zero55 rfl rfl fun b17 => ?_)
          refine WL.q (Y.assign (.pl rfl)) rfl ?_
          refine WL.step (WO.storeBA (ds := (encCall x16)) (cs' := (encCall x16)) cells55 (.pl rfl) (.pl rfl) rfl (oneCall _) (i := 0) rfl (lel (o := 0) (l := 7) (m := 7) (by decide) rfl rfl) (putW rfl) ?_)
          refine WL.next hQ21 (.cons (i := 0) rfl (.cons (i := 2) rfl (.cons (i := 3) rfl (.cons (i := 4) rfl (.cons (i := 5) rfl (.cons (i := 6) rfl (.cons (i := 7) rfl (.cons (i := 11) rfl (.cons (i := 12) rfl (.cons (i := 13) rfl (.cons (i := 18) rfl (.cons (i := 19) rfl (.cons (i := 20) rfl (.nil)))))))))))))) ?_
          -- region 8: seq.go:14
          refine W.seqR fun Q22 hQ22 => ?_
          refine WL.q (Y.fieldAddr0 (off := 0) (ft := 3) Try.underlying55 rfl cells3 (.pl rfl)) rfl ?_
          refine WL.q (Y.loadB (v := .int .i64 x12.who) Try.underlying3 rfl (.pl rfl) (i := 3) rfl (rfl)) rfl ?_
          refine WL.q (Y.fieldAddr0 (off := 0) (ft := 3) Try.underlying55 rfl cells3 (.pl rfl)) rfl ?_
          refine WL.q (Y.loadB (v := .int .i64 x16.who) Try.underlying3 rfl (.pl rfl) (i := 0) rfl (rfl)) rfl ?_
          refine WL.q (Y.eql (.pl rfl) (.pl rfl)) rfl ?_
          refine WL.q (Y.move (.pl rfl)) rfl ?_
          refine WL.g (.pl rfl rfl rfl) (fun hg => Y.move (.pl rfl)) rfl ?_
          refine WL.g (.pl rfl rfl rfl) (fun hg => Y.move (.pl rfl)) rfl ?_
          refine WL.g (.pl rfl rfl rfl) (fun hg => Y.lss (.gd (hg) rfl) (.gd (hg) rfl)) rfl ?_
          refine WL.q (Y.and (.pl rfl) (fun h2 => .gd (eqt h2) rfl)) rfl ?_
          refine WL.next hQ22 (.cons (i := 0) rfl (.cons (i := 2) rfl (.cons (i := 3) rfl (.cons (i := 4) rfl (.cons (i := 5) rfl (.cons (i := 6) rfl (.cons (i := 11) rfl (.cons (i := 12) rfl (.cons (i := 13) rfl (.cons (i := 18) rfl (.cons (i := 19) rfl (.cons (i := 20) rfl (.cons (i := 34) rfl (.nil)))))))))))))) ?_
          refine W.cond (.pl rfl) (fun hC23 => ?_) (fun hC23 => ?_)
          · replace hF15 := cpos hC23 hF15
            -- region 9: seq.go:15
            refine W.reg ?_
            refine WL.q (Y.move (.pl rfl)) rfl ?_
            refine WL.q (Y.fieldAddr0 (off := 1) (ft := 97) Try.underlying99 rfl cells97 (.pl rfl)) rfl ?_
            obtain ⟨x18, hx18, hF15⟩ := bnd hF15
            refine WL.q (Y.arrZ Try.underlying97 cells96 (.pl rfl) (.pl rfl) (ax_lt (hx18))) rfl ?_
            refine WL.q (Y.loadB (v := .int .u16 x18) Try.underlying96 rfl (.pl rfl) (i := 2) rfl (cellsA (pre := (Value.int .i64 ((calls1).length : Int) :: [])) (off := 1) (post := []) (a := After14) (enc := (eI .u16)) (d := 0) (n := 12) (sz := 1) (j := 0) (fun _ => rfl) rfl (ax_nat (hx18)) (ax_get (hx18)) rfl)) rfl ?_
            refine WL.q (Y.move (.pl rfl)) rfl ?_
            refine WL.q (Y.conv Try.underlying3 Try.underlying113 (.pl rfl)) rfl ?_
            refine WL.q (Y.shl (.pl rfl) (.pl rfl) (wrapU_nn rfl _)) rfl ?_
            refine WL.q (Y.bor (.pl rfl) (.pl rfl)) rfl ?_
            refine WL.q (Y.fieldAddr0 (off := 1) (ft := 97) Try.underlying99 rfl cells97 (.pl rfl)) rfl ?_
            obtain ⟨x19, hx19, hF15⟩ := bnd hF15
            refine WL.q (Y.arrZ Try.underlying97 cells96 (.pl rfl) (.pl rfl) (ax_lt (hx19))) rfl ?_
            refine WL.step (WO.storeB (cs' := (encRel (Rel.mk ((calls1).length : Int) (setA 12 0 After14 v10 (borI .u16 x18 (shlI .u16 1 (IntKind.u64.wrap v15))))))) cells96 (.pl rfl) (.pl rfl) rfl (i := 2) rfl (ltl (m := 13) (offlt (off := 1) (sz := 1) (j := 0) (ax_nat (hx19)) (by decide)) rfl) (cellsSet (pre := (Value.int .i64 ((calls1).length : Int) :: [])) (off := 1) (post := []) (a := After14) (enc := (eI .u16)) (d := 0) (n := 12) (sz := 1) (j := 0) (x := x19) (x' := (borI .u16 x18 (shlI .u16 1 (IntKind.u64.wrap v15)))) (fun _ => rfl) rfl (ax_lt (hx19)) (ax_get (hx19)) (by decide) rfl rfl) ?_)
            refine WL.nil ?_
            refine W.go hK20 (.cons (i := 0) rfl (.cons (i := 2) rfl (.cons (i := 3) rfl (.cons (i := 4) rfl (.cons (i := 5) rfl (.cons (i := 11) rfl (.cons (i := 12) rfl (.cons (i := 13) rfl (.cons (i := 18) rfl (.cons (i := 19) rfl (.cons (i := 20) rfl (.nil)))))))))))) ?_
            -- region 10: seq.go:13
            refine W.reg ?_
            obtain ⟨hk20, hF15⟩ := ckh hF15
            refine WL.q (Y.add (.pl rfl) (.pl rfl) (ok64_lt (hk20))) rfl ?_
            refine WL.q (Y.move (.pl rfl)) rfl ?_
            refine WL.nil ?_
            obtain rfl := Option.some.inj hF15
            exact W.again2 hK16 (setA 12 0 After14 v10 (borI .u16 x18 (shlI .u16 1 (IntKind.u64.wrap v15)))) (v15 + 1) k15 hN15 (Nat.lt_succ_self _) (.cons rfl (.nil)) (.cons (i := 0) rfl (.cons (i := 2) rfl (.cons (i := 3) rfl (.cons (i := 4) rfl (.cons (i := 5) rfl (.cons (i := 11) rfl (.cons (i := 12) rfl (.cons (i := 13) rfl (.cons (i := 18) rfl (.cons (i := 19) rfl (.nil))))))))))) (fun w hw => hw.pick [1, 2, 3] rfl)
          · replace hF15 := cneg hC23 hF15
            refine W.skip ?_
            refine W.go hK20 (.cons (i := 0) rfl (.cons (i := 2) rfl (.cons (i := 3) rfl (.cons (i := 4) rfl (.cons (i := 5) rfl (.cons (i := 11) rfl (.cons (i := 12) rfl (.cons (i := 13) rfl (.cons (i := 18) rfl (.cons (i := 19) rfl (.cons (i := 20) rfl (.nil)))))))))))) ?_
            -- region 10: seq.go:13
            refine W.reg ?_
            obtain ⟨hk21, hF15⟩ := ckh hF15
            refine WL.q (Y.add (.pl rfl) (.pl rfl) (ok64_lt (hk21))) rfl ?_
            refine WL.q (Y.move (.pl rfl)) rfl ?_
            refine WL.nil ?_
            obtain rfl := Option.some.inj hF15
            exact W.again2 hK16 After14 (v15 + 1) k15 hN15 (Nat.lt_succ_self _) (.cons rfl (.nil)) (.cons (i := 0) rfl (.cons (i := 2) rfl (.cons (i := 3) rfl (.cons (i := 4) rfl (.cons (i := 5) rfl (.cons (i := 11) rfl (.cons (i := 12) rfl (.cons (i := 13) rfl (.cons (i := 18) rfl (.cons (i := 19) rfl (.nil))))))))))) (fun w hw => hw.pick [1, 2, 3] rfl)
        · replace hF15 := cneg hC19 hF15
          refine W.exit ?_
          obtain rfl := Option.some.inj hF15
          exact W.joinAt1 hK12 After14 (einr hN15) (.nil) (.cons (i := 0) rfl (.cons (i := 2) rfl (.cons (i := 3) rfl (.cons (i := 11) rfl (.cons (i := 12) rfl (.cons (i := 13) rfl (.nil))))))) (fun w hw => hw.pick [0, 1] rfl)
      · -- behind
        rintro After11 rfl
        -- region 11: seq.go:12
        refine W.reg ?_
        obtain ⟨hk22, hF6⟩ := ckh hF6
        refine WL.q (Y.add (.pl rfl) (.pl rfl) (ok64_lt (hk22))) rfl ?_
        refine WL.q (Y.move (.pl rfl)) rfl ?_
        refine WL.nil ?_
        obtain rfl := Option.some.inj hF6
        exact W.again2 hK7 After11 (v10 + 1) k6 hN6 (Nat.lt_succ_self _) (.cons rfl (.nil)) (.cons (i := 0) rfl (.cons (i := 2) rfl (.cons (i := 3) rfl (.cons (i := 11) rfl (.cons (i := 12) rfl (.nil)))))) (fun w hw => hw.pick [0, 1] rfl)
    · replace hF6 := cneg hC10 hF6
      refine W.exit ?_
      obtain rfl := Option.some.inj hF6
      exact W.joinAt1 hK4 After9 (einr hN6) (.nil) (.cons (i := 2) rfl (.cons (i := 3) rfl (.nil))) (fun w hw => hw.pick [0, 1] rfl)
  · -- behind
    rintro After8 rfl
    -- region 12: seq.go:19
    refine W.seqR fun Q28 hQ28 => ?_
    refine WL.q (Y.loadBA (ds := (encRel (Rel.mk ((calls1).length : Int) After8))) Try.underlying99 rfl cells99 (.pl rfl) (i := 1) rfl rfl subW) rfl ?_
    refine WL.step (WO.storeBA (ds := (encRel (Rel.mk ((calls1).length : Int) After8))) (cs' := (encRel (Rel.mk ((calls1).length : Int) After8))) cells99 (.pl rfl) (.pl rfl) rfl (oneRel _) (i := 0) rfl (lel (o := 0) (l := 13) (m := 13) (by decide) rfl rfl) (putW rfl) ?_)
    refine WL.next hQ28 (.cons (i := 2) rfl (.nil)) ?_
    obtain rfl := Option.some.inj hF
    refine W.retV (fn := Try.f75) (vs := [.agg (encRel (Rel.mk ((calls1).length : Int) After8)).toArray]) Try.results75 ⟨.cellA Try.underlying99 rfl cells99 rfl (i := 0) rfl rfl, trivial⟩ (fun _ _ h => h) (fun w hw => ?_)
    exact hR _ _ ⟨rfl, (hw.pick [] rfl)⟩

def seq_Find (N : Nat) (types1 : (List Int)) (l6 : (List Event)) : Option ((List Step) × Bool × Int) :=
  bd (search_Calls N types1 l6) fun (r11 : ((List Call) × Int)) =>
  cond (!(decide (r11.2 = 0)))
    (some ([], false, r11.2))
    (bd (seq_programs N r11.1) fun (r14 : (List Int)) =>
    bd (search_Smallest N types1 r11.1 (Rel.mk ((r11.1).length : Int) r14)) fun (r15 : ((List Step) × Bool)) =>
    some (r15.1, r15.2, 0))

theorem seq_Find_ok {N : Nat} {types1 : (List Int)} {l6 : (List Event)} {res : ((List Step) × Bool × Int)} (hF : seq_Find N types1 l6 = some res) (w : World) {v5 : Value} (hs4 : SlIn (eI .i64) 1 w v5 types1) {v10 : Value} (hs9 : SlIn encEvent 4 w v10 l6) :
    Made Try.prog 46 [v5, v10] w (fun g : (Option Addr × Nat) => .tuple #[.slice g.1 (res.1).length g.2, .bool res.2.1, .int .i64 res.2.2]) (fun g => [cR encStep 2 g.1 g.2 58 res.1]) (fun _ => True) := by
  obtain ⟨A2, c3, rfl, hcc3, hs4⟩ := hs4.form
  obtain ⟨A7, c8, rfl, hcc8, hs9⟩ := hs9.form
  refine W.enter (n := 30) Try.func46 rfl rfl Sub.refl (by simp) (St.start w) fun R hR => ?_
  unfold seq_Find at hF
  -- region 0: seq.go:32
  refine W.seqR fun Q1 hQ1 => ?_
  refine WL.q (Y.assign (.pl rfl)) rfl ?_
  refine WL.q (Y.assign (.pl rfl)) rfl ?_
  refine WL.q (Y.assign (.pl rfl)) rfl ?_
  refine WL.next hQ1 (.cons (i := 0) rfl (.cons (i := 1) rfl (.nil))) ?_
  -- region 1: seq.go:33
  refine W.seqR fun Q2 hQ2 => ?_
  refine WL.q (Y.move (.pl rfl)) rfl ?_
  refine WL.q (Y.move (.pl rfl)) rfl ?_
  obtain ⟨r11, hr11, hF⟩ := bnd hF
  refine WL.step (WO.callM isGo68 (.cons (.pl rfl) (.cons (.pl rfl) (.nil))) rfl (fun w hw => search_Calls_ok (hr11) w (hs4.mono hw) (hs9.mono hw)) ?_)
  rintro ⟨A12, c13⟩ -
  refine WL.q (Y.move (.pl rfl)) rfl ?_
  refine WL.q (Y.extract (.pl rfl) rfl) rfl ?_
  refine WL.q (Y.extract (.pl rfl) rfl) rfl ?_
  refine WL.q (Y.assign (.pl rfl)) rfl ?_
  refine WL.q (Y.assign (.pl rfl)) rfl ?_
  refine WL.next hQ2 (.cons (i := 0) rfl (.cons (i := 7) rfl (.cons (i := 8) rfl (.nil)))) ?_
  refine W.seq fun K3 hK3 => ?_
  -- region 2: seq.go:34
  refine W.seqR fun Q4 hQ4 => ?_
  refine WL.q (Y.move (.pl rfl)) rfl ?_
  refine WL.q (Y.neq (.pl rfl) (.pl rfl)) rfl ?_
  refine WL.next hQ4 (.cons (i := 0) rfl (.cons (i := 7) rfl (.cons (i := 8) rfl (.cons (i := 18) rfl (.nil))))) ?_
  refine W.cond (.pl rfl) (fun hC5 => ?_) (fun hC5 => ?_)
  · replace hF := cpos hC5 hF
    -- region 3: seq.go:35
    refine W.seqR fun Q6 hQ6 => ?_
    refine WL.q (Y.move (.pl rfl)) rfl ?_
    refine WL.q (Y.assign (.pl rfl)) rfl ?_
    refine WL.q (Y.assign (.pl rfl)) rfl ?_
    refine WL.q (Y.assign (.pl rfl)) rfl ?_
    refine WL.next hQ6 (.cons (i := 4) rfl (.cons (i := 5) rfl (.cons (i := 6) rfl (.nil)))) ?_
    obtain rfl := Option.some.inj hF
    refine W.retV (fn := Try.f46) (vs := [.slice none 0 0, .bool false, .int .i64 r11.2]) Try.results46 ⟨.tmp rfl, ⟨.tmp rfl, ⟨.tmp rfl, trivial⟩⟩⟩ (fun _ _ h => h) (fun w hw => ?_)
    exact hR _ _ ⟨(none, 0), trivial, rfl, ((St.nilR (hw.pick [] rfl) encStep 2 58).pick [0] rfl)⟩
  · replace hF := cneg hC5 hF
    refine W.skip ?_
    refine W.go hK3 (.cons (i := 0) rfl (.cons (i := 7) rfl (.nil))) ?_
    -- region 4: seq.go:37
    refine W.seqR fun Q7 hQ7 => ?_
    refine WL.q (Y.move (.pl rfl)) rfl ?_
    refine WL.q (Y.move (.pl rfl)) rfl ?_
    refine WL.q (Y.move (.pl rfl)) rfl ?_
    obtain ⟨r14, hr14, hF⟩ := bnd hF
    refine WL.step (WO.callP isGo75 (.cons (.pl rfl) (.nil)) rfl (fun w hw => seq_programs_ok (hr14) w (SlIn.ofRow lenCall hw (i := 0) rfl)) ?_)
    obtain ⟨r15, hr15, hF⟩ := bnd hF
    refine WL.step (WO.callM isGo70 (.cons (.pl rfl) (.cons (.pl rfl) (.cons (.pl rfl) (.nil)))) rfl (fun w hw => search_Smallest_ok (hr15) w (hs4.mono hw) (SlIn.ofRow lenCall hw (i := 0) rfl)) ?_)
    rintro ⟨A16, c17⟩ -
    refine WL.q (Y.move (.pl rfl)) rfl ?_
    refine WL.q (Y.extract (.pl rfl) rfl) rfl ?_
    refine WL.q (Y.extract (.pl rfl) rfl) rfl ?_
    refine WL.q (Y.assign (.pl rfl)) rfl ?_
    refine WL.q (Y.assign (.pl rfl)) rfl ?_
    refine WL.next hQ7 (.cons (i := 9) rfl (.cons (i := 10) rfl (.nil))) ?_
    -- region 5: seq.go:38
    refine W.seqR fun Q8 hQ8 => ?_
    refine WL.q (Y.move (.pl rfl)) rfl ?_
    refine WL.q (Y.move (.pl rfl)) rfl ?_
    refine WL.q (Y.assign (.pl rfl)) rfl ?_
    refine WL.q (Y.assign (.pl rfl)) rfl ?_
    refine WL.q (Y.assign (.pl rfl)) rfl ?_
    refine WL.next hQ8 (.cons (i := 4) rfl (.cons (i := 5) rfl (.cons (i := 6) rfl (.nil)))) ?_
    obtain rfl := Option.some.inj hF
    refine W.retV (fn := Try.f46) (vs := [.slice A16 (r15.1).length c17, .bool r15.2, .int .i64 0]) Try.results46 ⟨.tmp rfl, ⟨.tmp rfl, ⟨.tmp rfl, trivial⟩⟩⟩ (fun _ _ h => h) (fun w hw => ?_)
    exact hR _ _ ⟨(A16, c17), trivial, rfl, (hw.pick [0] rfl)⟩

def seq_epochs_L3 (N : Nat) (l1 : (List Event)) : ((List Int) × Int × Int × Int) → Option (((List Int) × Int × Int × Int) ⊕ (List Int))
  | (out11, open12, epoch13, v14) =>
    cond (decide (v14 < ((l1).length : Int)))
      (bd (ix l1 v14) fun (x15 : Event) =>
      cond (decide (x15.kind = 0))
        (ck (ok64 (open12 - 1)) <|
        cond (decide ((open12 - 1) = 0))
          (ck (ok64 (epoch13 + 1)) <|
          ck (ok64 (v14 + 1)) <|
          some (.inl (out11, (open12 - 1), (epoch13 + 1), (v14 + 1))))
          (ck (ok64 (v14 + 1)) <|
          some (.inl (out11, (open12 - 1), epoch13, (v14 + 1)))))
        (ck (limB 8 ((out11).length + (([epoch13] : List Int)).length)) <|
        ck (ok64 (open12 + 1)) <|
        ck (ok64 (v14 + 1)) <|
        some (.inl ((out11 ++ ([epoch13] : List Int)), (open12 + 1), epoch13, (v14 + 1)))))
      (some (.inr out11))

def seq_epochs (N : Nat) (l1 : (List Event)) : Option (List Int) :=
  bd (α := (List Int)) (iter (seq_epochs_L3 N l1) N ([], 0, 0, 0)) <|
  fun (out8 : (List Int)) => 
    some out8

theorem seq_epochs_ok {N : Nat} {l1 : (List Event)} {res : (List Int)} (hF : seq_epochs N l1 = some res) (w : World) {v5 : Value} (hs4 : SlIn encEvent 4 w v5 l1) :
    Made Try.prog 77 [v5] w (fun g : (Option Addr × Nat) => .slice g.1 (res).length g.2) (fun g => [cR (eI .i64) 1 g.1 g.2 3 res]) (fun _ => True) := by
  obtain ⟨A2, c3, rfl, hcc3, hs4⟩ := hs4.form
  refine W.enter (n := 31) Try.func77 rfl rfl Sub.refl (by simp) (St.start w) fun R hR => ?_
  unfold seq_epochs at hF
  -- region 0: seq.go:42
  refine W.seqR fun Q1 hQ1 => ?_
  refine WL.q (Y.assign (.pl rfl)) rfl ?_
  refine WL.next hQ1 (.cons (i := 0) rfl (.nil)) ?_
  -- region 1: seq.go:43
  refine W.seqR fun Q2 hQ2 => ?_
  refine WL.q (Y.assign (.pl rfl)) rfl ?_
  refine WL.next hQ2 (.cons (i := 0) rfl (.cons (i := 3) rfl (.nil))) ?_
  -- region 2: seq.go:44
  refine W.seqR fun Q3 hQ3 => ?_
  refine WL.q (Y.assign (.pl rfl)) rfl ?_
  refine WL.q (Y.assign (.pl rfl)) rfl ?_
  refine WL.next hQ3 (.cons (i := 0) rfl (.cons (i := 3) rfl (.cons (i := 4) rfl (.cons (i := 5) rfl (.nil))))) ?_
  obtain ⟨o4, hF4, hF⟩ := bnd hF
  refine W.join3 (Em := fun (out8 : (List Int)) (A6 : Option Addr) (c7 : Nat) => [(3, .slice A6 (out8).length c7)]) (M := fun out8 A6 c7 => [cR (eI .i64) 1 A6 c7 3 out8]) (I := fun out8 A6 c7 => out8 = o4) (.nil) (fun K5 hK5 => ?_) ?_
  · -- up to
    -- region 3: seq.go:45
    refine W.seqR fun Q6 hQ6 => ?_
    refine WL.q (Y.move (.pl rfl)) rfl ?_
    refine WL.q (Y.len Try.underlying43 (.pl rfl)) rfl ?_
    refine WL.q (Y.move (.pl rfl)) rfl ?_
    refine WL.next hQ6 (.cons (i := 3) rfl (.cons (i := 4) rfl (.cons (i := 5) rfl (.cons (i := 8) rfl (.cons (i := 9) rfl (.cons (i := 10) rfl (.nil))))))) ?_
    refine W.block ?_
    refine W.loop6 (Em := fun (out11 : (List Int)) (open12 : Int) (epoch13 : Int) (v14 : Int) (A9 : Option Addr) (c10 : Nat) => [(3, .slice A9 (out11).length c10), (4, .int .i64 open12), (5, .int .i64 epoch13), (10, .int .i64 v14)]) (M := fun out11 open12 epoch13 v14 A9 c10 => [cR (eI .i64) 1 A9 c10 3 out11]) (I := fun out11 open12 epoch13 v14 A9 c10 k7 => iter (seq_epochs_L3 N l1) k7 (out11, open12, epoch13, v14) = some o4) [] 0 0 0 none 0 N (hF4) (.cons rfl (.cons rfl (.cons rfl (.cons rfl (.nil))))) (.cons (i := 8) rfl (.cons (i := 9) rfl (.nil))) (fun w hw => (St.nilR (hw.pick [] rfl) (eI .i64) 1 3).pick [0] rfl) (fun out11 open12 epoch13 v14 A9 c10 k7 hI K8 hK8 => ?_)
    obtain ⟨k7, t7, rfl, hF7, hN7⟩ := iter_step hI
    -- region 4: seq.go:45
    refine W.seqR fun Q9 hQ9 => ?_
    refine WL.q (Y.lss (.pl rfl) (.pl rfl)) rfl ?_
    refine WL.next hQ9 (.cons (i := 3) rfl (.cons (i := 4) rfl (.cons (i := 5) rfl (.cons (i := 8) rfl (.cons (i := 9) rfl (.cons (i := 10) rfl (.cons (i := 11) rfl (.nil)))))))) ?_
    refine W.seq fun K10 hK10 => ?_
    refine W.cond (.pl rfl) (fun hC11 => ?_) (fun hC11 => ?_)
    · replace hF7 := cpos hC11 hF7
      refine W.skip ?_
      refine W.go hK10 (.cons (i := 3) rfl (.cons (i := 4) rfl (.cons (i := 5) rfl (.cons (i := 8) rfl (.cons (i := 9) rfl (.cons (i := 10) rfl (.nil))))))) ?_
      refine W.seq fun K12 hK12 => ?_
      refine W.block ?_
      -- region 5: seq.go:45
      refine W.seqR fun Q13 hQ13 => ?_
      obtain ⟨x15, hx15, hF7⟩ := bnd hF7
      refine WL.q (Y.slEl Try.underlying43 cells49 hs4 (.pl rfl) (.pl rfl) (ix_lt (hx15))) rfl ?_
      refine WL.q (Y.loadSA (enc := encEvent) (ds := (encEvent x15)) (j := 0) Try.underlying49 rfl cells49 hs4 (.pl rfl) (hx15) rfl rfl subW) rfl ?_
      refine WL.step (WO.alloc (cs := (encEvent (Event.mk 0 0 0 0)).toArray) zero49 rfl rfl fun b16 => ?_)
      refine WL.step (WO.storeBA (ds := (encEvent x15)) (cs' := (encEvent x15)) cells49 (.pl rfl) (.pl rfl) rfl (oneEvent _) (i := 0) rfl (lel (o := 0) (l := 4) (m := 4) (by decide) rfl rfl) (putW rfl) ?_)
      refine WL.next hQ13 (.cons (i := 3) rfl (.cons (i := 4) rfl (.cons (i := 5) rfl (.cons (i := 7) rfl (.cons (i := 8) rfl (.cons (i := 9) rfl (.cons (i := 10) rfl (.nil)))))))) ?_
      refine W.seq fun K14 hK14 => ?_
      -- region 6: seq.go:46
      refine W.seqR fun Q15 hQ15 => ?_
      refine WL.q (Y.fieldAddr0 (off := 2) (ft := 3) Try.underlying49 rfl cells3 (.pl rfl)) rfl ?_
      refine WL.q (Y.loadB (v := .int .i64 x15.kind) Try.underlying3 rfl (.pl rfl) (i := 0) rfl (rfl)) rfl ?_
      refine WL.q (Y.eql (.pl rfl) (.pl rfl)) rfl ?_
      refine WL.next hQ15 (.cons (i := 3) rfl (.cons (i := 4) rfl (.cons (i := 5) rfl (.cons (i := 8) rfl (.cons (i := 9) rfl (.cons (i := 10) rfl (.cons (i := 16) rfl (.nil)))))))) ?_
      refine W.cond (.pl rfl) (fun hC16 => ?_) (fun hC16 => ?_)
      · replace hF7 := cpos hC16 hF7
        -- region 7: seq.go:47
        refine W.seqR fun Q17 hQ17 => ?_
        refine WL.q (Y.move (.pl rfl)) rfl ?_
        obtain ⟨hk17, hF7⟩ := ckh hF7
        refine WL.q (Y.sub (.pl rfl) (.pl rfl) (ok64_lt (hk17))) rfl ?_
        refine WL.q (Y.assign (.pl rfl)) rfl ?_
        refine WL.next hQ17 (.cons (i := 3) rfl (.cons (i := 4) rfl (.cons (i := 5) rfl (.cons (i := 8) rfl (.cons (i := 9) rfl (.cons (i := 10) rfl (.nil))))))) ?_
        refine W.seq fun K18 hK18 => ?_
        -- region 8: seq.go:48
        refine W.seqR fun Q19 hQ19 => ?_
        refine WL.q (Y.move (.pl rfl)) rfl ?_
        refine WL.q (Y.eql (.pl rfl) (.pl rfl)) rfl ?_
        refine WL.next hQ19 (.cons (i := 3) rfl (.cons (i := 4) rfl (.cons (i := 5) rfl (.cons (i := 8) rfl (.cons (i := 9) rfl (.cons (i := 10) rfl (.cons (i := 20) rfl (.nil)))))))) ?_
        refine W.cond (.pl rfl) (fun hC20 => ?_) (fun hC20 => ?_)
        · replace hF7 := cpos hC20 hF7
          -- region 9: seq.go:49
          refine W.reg ?_
          refine WL.q (Y.move (.pl rfl)) rfl ?_
          obtain ⟨hk18, hF7⟩ := ckh hF7
          refine WL.q (Y.add (.pl rfl) (.pl rfl) (ok64_lt (hk18))) rfl ?_
          refine WL.q (Y.assign (.pl rfl)) rfl ?_
          refine WL.nil ?_
          refine W.go hK18 (.cons (i := 3) rfl (.cons (i := 4) rfl (.cons (i := 5) rfl (.cons (i := 8) rfl (.cons (i := 9) rfl (.cons (i := 10) rfl (.nil))))))) ?_
          refine W.exit ?_
          refine W.go hK12 (.cons (i := 3) rfl (.cons (i := 4) rfl (.cons (i := 5) rfl (.cons (i := 8) rfl (.cons (i := 9) rfl (.cons (i := 10) rfl (.nil))))))) ?_
          -- region 12: seq.go:45
          refine W.reg ?_
          obtain ⟨hk19, hF7⟩ := ckh hF7
          refine WL.q (Y.add (.pl rfl) (.pl rfl) (ok64_lt (hk19))) rfl ?_
          refine WL.q (Y.move (.pl rfl)) rfl ?_
          refine WL.nil ?_
          obtain rfl := Option.some.inj hF7
          exact W.again6 hK8 out11 (open12 - 1) (epoch13 + 1) (v14 + 1) A9 c10 k7 hN7 (Nat.lt_succ_self _) (.cons rfl (.cons rfl (.cons rfl (.cons rfl (.nil))))) (.cons (i := 8) rfl (.cons (i := 9) rfl (.nil))) (fun w hw => hw.pick [1] rfl)
        · replace hF7 := cneg hC20 hF7
          refine W.skip ?_
          refine W.go hK18 (.cons (i := 3) rfl (.cons (i := 4) rfl (.cons (i := 5) rfl (.cons (i := 8) rfl (.cons (i := 9) rfl (.cons (i := 10) rfl (.nil))))))) ?_
          refine W.exit ?_
          refine W.go hK12 (.cons (i := 3) rfl (.cons (i := 4) rfl (.cons (i := 5) rfl (.cons (i := 8) rfl (.cons (i := 9) rfl (.cons (i := 10) rfl (.nil))))))) ?_
          -- region 12: seq.go:45
          refine W.reg ?_
          obtain ⟨hk20, hF7⟩ := ckh hF7
          refine WL.q (Y.add (.pl rfl) (.pl rfl) (ok64_lt (hk20))) rfl ?_
          refine WL.q (Y.move (.pl rfl)) rfl ?_
          refine WL.nil ?_
          obtain rfl := Option.some.inj hF7
          exact W.again6 hK8 out11 (open12 - 1) epoch13 (v14 + 1) A9 c10 k7 hN7 (Nat.lt_succ_self _) (.cons rfl (.cons rfl (.cons rfl (.cons rfl (.nil))))) (.cons (i := 8) rfl (.cons (i := 9) rfl (.nil))) (fun w hw => hw.pick [1] rfl)
      · replace hF7 := cneg hC16 hF7
        refine W.skip ?_
        refine W.go hK14 (.cons (i := 3) rfl (.cons (i := 4) rfl (.cons (i := 5) rfl (.cons (i := 8) rfl (.cons (i := 9) rfl (.cons (i := 10) rfl (.nil))))))) ?_
        -- region 10: seq.go:53
        refine W.seqR fun Q24 hQ24 => ?_
        refine WL.q (Y.move (.pl rfl)) rfl ?_
        refine WL.q (Y.move (.pl rfl)) rfl ?_
        refine WL.step (WO.bsliceC (enc := (eI .i64)) (ys := ([epoch13] : List Int)) Try.underlying22 bz3 (.cons (.pl rfl) (.nil)) rfl (fun _ => rfl) rfl rfl (by decide) (by decide) rfl fun b21 => ?_)
        obtain ⟨hk24, hF7⟩ := ckh hF7
        refine WL.step (WO.appendC (enc := (eI .i64)) Try.underlying22 ap3 (fun _ => rfl) oneI (.pl rfl) rfl (.pl rfl) (i := 2) rfl (m2 := 0) rfl (hk24) rfl fun A22 c23 => ?_)
        refine WL.q (Y.assign (.pl rfl)) rfl ?_
        refine WL.next hQ24 (.cons (i := 3) rfl (.cons (i := 4) rfl (.cons (i := 5) rfl (.cons (i := 8) rfl (.cons (i := 9) rfl (.cons (i := 10) rfl (.nil))))))) ?_
        -- region 11: seq.go:54
        refine W.reg ?_
        refine WL.q (Y.move (.pl rfl)) rfl ?_
        obtain ⟨hk25, hF7⟩ := ckh hF7
        refine WL.q (Y.add (.pl rfl) (.pl rfl) (ok64_lt (hk25))) rfl ?_
        refine WL.q (Y.assign (.pl rfl)) rfl ?_
        refine WL.nil ?_
        refine W.go hK12 (.cons (i := 3) rfl (.cons (i := 4) rfl (.cons (i := 5) rfl (.cons (i := 8) rfl (.cons (i := 9) rfl (.cons (i := 10) rfl (.nil))))))) ?_
        -- region 12: seq.go:45
        refine W.reg ?_
        obtain ⟨hk26, hF7⟩ := ckh hF7
        refine WL.q (Y.add (.pl rfl) (.pl rfl) (ok64_lt (hk26))) rfl ?_
        refine WL.q (Y.move (.pl rfl)) rfl ?_
        refine WL.nil ?_
        obtain rfl := Option.some.inj hF7
        exact W.again6 hK8 (out11 ++ ([epoch13] : List Int)) (open12 + 1) epoch13 (v14 + 1) A22 c23 k7 hN7 (Nat.lt_succ_self _) (.cons rfl (.cons rfl (.cons rfl (.cons rfl (.nil))))) (.cons (i := 8) rfl (.cons (i := 9) rfl (.nil))) (fun w hw => hw.pick [2] rfl)
    · replace hF7 := cneg hC11 hF7
      refine W.exit ?_
      obtain rfl := Option.some.inj hF7
      exact W.joinAt3 hK5 out11 A9 c10 (einr hN7) (.cons rfl (.nil)) (.nil) (fun w hw => hw.pick [0] rfl)
  · -- behind
    rintro out8 A6 c7 rfl
    -- region 13: seq.go:56
    refine W.seqR fun Q27 hQ27 => ?_
    refine WL.q (Y.move (.pl rfl)) rfl ?_
    refine WL.q (Y.assign (.pl rfl)) rfl ?_
    refine WL.next hQ27 (.cons (i := 2) rfl (.nil)) ?_
    obtain rfl := Option.some.inj hF
    refine W.retV (fn := Try.f77) (vs := [.slice A6 (out8).length c7]) Try.results77 ⟨.tmp rfl, trivial⟩ (fun _ _ h => h) (fun w hw => ?_)
    exact hR _ _ ⟨(A6, c7), trivial, rfl, (hw.pick [0] rfl)⟩

def seq_Quiet_L27 (N : Nat) (r15 : (List Int)) (v20 : Int) : ((List Int) × Int) → Option (((List Int) × Int) ⊕ (List Int))
  | (After22, v23) =>
    cond (decide (v23 < ((r15).length : Int)))
      (bd (ix r15 v20) fun (x24 : Int) =>
      bd (ix r15 v23) fun (x25 : Int) =>
      cond (decide (x24 < x25))
        (bd (ax 12 0 After22 v20) fun (x26 : Int) =>
        bd (ax 12 0 After22 v20) fun (x27 : Int) =>
        ck (ok64 (v23 + 1)) <|
        some (.inl ((setA 12 0 After22 v20 (borI .u16 x26 (shlI .u16 1 (IntKind.u64.wrap v23)))), (v23 + 1))))
        (ck (ok64 (v23 + 1)) <|
        some (.inl (After22, (v23 + 1)))))
      (some (.inr After22))

def seq_Quiet_L25 (N : Nat) (r15 : (List Int)) : ((List Int) × Int) → Option (((List Int) × Int) ⊕ (List Int))
  | (After19, v20) =>
    cond (decide (v20 < ((r15).length : Int)))
      (bd (α := (List Int)) (iter (seq_Quiet_L27 N r15 v20) N (After19, 0)) <|
      fun (After21 : (List Int)) => 
        ck (ok64 (v20 + 1)) <|
        some (.inl (After21, (v20 + 1))))
      (some (.inr After19))

def seq_Quiet (N : Nat) (types1 : (List Int)) (l6 : (List Event)) : Option ((List Step) × Bool × Int) :=
  bd (search_Calls N types1 l6) fun (r11 : ((List Call) × Int)) =>
  cond (!(decide (r11.2 = 0)))
    (some ([], false, r11.2))
    (bd (seq_epochs N l6) fun (r15 : (List Int)) =>
    bd (α := (List Int)) (iter (seq_Quiet_L25 N r15) N ([], 0)) <|
    fun (After18 : (List Int)) => 
      bd (search_Smallest N types1 r11.1 (Rel.mk ((r11.1).length : Int) After18)) fun (r31 : ((List Step) × Bool)) =>
      some (r31.1, r31.2, 0))

theorem seq_Quiet_ok {N : Nat} {types1 : (List Int)} {l6 : (List Event)} {res : ((List Step) × Bool × Int)} (hF : seq_Quiet N types1 l6 = some res) (w : World) {v5 : Value} (hs4 : SlIn (eI .i64) 1 w v5 types1) {v10 : Value} (hs9 : SlIn encEvent 4 w v10 l6) :
    Made Try.prog 48 [v5, v10] w (fun g : (Option Addr × Nat) => .tuple #[.slice g.1 (res.1).length g.2, .bool res.2.1, .int .i64 res.2.2]) (fun g => [cR encStep 2 g.1 g.2 58 res.1]) (fun _ => True) := by
  obtain ⟨A2, c3, rfl, hcc3, hs4⟩ := hs4.form
  obtain ⟨A7, c8, rfl, hcc8, hs9⟩ := hs9.form
  refine W.enter (n := 69) Try.func48 rfl rfl Sub.refl (by simp) (St.start w) fun R hR => ?_
  unfold seq_Quiet at hF
  -- region 0: seq.go:68
  refine W.seqR fun Q1 hQ1 => ?_
  refine WL.q (Y.assign (.pl rfl)) rfl ?_
  refine WL.q (Y.assign (.pl rfl)) rfl ?_
  refine WL.q (Y.assign (.pl rfl)) rfl ?_
  refine WL.next hQ1 (.cons (i := 0) rfl (.cons (i := 1) rfl (.nil))) ?_
  -- region 1: seq.go:69
  refine W.seqR fun Q2 hQ2 => ?_
  refine WL.q (Y.move (.pl rfl)) rfl ?_
  refine WL.q (Y.move (.pl rfl)) rfl ?_
  obtain ⟨r11, hr11, hF⟩ := bnd hF
  refine WL.step (WO.callM isGo68 (.cons (.pl rfl) (.cons (.pl rfl) (.nil))) rfl (fun w hw => search_Calls_ok (hr11) w (hs4.mono hw) (hs9.mono hw)) ?_)
  rintro ⟨A12, c13⟩ -
  refine WL.q (Y.move (.pl rfl)) rfl ?_
  refine WL.q (Y.extract (.pl rfl) rfl) rfl ?_
  refine WL.q (Y.extract (.pl rfl) rfl) rfl ?_
  refine WL.q (Y.assign (.pl rfl)) rfl ?_
  refine WL.q (Y.assign (.pl rfl)) rfl ?_
  refine WL.next hQ2 (.cons (i := 0) rfl (.cons (i := 1) rfl (.cons (i := 7) rfl (.cons (i := 8) rfl (.nil))))) ?_
  refine W.seq fun K3 hK3 => ?_
  -- region 2: seq.go:70
  refine W.seqR fun Q4 hQ4 => ?_
  refine WL.q (Y.move (.pl rfl)) rfl ?_
  refine WL.q (Y.neq (.pl rfl) (.pl rfl)) rfl ?_
  refine WL.next hQ4 (.cons (i := 0) rfl (.cons (i := 1) rfl (.cons (i := 7) rfl (.cons (i := 8) rfl (.cons (i := 22) rfl (.nil)))))) ?_
  refine W.cond (.pl rfl) (fun hC5 => ?_) (fun hC5 => ?_)
  · replace hF := cpos hC5 hF
    -- region 3: seq.go:71
    refine W.seqR fun Q6 hQ6 => ?_
    refine WL.q (Y.move (.pl rfl)) rfl ?_
    refine WL.q (Y.assign (.pl rfl)) rfl ?_
    refine WL.q (Y.assign (.pl rfl)) rfl ?_
    refine WL.q (Y.assign (.pl rfl)) rfl ?_
    refine WL.next hQ6 (.cons (i := 4) rfl (.cons (i := 5) rfl (.cons (i := 6) rfl (.nil)))) ?_
    obtain rfl := Option.some.inj hF
    refine W.retV (fn := Try.f48) (vs := [.slice none 0 0, .bool false, .int .i64 r11.2]) Try.results48 ⟨.tmp rfl, ⟨.tmp rfl, ⟨.tmp rfl, trivial⟩⟩⟩ (fun _ _ h => h) (fun w hw => ?_)
    exact hR _ _ ⟨(none, 0), trivial, rfl, ((St.nilR (hw.pick [] rfl) encStep 2 58).pick [0] rfl)⟩
  · replace hF := cneg hC5 hF
    refine W.skip ?_
    refine W.go hK3 (.cons (i := 0) rfl (.cons (i := 1) rfl (.cons (i := 7) rfl (.nil)))) ?_
    -- region 4: seq.go:73
    refine W.seqR fun Q7 hQ7 => ?_
    refine WL.q (Y.move (.pl rfl)) rfl ?_
    refine WL.q (Y.len Try.underlying51 (.pl rfl)) rfl ?_
    refine WL.q (Y.build (cs := (encRel (Rel.mk ((r11.1).length : Int) [])).toArray) shape99 (.cons (.pl rfl) (.nil)) (one_parts ⟨rfl, trivial⟩) rfl) rfl ?_
    refine WL.step (WO.alloc (cs := (encRel (Rel.mk 0 [])).toArray) zero99 rfl rfl fun b14 => ?_)
    refine WL.step (WO.storeBA (ds := (encRel (Rel.mk ((r11.1).length : Int) []))) (cs' := (encRel (Rel.mk ((r11.1).length : Int) []))) cells99 (.pl rfl) (.pl rfl) rfl (oneRel _) (i := 0) rfl (lel (o := 0) (l := 13) (m := 13) (by decide) rfl rfl) (putW rfl) ?_)
    refine WL.next hQ7 (.cons (i := 0) rfl (.cons (i := 1) rfl (.cons (i := 7) rfl (.cons (i := 9) rfl (.nil))))) ?_
    -- region 5: seq.go:74
    refine W.seqR fun Q8 hQ8 => ?_
    refine WL.q (Y.move (.pl rfl)) rfl ?_
    obtain ⟨r15, hr15, hF⟩ := bnd hF
    refine WL.step (WO.callM isGo77 (.cons (.pl rfl) (.nil)) rfl (fun w hw => seq_epochs_ok (hr15) w (hs9.mono hw)) ?_)
    rintro ⟨A16, c17⟩ -
    refine WL.q (Y.assign (.pl rfl)) rfl ?_
    refine WL.next hQ8 (.cons (i := 0) rfl (.cons (i := 7) rfl (.cons (i := 9) rfl (.cons (i := 10) rfl (.nil))))) ?_
    obtain ⟨o9, hF9, hF⟩ := bnd hF
    refine W.join1 (Em := fun (After18 : (List Int)) => []) (M := fun After18 => [cR encCall 7 A12 c13 55 r11.1, cBx b14 99 (encRel (Rel.mk ((r11.1).length : Int) After18))]) (I := fun After18 => After18 = o9) (.cons (i := 0) rfl (.cons (i := 7) rfl (.cons (i := 9) rfl (.nil)))) (fun K10 hK10 => ?_) ?_
    · -- up to
      -- region 6: seq.go:75
      refine W.seqR fun Q11 hQ11 => ?_
      refine WL.q (Y.move (.pl rfl)) rfl ?_
      refine WL.q (Y.len Try.underlying22 (.pl rfl)) rfl ?_
      refine WL.q (Y.move (.pl rfl)) rfl ?_
      refine WL.next hQ11 (.cons (i := 0) rfl (.cons (i := 7) rfl (.cons (i := 9) rfl (.cons (i := 10) rfl (.cons (i := 30) rfl (.cons (i := 31) rfl (.nil))))))) ?_
      refine W.block ?_
      refine W.loop2 (Em := fun (After19 : (List Int)) (v20 : Int) => [(31, .int .i64 v20)]) (M := fun After19 v20 => [cR encCall 7 A12 c13 55 r11.1, cBx b14 99 (encRel (Rel.mk ((r11.1).length : Int) After19)), cR (eI .i64) 1 A16 c17 3 r15]) (I := fun After19 v20 k12 => iter (seq_Quiet_L25 N r15) k12 (After19, v20) = some o9) [] 0 N (hF9) (.cons rfl (.nil)) (.cons (i := 0) rfl (.cons (i := 7) rfl (.cons (i := 9) rfl (.cons (i := 10) rfl (.cons (i := 30) rfl (.nil)))))) (fun w hw => hw.pick [2, 1, 0] rfl) (fun After19 v20 k12 hI K13 hK13 => ?_)
      obtain ⟨k12, t12, rfl, hF12, hN12⟩ := iter_step hI
      -- region 7: seq.go:75
      refine W.seqR fun Q14 hQ14 => ?_
      refine WL.q (Y.lss (.pl rfl) (.pl rfl)) rfl ?_
      refine WL.next hQ14 (.cons (i := 0) rfl (.cons (i := 7) rfl (.cons (i := 9) rfl (.cons (i := 10) rfl (.cons (i := 30) rfl (.cons (i := 31) rfl (.cons (i := 32) rfl (.nil)))))))) ?_
      refine W.seq fun K15 hK15 => ?_
      refine W.cond (.pl rfl) (fun hC16 => ?_) (fun hC16 => ?_)
      · replace hF12 := cpos hC16 hF12
        refine W.skip ?_
        refine W.go hK15 (.cons (i := 0) rfl (.cons (i := 7) rfl (.cons (i := 9) rfl (.cons (i := 10) rfl (.cons (i := 30) rfl (.cons (i := 31) rfl (.nil))))))) ?_
        obtain ⟨o17, hF17, hF12⟩ := bnd hF12
        refine W.join1 (Em := fun (After21 : (List Int)) => []) (M := fun After21 => [cR encCall 7 A12 c13 55 r11.1, cBx b14 99 (encRel (Rel.mk ((r11.1).length : Int) After21)), cR (eI .i64) 1 A16 c17 3 r15]) (I := fun After21 => After21 = o17) (.cons (i := 0) rfl (.cons (i := 7) rfl (.cons (i := 9) rfl (.cons (i := 10) rfl (.cons (i := 30) rfl (.cons (i := 31) rfl (.nil))))))) (fun K18 hK18 => ?_) ?_
        · -- up to
          refine W.block ?_
          -- region 8: seq.go:75
          refine W.seqR fun Q19 hQ19 => ?_
          refine WL.q (Y.move (.pl rfl)) rfl ?_
          refine WL.q (Y.assign (.pl rfl)) rfl ?_
          refine WL.next hQ19 (.cons (i := 0) rfl (.cons (i := 7) rfl (.cons (i := 9) rfl (.cons (i := 10) rfl (.cons (i := 11) rfl (.cons (i := 30) rfl (.cons (i := 31) rfl (.nil)))))))) ?_
          -- region 9: seq.go:76
          refine W.seqR fun Q20 hQ20 => ?_
          refine WL.q (Y.move (.pl rfl)) rfl ?_
          refine WL.q (Y.len Try.underlying22 (.pl rfl)) rfl ?_
          refine WL.q (Y.move (.pl rfl)) rfl ?_
          refine WL.next hQ20 (.cons (i := 0) rfl (.cons (i := 7) rfl (.cons (i := 9) rfl (.cons (i := 10) rfl (.cons (i := 11) rfl (.cons (i := 30) rfl (.cons (i := 31) rfl (.cons (i := 35) rfl (.cons (i := 36) rfl (.nil)))))))))) ?_
          refine W.block ?_
          refine W.loop2 (Em := fun (After22 : (List Int)) (v23 : Int) => [(36, .int .i64 v23)]) (M := fun After22 v23 => [cR encCall 7 A12 c13 55 r11.1, cBx b14 99 (encRel (Rel.mk ((r11.1).length : Int) After22)), cR (eI .i64) 1 A16 c17 3 r15]) (I := fun After22 v23 k21 => iter (seq_Quiet_L27 N r15 v20) k21 (After22, v23) = some o17) After19 0 N (hF17) (.cons rfl (.nil)) (.cons (i := 0) rfl (.cons (i := 7) rfl (.cons (i := 9) rfl (.cons (i := 10) rfl (.cons (i := 11) rfl (.cons (i := 30) rfl (.cons (i := 31) rfl (.cons (i := 35) rfl (.nil))))))))) (fun w hw => hw.pick [0, 1, 2] rfl) (fun After22 v23 k21 hI K22 hK22 => ?_)
          obtain ⟨k21, t21, rfl, hF21, hN21⟩ := iter_step hI
          -- region 10: seq.go:76
          refine W.seqR fun Q23 hQ23 => ?_
          refine WL.q (Y.lss (.pl rfl) (.pl rfl)) rfl ?_
          refine WL.next hQ23 (.cons (i := 0) rfl (.cons (i := 7) rfl (.cons (i := 9) rfl (.cons (i := 10) rfl (.cons (i := 11) rfl (.cons (i := 30) rfl (.cons (i := 31) rfl (.cons (i := 35) rfl (.cons (i := 36) rfl (.cons (i := 37) rfl (.nil))))))))))) ?_
          refine W.seq fun K24 hK24 => ?_
          refine W.cond (.pl rfl) (fun hC25 => ?_) (fun hC25 => ?_)
          · replace hF21 := cpos hC25 hF21
            refine W.skip ?_
            refine W.go hK24 (.cons (i := 0) rfl (.cons (i := 7) rfl (.cons (i := 9) rfl (.cons (i := 10) rfl (.cons (i := 11) rfl (.cons (i := 30) rfl (.cons (i := 31) rfl (.cons (i := 35) rfl (.cons (i := 36) rfl (.nil)))))))))) ?_
            refine W.seq fun K26 hK26 => ?_
            refine W.block ?_
            -- region 11: seq.go:76
            refine W.seqR fun Q27 hQ27 => ?_
            refine WL.q (Y.move (.pl rfl)) rfl ?_
            refine WL.q (Y.assign (.pl rfl)) rfl ?_
            refine WL.next hQ27 (.cons (i := 0) rfl (.cons (i := 7) rfl (.cons (i := 9) rfl (.cons (i := 10) rfl (.cons (i := 11) rfl (.cons (i := 12) rfl (.cons (i := 30) rfl (.cons (i := 31) rfl (.cons (i := 35) rfl (.cons (i := 36) rfl (.nil))))))))))) ?_
            -- region 12: seq.go:77
            refine W.seqD (by kernel_rfl) (by kernel_rfl) fun R28 hR28 => ?_
            refine WD.q (Y.move (.pl rfl)) rfl ?_
            refine WD.q (Y.move (.pl rfl)) rfl ?_
            obtain ⟨x24, hx24, hF21⟩ := bnd hF21
            refine WD.q (Y.rowEl Try.underlying22 cells3 (i := 2) rfl (.pl rfl) rfl (.pl rfl) (ix_lt (hx24))) rfl ?_
            refine WD.q (Y.loadR (enc := (eI .i64)) (v := .int .i64 x24) (a := x24) (idx := v20) (j := 0) Try.underlying3 rfl (fun _ => rfl) (i := 2) rfl (.pl rfl) (ix_get (hx24)) rfl rfl) rfl ?_
            refine WD.q (Y.move (.pl rfl)) rfl ?_
            refine WD.q (Y.move (.pl rfl)) rfl ?_
            obtain ⟨x25, hx25, hF21⟩ := bnd hF21
            refine WD.q (Y.rowEl Try.underlying22 cells3 (i := 2) rfl (.pl rfl) rfl (.pl rfl) (ix_lt (hx25))) rfl ?_
            refine WD.q (Y.loadR (enc := (eI .i64)) (v := .int .i64 x25) (a := x25) (idx := v23) (j := 0) Try.underlying3 rfl (fun _ => rfl) (i := 2) rfl (.pl rfl) (ix_get (hx25)) rfl rfl) rfl ?_
            refine WD.q (Y.lss (.pl rfl) (.pl rfl)) rfl ?_
            refine WD.next hR28 (.cons (i := 0) rfl (.cons (i := 7) rfl (.cons (i := 9) rfl (.cons (i := 10) rfl (.cons (i := 11) rfl (.cons (i := 12) rfl (.cons (i := 30) rfl (.cons (i := 31) rfl (.cons (i := 35) rfl (.cons (i := 36) rfl (.cons (i := 47) rfl (.nil)))))))))))) ?_
            refine W.cond (.pl rfl) (fun hC29 => ?_) (fun hC29 => ?_)
            · replace hF21 := cpos hC29 hF21
              -- region 13: seq.go:78
              refine W.reg ?_
              refine WL.q (Y.move (.pl rfl)) rfl ?_
              refine WL.q (Y.fieldAddr0 (off := 1) (ft := 97) Try.underlying99 rfl cells97 (.pl rfl)) rfl ?_
              obtain ⟨x26, hx26, hF21⟩ := bnd hF21
              refine WL.q (Y.arrZ Try.underlying97 cells96 (.pl rfl) (.pl rfl) (ax_lt (hx26))) rfl ?_
              refine WL.q (Y.loadB (v := .int .u16 x26) Try.underlying96 rfl (.pl rfl) (i := 1) rfl (cellsA (pre := (Value.int .i64 ((r11.1).length : Int) :: [])) (off := 1) (post := []) (a := After22) (enc := (eI .u16)) (d := 0) (n := 12) (sz := 1) (j := 0) (fun _ => rfl) rfl (ax_nat (hx26)) (ax_get (hx26)) rfl)) rfl ?_
              refine WL.q (Y.move (.pl rfl)) rfl ?_
              refine WL.q (Y.conv Try.underlying3 Try.underlying113 (.pl rfl)) rfl ?_
              refine WL.q (Y.shl (.pl rfl) (.pl rfl) (wrapU_nn rfl _)) rfl ?_
              refine WL.q (Y.bor (.pl rfl) (.pl rfl)) rfl ?_
              refine WL.q (Y.fieldAddr0 (off := 1) (ft := 97) Try.underlying99 rfl cells97 (.pl rfl)) rfl ?_
              obtain ⟨x27, hx27, hF21⟩ := bnd hF21
              refine WL.q (Y.arrZ Try.underlying97 cells96 (.pl rfl) (.pl rfl) (ax_lt (hx27))) rfl ?_
              refine WL.step (WO.storeB (cs' := (encRel (Rel.mk ((r11.1).length : Int) (setA 12 0 After22 v20 (borI .u16 x26 (shlI .u16 1 (IntKind.u64.wrap v23))))))) cells96 (.pl rfl) (.pl rfl) rfl (i := 1) rfl (ltl (m := 13) (offlt (off := 1) (sz := 1) (j := 0) (ax_nat (hx27)) (by decide)) rfl) (cellsSet (pre := (Value.int .i64 ((r11.1).length : Int) :: [])) (off := 1) (post := []) (a := After22) (enc := (eI .u16)) (d := 0) (n := 12) (sz := 1) (j := 0) (x := x27) (x' := (borI .u16 x26 (shlI .u16 1 (IntKind.u64.wrap v23)))) (fun _ => rfl) rfl (ax_lt (hx27)) (ax_get (hx27)) (by decide) rfl rfl) ?_)
              refine WL.nil ?_
              refine W.go hK26 (.cons (i := 0) rfl (.cons (i := 7) rfl (.cons (i := 9) rfl (.cons (i := 10) rfl (.cons (i := 11) rfl (.cons (i := 30) rfl (.cons (i := 31) rfl (.cons (i := 35) rfl (.cons (i := 36) rfl (.nil)))))))))) ?_
              -- region 14: seq.go:76
              refine W.reg ?_
              obtain ⟨hk28, hF21⟩ := ckh hF21
              refine WL.q (Y.add (.pl rfl) (.pl rfl) (ok64_lt (hk28))) rfl ?_
              refine WL.q (Y.move (.pl rfl)) rfl ?_
              refine WL.nil ?_
              obtain rfl := Option.some.inj hF21
              exact W.again2 hK22 (setA 12 0 After22 v20 (borI .u16 x26 (shlI .u16 1 (IntKind.u64.wrap v23)))) (v23 + 1) k21 hN21 (Nat.lt_succ_self _) (.cons rfl (.nil)) (.cons (i := 0) rfl (.cons (i := 7) rfl (.cons (i := 9) rfl (.cons (i := 10) rfl (.cons (i := 11) rfl (.cons (i := 30) rfl (.cons (i := 31) rfl (.cons (i := 35) rfl (.nil))))))))) (fun w hw => hw.pick [0, 1, 2] rfl)
            · replace hF21 := cneg hC29 hF21
              refine W.skip ?_
              refine W.go hK26 (.cons (i := 0) rfl (.cons (i := 7) rfl (.cons (i := 9) rfl (.cons (i := 10) rfl (.cons (i := 11) rfl (.cons (i := 30) rfl (.cons (i := 31) rfl (.cons (i := 35) rfl (.cons (i := 36) rfl (.nil)))))))))) ?_
              -- region 14: seq.go:76
              refine W.reg ?_
              obtain ⟨hk29, hF21⟩ := ckh hF21
              refine WL.q (Y.add (.pl rfl) (.pl rfl) (ok64_lt (hk29))) rfl ?_
              refine WL.q (Y.move (.pl rfl)) rfl ?_
              refine WL.nil ?_
              obtain rfl := Option.some.inj hF21
              exact W.again2 hK22 After22 (v23 + 1) k21 hN21 (Nat.lt_succ_self _) (.cons rfl (.nil)) (.cons (i := 0) rfl (.cons (i := 7) rfl (.cons (i := 9) rfl (.cons (i := 10) rfl (.cons (i := 11) rfl (.cons (i := 30) rfl (.cons (i := 31) rfl (.cons (i := 35) rfl (.nil))))))))) (fun w hw => hw.pick [0, 1, 2] rfl)
          · replace hF21 := cneg hC25 hF21
            refine W.exit ?_
            obtain rfl := Option.some.inj hF21
            exact W.joinAt1 hK18 After22 (einr hN21) (.nil) (.cons (i := 0) rfl (.cons (i := 7) rfl (.cons (i := 9) rfl (.cons (i := 10) rfl (.cons (i := 30) rfl (.cons (i := 31) rfl (.nil))))))) (fun w hw => hw.pick [0, 1, 2] rfl)
        · -- behind
          rintro After21 rfl
          -- region 15: seq.go:75
          refine W.reg ?_
          obtain ⟨hk30, hF12⟩ := ckh hF12
          refine WL.q (Y.add (.pl rfl) (.pl rfl) (ok64_lt (hk30))) rfl ?_
          refine WL.q (Y.move (.pl rfl)) rfl ?_
          refine WL.nil ?_
          obtain rfl := Option.some.inj hF12
          exact W.again2 hK13 After21 (v20 + 1) k12 hN12 (Nat.lt_succ_self _) (.cons rfl (.nil)) (.cons (i := 0) rfl (.cons (i := 7) rfl (.cons (i := 9) rfl (.cons (i := 10) rfl (.cons (i := 30) rfl (.nil)))))) (fun w hw => hw.pick [0, 1, 2] rfl)
      · replace hF12 := cneg hC16 hF12
        refine W.exit ?_
        obtain rfl := Option.some.inj hF12
        exact W.joinAt1 hK10 After19 (einr hN12) (.nil) (.cons (i := 0) rfl (.cons (i := 7) rfl (.cons (i := 9) rfl (.nil)))) (fun w hw => hw.pick [0, 1] rfl)
    · -- behind
      rintro After18 rfl
      -- region 16: seq.go:82
      refine W.seqR fun Q34 hQ34 => ?_
      refine WL.q (Y.move (.pl rfl)) rfl ?_
      refine WL.q (Y.move (.pl rfl)) rfl ?_
      refine WL.q (Y.loadBA (ds := (encRel (Rel.mk ((r11.1).length : Int) After18))) Try.underlying99 rfl cells99 (.pl rfl) (i := 1) rfl rfl subW) rfl ?_
      obtain ⟨r31, hr31, hF⟩ := bnd hF
      refine WL.step (WO.callM isGo70 (.cons (.pl rfl) (.cons (.pl rfl) (.cons (.pl rfl) (.nil)))) rfl (fun w hw => search_Smallest_ok (hr31) w (hs4.mono hw) (SlIn.ofRow lenCall hw (i := 0) rfl)) ?_)
      rintro ⟨A32, c33⟩ -
      refine WL.q (Y.move (.pl rfl)) rfl ?_
      refine WL.q (Y.extract (.pl rfl) rfl) rfl ?_
      refine WL.q (Y.extract (.pl rfl) rfl) rfl ?_
      refine WL.q (Y.assign (.pl rfl)) rfl ?_
      refine WL.q (Y.assign (.pl rfl)) rfl ?_
      refine WL.next hQ34 (.cons (i := 13) rfl (.cons (i := 14) rfl (.nil))) ?_
      -- region 17: seq.go:83
      refine W.seqR fun Q35 hQ35 => ?_
      refine WL.q (Y.move (.pl rfl)) rfl ?_
      refine WL.q (Y.move (.pl rfl)) rfl ?_
      refine WL.q (Y.assign (.pl rfl)) rfl ?_
      refine WL.q (Y.assign (.pl rfl)) rfl ?_
      refine WL.q (Y.assign (.pl rfl)) rfl ?_
      refine WL.next hQ35 (.cons (i := 4) rfl (.cons (i := 5) rfl (.cons (i := 6) rfl (.nil)))) ?_
      obtain rfl := Option.some.inj hF
      refine W.retV (fn := Try.f48) (vs := [.slice A32 (r31.1).length c33, .bool r31.2, .int .i64 0]) Try.results48 ⟨.tmp rfl, ⟨.tmp rfl, ⟨.tmp rfl, trivial⟩⟩⟩ (fun _ _ h => h) (fun w hw => ?_)
      exact hR _ _ ⟨(A32, c33), trivial, rfl, (hw.pick [0] rfl)⟩

def seq_Right (N : Nat) (types1 : (List Int)) (l6 : (List Event)) (w11 : (List Step)) : Option (Bool × Int) :=
  bd (search_Calls N types1 l6) fun (r16 : ((List Call) × Int)) =>
  cond (!(decide (r16.2 = 0)))
    (some (false, r16.2))
    (bd (seq_programs N r16.1) fun (r19 : (List Int)) =>
    bd (search_Valid N types1 r16.1 (Rel.mk ((r16.1).length : Int) r19) w11) fun (r20 : Bool) =>
    some (r20, 0))

theorem seq_Right_ok {N : Nat} {types1 : (List Int)} {l6 : (List Event)} {w11 : (List Step)} {res : (Bool × Int)} (hF : seq_Right N types1 l6 w11 = some res) (w : World) {v5 : Value} (hs4 : SlIn (eI .i64) 1 w v5 types1) {v10 : Value} (hs9 : SlIn encEvent 4 w v10 l6) {v15 : Value} (hs14 : SlIn encStep 2 w v15 w11) :
    Pure Try.prog 50 [v5, v10, v15] w (.tuple #[.bool res.1, .int .i64 res.2]) := by
  obtain ⟨A2, c3, rfl, hcc3, hs4⟩ := hs4.form
  obtain ⟨A7, c8, rfl, hcc8, hs9⟩ := hs9.form
  obtain ⟨A12, c13, rfl, hcc13, hs14⟩ := hs14.form
  refine W.enter (n := 25) Try.func50 rfl rfl Sub.refl (by simp) (St.start w) fun R hR => ?_
  unfold seq_Right at hF
  -- region 0: seq.go:23
  refine W.seqR fun Q1 hQ1 => ?_
  refine WL.q (Y.assign (.pl rfl)) rfl ?_
  refine WL.q (Y.assign (.pl rfl)) rfl ?_
  refine WL.next hQ1 (.cons (i := 0) rfl (.cons (i := 1) rfl (.cons (i := 2) rfl (.nil)))) ?_
  -- region 1: seq.go:24
  refine W.seqR fun Q2 hQ2 => ?_
  refine WL.q (Y.move (.pl rfl)) rfl ?_
  refine WL.q (Y.move (.pl rfl)) rfl ?_
  obtain ⟨r16, hr16, hF⟩ := bnd hF
  refine WL.step (WO.callM isGo68 (.cons (.pl rfl) (.cons (.pl rfl) (.nil))) rfl (fun w hw => search_Calls_ok (hr16) w (hs4.mono hw) (hs9.mono hw)) ?_)
  rintro ⟨A17, c18⟩ -
  refine WL.q (Y.move (.pl rfl)) rfl ?_
  refine WL.q (Y.extract (.pl rfl) rfl) rfl ?_
  refine WL.q (Y.extract (.pl rfl) rfl) rfl ?_
  refine WL.q (Y.assign (.pl rfl)) rfl ?_
  refine WL.q (Y.assign (.pl rfl)) rfl ?_
  refine WL.next hQ2 (.cons (i := 0) rfl (.cons (i := 2) rfl (.cons (i := 8) rfl (.cons (i := 9) rfl (.nil))))) ?_
  refine W.seq fun K3 hK3 => ?_
  -- region 2: seq.go:25
  refine W.seqR fun Q4 hQ4 => ?_
  refine WL.q (Y.move (.pl rfl)) rfl ?_
  refine WL.q (Y.neq (.pl rfl) (.pl rfl)) rfl ?_
  refine WL.next hQ4 (.cons (i := 0) rfl (.cons (i := 2) rfl (.cons (i := 8) rfl (.cons (i := 9) rfl (.cons (i := 17) rfl (.nil)))))) ?_
  refine W.cond (.pl rfl) (fun hC5 => ?_) (fun hC5 => ?_)
  · replace hF := cpos hC5 hF
    -- region 3: seq.go:26
    refine W.seqR fun Q6 hQ6 => ?_
    refine WL.q (Y.move (.pl rfl)) rfl ?_
    refine WL.q (Y.assign (.pl rfl)) rfl ?_
    refine WL.q (Y.assign (.pl rfl)) rfl ?_
    refine WL.next hQ6 (.cons (i := 6) rfl (.cons (i := 7) rfl (.nil))) ?_
    obtain rfl := Option.some.inj hF
    refine W.retV (fn := Try.f50) (vs := [.bool false, .int .i64 r16.2]) Try.results50 ⟨.tmp rfl, ⟨.tmp rfl, trivial⟩⟩ (fun _ _ h => h) (fun w hw => ?_)
    exact hR _ _ ⟨rfl, (hw.pick [] rfl)⟩
  · replace hF := cneg hC5 hF
    refine W.skip ?_
    refine W.go hK3 (.cons (i := 0) rfl (.cons (i := 2) rfl (.cons (i := 8) rfl (.nil)))) ?_
    -- region 4: seq.go:28
    refine W.seqR fun Q7 hQ7 => ?_
    refine WL.q (Y.move (.pl rfl)) rfl ?_
    refine WL.q (Y.move (.pl rfl)) rfl ?_
    refine WL.q (Y.move (.pl rfl)) rfl ?_
    obtain ⟨r19, hr19, hF⟩ := bnd hF
    refine WL.step (WO.callP isGo75 (.cons (.pl rfl) (.nil)) rfl (fun w hw => seq_programs_ok (hr19) w (SlIn.ofRow lenCall hw (i := 0) rfl)) ?_)
    refine WL.q (Y.move (.pl rfl)) rfl ?_
    obtain ⟨r20, hr20, hF⟩ := bnd hF
    refine WL.step (WO.callP isGo74 (.cons (.pl rfl) (.cons (.pl rfl) (.cons (.pl rfl) (.cons (.pl rfl) (.nil))))) rfl (fun w hw => search_Valid_ok (hr20) w (hs4.mono hw) (SlIn.ofRow lenCall hw (i := 0) rfl) (hs14.mono hw)) ?_)
    refine WL.q (Y.assign (.pl rfl)) rfl ?_
    refine WL.q (Y.assign (.pl rfl)) rfl ?_
    refine WL.next hQ7 (.cons (i := 6) rfl (.cons (i := 7) rfl (.nil))) ?_
    obtain rfl := Option.some.inj hF
    refine W.retV (fn := Try.f50) (vs := [.bool r20, .int .i64 0]) Try.results50 ⟨.tmp rfl, ⟨.tmp rfl, trivial⟩⟩ (fun _ _ h => h) (fun w hw => ?_)
    exact hR _ _ ⟨rfl, (hw.pick [] rfl)⟩

def alibkeep_late (N : Nat) : Option Unit :=
  some ()

theorem alibkeep_late_ok {N : Nat} {res : Unit} (hF : alibkeep_late N = some res) (w : World) :
    Made Try.prog 76 [] w (fun g : Option Addr => .slice g (([(Event.mk 0 0 1 5), (Event.mk 0 0 0 0), (Event.mk 1 0 2 0), (Event.mk 1 0 0 0)] : List Event)).length (([(Event.mk 0 0 1 5), (Event.mk 0 0 0 0), (Event.mk 1 0 2 0), (Event.mk 1 0 0 0)] : List Event)).length) (fun g => [cR encEvent 4 g (([(Event.mk 0 0 1 5), (Event.mk 0 0 0 0), (Event.mk 1 0 2 0), (Event.mk 1 0 0 0)] : List Event)).length 49 ([(Event.mk 0 0 1 5), (Event.mk 0 0 0 0), (Event.mk 1 0 2 0), (Event.mk 1 0 0 0)] : List Event)]) (fun _ => True) := by
  refine W.enter (n := 6) Try.func76 rfl rfl Sub.refl (by simp) (St.start w) fun R hR => ?_
  unfold alibkeep_late at hF
  -- region 0: seq.go:29
  refine W.seqR fun Q1 hQ1 => ?_
  refine WL.q (Y.assign (.pl rfl)) rfl ?_
  refine WL.next hQ1 (.nil) ?_
  -- region 1: seq.go:30
  refine W.seqR fun Q2 hQ2 => ?_
  refine WL.q (Y.build (cs := (encEvent (Event.mk 0 0 1 5)).toArray) shape49 (.cons (.pl rfl) (.cons (.pl rfl) (.cons (.pl rfl) (.nil)))) (one_parts ⟨rfl, ⟨rfl, ⟨rfl, trivial⟩⟩⟩) rfl) rfl ?_
  refine WL.q (Y.build (cs := (encEvent (Event.mk 0 0 0 0)).toArray) shape49 (.cons (.pl rfl) (.nil)) (one_parts ⟨rfl, trivial⟩) rfl) rfl ?_
  refine WL.q (Y.build (cs := (encEvent (Event.mk 1 0 2 0)).toArray) shape49 (.cons (.pl rfl) (.cons (.pl rfl) (.nil))) (one_parts ⟨rfl, ⟨rfl, trivial⟩⟩) rfl) rfl ?_
  refine WL.q (Y.build (cs := (encEvent (Event.mk 1 0 0 0)).toArray) shape49 (.cons (.pl rfl) (.cons (.pl rfl) (.nil))) (one_parts ⟨rfl, ⟨rfl, trivial⟩⟩) rfl) rfl ?_
  refine WL.step (WO.bsliceC (enc := encEvent) (ys := ([(Event.mk 0 0 1 5), (Event.mk 0 0 0 0), (Event.mk 1 0 2 0), (Event.mk 1 0 0 0)] : List Event)) Try.underlying43 bz49 (.cons (.pl rfl) (.cons (.pl rfl) (.cons (.pl rfl) (.cons (.pl rfl) (.nil))))) rfl lenEvent rfl rfl (by decide) (by decide) rfl fun b1 => ?_)
  refine WL.q (Y.assign (.pl rfl)) rfl ?_
  refine WL.next hQ2 (.cons (i := 0) rfl (.nil)) ?_
  obtain rfl := Option.some.inj hF
  refine W.retV (fn := Try.f76) (vs := [.slice (some ⟨b1, 0, none⟩) (([(Event.mk 0 0 1 5), (Event.mk 0 0 0 0), (Event.mk 1 0 2 0), (Event.mk 1 0 0 0)] : List Event)).length (([(Event.mk 0 0 1 5), (Event.mk 0 0 0 0), (Event.mk 1 0 2 0), (Event.mk 1 0 0 0)] : List Event)).length]) Try.results76 ⟨.tmp rfl, trivial⟩ (fun _ _ h => h) (fun w hw => ?_)
  exact hR _ _ ⟨(some ⟨b1, 0, none⟩), trivial, rfl, (hw.pick [0] rfl)⟩

def seq_Calm (N : Nat) (types1 : (List Int)) (l6 : (List Event)) : Option ((List Int) × Int) :=
  bd (search_Calls N types1 l6) fun (r11 : ((List Call) × Int)) =>
  cond (!(decide (r11.2 = 0)))
    (some ([], r11.2))
    (bd (seq_epochs N l6) fun (r14 : (List Int)) =>
    some (r14, 0))

theorem seq_Calm_ok {N : Nat} {types1 : (List Int)} {l6 : (List Event)} {res : ((List Int) × Int)} (hF : seq_Calm N types1 l6 = some res) (w : World) {v5 : Value} (hs4 : SlIn (eI .i64) 1 w v5 types1) {v10 : Value} (hs9 : SlIn encEvent 4 w v10 l6) :
    Made Try.prog 49 [v5, v10] w (fun g : (Option Addr × Nat) => .tuple #[.slice g.1 (res.1).length g.2, .int .i64 res.2]) (fun g => [cR (eI .i64) 1 g.1 g.2 3 res.1]) (fun _ => True) := by
  obtain ⟨A2, c3, rfl, hcc3, hs4⟩ := hs4.form
  obtain ⟨A7, c8, rfl, hcc8, hs9⟩ := hs9.form
  refine W.enter (n := 19) Try.func49 rfl rfl Sub.refl (by simp) (St.start w) fun R hR => ?_
  unfold seq_Calm at hF
  -- region 0: seq.go:60
  refine W.seqR fun Q1 hQ1 => ?_
  refine WL.q (Y.assign (.pl rfl)) rfl ?_
  refine WL.q (Y.assign (.pl rfl)) rfl ?_
  refine WL.next hQ1 (.cons (i := 0) rfl (.cons (i := 1) rfl (.nil))) ?_
  refine W.seq fun K2 hK2 => ?_
  -- region 1: seq.go:61
  refine W.seqR fun Q3 hQ3 => ?_
  refine WL.q (Y.move (.pl rfl)) rfl ?_
  refine WL.q (Y.move (.pl rfl)) rfl ?_
  obtain ⟨r11, hr11, hF⟩ := bnd hF
  refine WL.step (WO.callM isGo68 (.cons (.pl rfl) (.cons (.pl rfl) (.nil))) rfl (fun w hw => search_Calls_ok (hr11) w (hs4.mono hw) (hs9.mono hw)) ?_)
  rintro ⟨A12, c13⟩ -
  refine WL.q (Y.move (.pl rfl)) rfl ?_
  refine WL.q (Y.extract (.pl rfl) rfl) rfl ?_
  refine WL.q (Y.extract (.pl rfl) rfl) rfl ?_
  refine WL.q (Y.assign (.pl rfl)) rfl ?_
  refine WL.q (Y.assign (.pl rfl)) rfl ?_
  refine WL.next hQ3 (.cons (i := 1) rfl (.cons (i := 7) rfl (.nil))) ?_
  -- region 2: seq.go:61
  refine W.seqR fun Q4 hQ4 => ?_
  refine WL.q (Y.move (.pl rfl)) rfl ?_
  refine WL.q (Y.neq (.pl rfl) (.pl rfl)) rfl ?_
  refine WL.next hQ4 (.cons (i := 1) rfl (.cons (i := 7) rfl (.cons (i := 15) rfl (.nil)))) ?_
  refine W.cond (.pl rfl) (fun hC5 => ?_) (fun hC5 => ?_)
  · replace hF := cpos hC5 hF
    -- region 3: seq.go:62
    refine W.seqR fun Q6 hQ6 => ?_
    refine WL.q (Y.move (.pl rfl)) rfl ?_
    refine WL.q (Y.assign (.pl rfl)) rfl ?_
    refine WL.q (Y.assign (.pl rfl)) rfl ?_
    refine WL.next hQ6 (.cons (i := 4) rfl (.cons (i := 5) rfl (.nil))) ?_
    obtain rfl := Option.some.inj hF
    refine W.retV (fn := Try.f49) (vs := [.slice none 0 0, .int .i64 r11.2]) Try.results49 ⟨.tmp rfl, ⟨.tmp rfl, trivial⟩⟩ (fun _ _ h => h) (fun w hw => ?_)
    exact hR _ _ ⟨(none, 0), trivial, rfl, ((St.nilR (hw.pick [] rfl) (eI .i64) 1 3).pick [0] rfl)⟩
  · replace hF := cneg hC5 hF
    refine W.skip ?_
    refine W.go hK2 (.cons (i := 1) rfl (.nil)) ?_
    -- region 4: seq.go:64
    refine W.seqR fun Q7 hQ7 => ?_
    refine WL.q (Y.move (.pl rfl)) rfl ?_
    obtain ⟨r14, hr14, hF⟩ := bnd hF
    refine WL.step (WO.callM isGo77 (.cons (.pl rfl) (.nil)) rfl (fun w hw => seq_epochs_ok (hr14) w (hs9.mono hw)) ?_)
    rintro ⟨A15, c16⟩ -
    refine WL.q (Y.assign (.pl rfl)) rfl ?_
    refine WL.q (Y.assign (.pl rfl)) rfl ?_
    refine WL.next hQ7 (.cons (i := 4) rfl (.cons (i := 5) rfl (.nil))) ?_
    obtain rfl := Option.some.inj hF
    refine W.retV (fn := Try.f49) (vs := [.slice A15 (r14).length c16, .int .i64 0]) Try.results49 ⟨.tmp rfl, ⟨.tmp rfl, trivial⟩⟩ (fun _ _ h => h) (fun w hw => ?_)
    exact hR _ _ ⟨(A15, c16), trivial, rfl, (hw.pick [0] rfl)⟩

def slices_Equal_int_int_L3 (N : Nat) (s11 : (List Int)) (s26 : (List Int)) : Int → Option (Int ⊕ (Unit ⊕ Bool))
  | v11 =>
    cond (decide (v11 < ((s11).length : Int)))
      (bd (ix s11 v11) fun (x12 : Int) =>
      bd (ix s26 v11) fun (x13 : Int) =>
      cond (!(decide (x12 = x13)))
        (some (.inr (.inr false)))
        (ck (ok64 (v11 + 1)) <|
        some (.inl (v11 + 1))))
      (some (.inr (.inl ())))

def slices_Equal_int_int (N : Nat) (s11 : (List Int)) (s26 : (List Int)) : Option Bool :=
  cond (!(decide (((s11).length : Int) = ((s26).length : Int))))
    (some false)
    (bd (α := (Unit ⊕ Bool)) (iter (slices_Equal_int_int_L3 N s11 s26) N 0) <|
    Sum.elim (fun _ => 
      some true) (fun p => some p))

theorem slices_Equal_int_int_ok {N : Nat} {s11 : (List Int)} {s26 : (List Int)} {res : Bool} (hF : slices_Equal_int_int N s11 s26 = some res) (w : World) {v5 : Value} (hs4 : SlIn (eI .i64) 1 w v5 s11) {v10 : Value} (hs9 : SlIn (eI .i64) 1 w v10 s26) :
    Pure Try.prog 31 [v5, v10] w (.bool res) := by
  obtain ⟨A2, c3, rfl, hcc3, hs4⟩ := hs4.form
  obtain ⟨A7, c8, rfl, hcc8, hs9⟩ := hs9.form
  refine W.enter (n := 26) Try.func31 rfl rfl Sub.refl (by simp) (St.start w) fun R hR => ?_
  unfold slices_Equal_int_int at hF
  -- region 0: slices.go:20
  refine W.seqR fun Q1 hQ1 => ?_
  refine WL.q (Y.assign (.pl rfl)) rfl ?_
  refine WL.next hQ1 (.cons (i := 0) rfl (.cons (i := 1) rfl (.nil))) ?_
  refine W.seq fun K2 hK2 => ?_
  -- region 1: slices.go:21
  refine W.seqR fun Q3 hQ3 => ?_
  refine WL.q (Y.move (.pl rfl)) rfl ?_
  refine WL.q (Y.len Try.underlying22 (.pl rfl)) rfl ?_
  refine WL.q (Y.move (.pl rfl)) rfl ?_
  refine WL.q (Y.len Try.underlying22 (.pl rfl)) rfl ?_
  refine WL.q (Y.neq (.pl rfl) (.pl rfl)) rfl ?_
  refine WL.next hQ3 (.cons (i := 0) rfl (.cons (i := 1) rfl (.cons (i := 10) rfl (.nil)))) ?_
  refine W.cond (.pl rfl) (fun hC4 => ?_) (fun hC4 => ?_)
  · replace hF := cpos hC4 hF
    -- region 2: slices.go:22
    refine W.seqR fun Q5 hQ5 => ?_
    refine WL.q (Y.assign (.pl rfl)) rfl ?_
    refine WL.next hQ5 (.cons (i := 4) rfl (.nil)) ?_
    obtain rfl := Option.some.inj hF
    refine W.retV (fn := Try.f31) (vs := [.bool false]) Try.results31 ⟨.tmp rfl, trivial⟩ (fun _ _ h => h) (fun w hw => ?_)
    exact hR _ _ ⟨rfl, (hw.pick [] rfl)⟩
  · replace hF := cneg hC4 hF
    refine W.skip ?_
    refine W.go hK2 (.cons (i := 0) rfl (.cons (i := 1) rfl (.nil))) ?_
    obtain ⟨o6, hF6, hF⟩ := bnd hF
    refine W.join0 (Em := []) (M := []) (I := (.inl ()) = o6) (.nil) (fun K7 hK7 => ?_) ?_
    · -- up to
      -- region 3: slices.go:24
      refine W.seqR fun Q8 hQ8 => ?_
      refine WL.q (Y.move (.pl rfl)) rfl ?_
      refine WL.q (Y.len Try.underlying22 (.pl rfl)) rfl ?_
      refine WL.q (Y.move (.pl rfl)) rfl ?_
      refine WL.next hQ8 (.cons (i := 0) rfl (.cons (i := 1) rfl (.cons (i := 12) rfl (.cons (i := 13) rfl (.nil))))) ?_
      refine W.block ?_
      refine W.loop1 (Em := fun (v11 : Int) => [(13, .int .i64 v11)]) (M := fun v11 => []) (I := fun v11 k9 => iter (slices_Equal_int_int_L3 N s11 s26) k9 v11 = some o6) 0 N (hF6) (.cons rfl (.nil)) (.cons (i := 0) rfl (.cons (i := 1) rfl (.cons (i := 12) rfl (.nil)))) (fun w hw => hw.pick [] rfl) (fun v11 k9 hI K10 hK10 => ?_)
      obtain ⟨k9, t9, rfl, hF9, hN9⟩ := iter_step hI
      -- region 4: slices.go:24
      refine W.seqR fun Q11 hQ11 => ?_
      refine WL.q (Y.lss (.pl rfl) (.pl rfl)) rfl ?_
      refine WL.next hQ11 (.cons (i := 0) rfl (.cons (i := 1) rfl (.cons (i := 12) rfl (.cons (i := 13) rfl (.cons (i := 14) rfl (.nil)))))) ?_
      refine W.seq fun K12 hK12 => ?_
      refine W.cond (.pl rfl) (fun hC13 => ?_) (fun hC13 => ?_)
      · replace hF9 := cpos hC13 hF9
        refine W.skip ?_
        refine W.go hK12 (.cons (i := 0) rfl (.cons (i := 1) rfl (.cons (i := 12) rfl (.cons (i := 13) rfl (.nil))))) ?_
        refine W.seq fun K14 hK14 => ?_
        refine W.block ?_
        -- region 5: slices.go:24
        refine W.seqR fun Q15 hQ15 => ?_
        refine WL.q (Y.move (.pl rfl)) rfl ?_
        refine WL.q (Y.assign (.pl rfl)) rfl ?_
        refine WL.next hQ15 (.cons (i := 0) rfl (.cons (i := 1) rfl (.cons (i := 5) rfl (.cons (i := 12) rfl (.cons (i := 13) rfl (.nil)))))) ?_
        -- region 6: slices.go:25
        refine W.seqD (by kernel_rfl) (by kernel_rfl) fun R16 hR16 => ?_
        refine WD.q (Y.move (.pl rfl)) rfl ?_
        refine WD.q (Y.move (.pl rfl)) rfl ?_
        obtain ⟨x12, hx12, hF9⟩ := bnd hF9
        refine WD.q (Y.slEl Try.underlying22 cells3 hs4 (.pl rfl) (.pl rfl) (ix_lt (hx12))) rfl ?_
        refine WD.q (Y.loadS (enc := (eI .i64)) (v := .int .i64 x12) (j := 0) Try.underlying3 rfl hs4 (.pl rfl) (hx12) rfl rfl) rfl ?_
        refine WD.q (Y.move (.pl rfl)) rfl ?_
        refine WD.q (Y.move (.pl rfl)) rfl ?_
        obtain ⟨x13, hx13, hF9⟩ := bnd hF9
        refine WD.q (Y.slEl Try.underlying22 cells3 hs9 (.pl rfl) (.pl rfl) (ix_lt (hx13))) rfl ?_
        refine WD.q (Y.loadS (enc := (eI .i64)) (v := .int .i64 x13) (j := 0) Try.underlying3 rfl hs9 (.pl rfl) (hx13) rfl rfl) rfl ?_
        refine WD.q (Y.neq (.pl rfl) (.pl rfl)) rfl ?_
        refine WD.next hR16 (.cons (i := 0) rfl (.cons (i := 1) rfl (.cons (i := 12) rfl (.cons (i := 13) rfl (.cons (i := 24) rfl (.nil)))))) ?_
        refine W.cond (.pl rfl) (fun hC17 => ?_) (fun hC17 => ?_)
        · replace hF9 := cpos hC17 hF9
          -- region 7: slices.go:26
          refine W.seqR fun Q18 hQ18 => ?_
          refine WL.q (Y.assign (.pl rfl)) rfl ?_
          refine WL.next hQ18 (.cons (i := 4) rfl (.nil)) ?_
          obtain rfl := Option.some.inj hF9
          obtain rfl := einr hN9
          obtain rfl := Option.some.inj hF
          refine W.retV (fn := Try.f31) (vs := [.bool false]) Try.results31 ⟨.tmp rfl, trivial⟩ (fun _ _ h => h) (fun w hw => ?_)
          exact hR _ _ ⟨rfl, (hw.pick [] rfl)⟩
        · replace hF9 := cneg hC17 hF9
          refine W.skip ?_
          refine W.go hK14 (.cons (i := 0) rfl (.cons (i := 1) rfl (.cons (i := 12) rfl (.cons (i := 13) rfl (.nil))))) ?_
          -- region 8: slices.go:24
          refine W.reg ?_
          obtain ⟨hk14, hF9⟩ := ckh hF9
          refine WL.q (Y.add (.pl rfl) (.pl rfl) (ok64_lt (hk14))) rfl ?_
          refine WL.q (Y.move (.pl rfl)) rfl ?_
          refine WL.nil ?_
          obtain rfl := Option.some.inj hF9
          exact W.again1 hK10 (v11 + 1) k9 hN9 (Nat.lt_succ_self _) (.cons rfl (.nil)) (.cons (i := 0) rfl (.cons (i := 1) rfl (.cons (i := 12) rfl (.nil)))) (fun w hw => hw.pick [] rfl)
      · replace hF9 := cneg hC13 hF9
        refine W.exit ?_
        obtain rfl := Option.some.inj hF9
        exact W.joinAt0 hK7  (einr hN9) (.nil) (.nil) (fun w hw => hw.pick [] rfl)
    · -- behind
      rintro  rfl
      -- region 9: slices.go:29
      refine W.seqR fun Q20 hQ20 => ?_
      refine WL.q (Y.assign (.pl rfl)) rfl ?_
      refine WL.next hQ20 (.cons (i := 4) rfl (.nil)) ?_
      obtain rfl := Option.some.inj hF
      refine W.retV (fn := Try.f31) (vs := [.bool true]) Try.results31 ⟨.tmp rfl, trivial⟩ (fun _ _ h => h) (fun w hw => ?_)
      exact hR _ _ ⟨rfl, (hw.pick [] rfl)⟩

def alibkeep_seqLives (N : Nat) : Option Bool :=
  bd (alibkeep_late N) fun (r2 : Unit) =>
  bd (seq_Find N ([1] : List Int) ([(Event.mk 0 0 1 5), (Event.mk 0 0 0 0), (Event.mk 1 0 2 0), (Event.mk 1 0 0 0)] : List Event)) fun (r4 : ((List Step) × Bool × Int)) =>
  bd (alibkeep_late N) fun (r8 : Unit) =>
  bd (seq_Calm N ([1] : List Int) ([(Event.mk 0 0 1 5), (Event.mk 0 0 0 0), (Event.mk 1 0 2 0), (Event.mk 1 0 0 0)] : List Event)) fun (r10 : ((List Int) × Int)) =>
  bd (alibkeep_late N) fun (r14 : Unit) =>
  bd (seq_Quiet N ([1] : List Int) ([(Event.mk 0 0 1 5), (Event.mk 0 0 0 0), (Event.mk 1 0 2 0), (Event.mk 1 0 0 0)] : List Event)) fun (r16 : ((List Step) × Bool × Int)) =>
  bd (α := Bool) (bd (alibkeep_ok N ([r4.2.2, r10.2, r16.2.2] : List Int)) fun (r21 : Bool) =>
    cond (((r21 && r4.2.1) && (!r16.2.1)) == true)
      (bd (slices_Equal_api_Step_api_Step N r4.1 ([(Step.mk 1 0), (Step.mk 0 0)] : List Step)) fun (r23 : Bool) =>
      cond ((((r21 && r4.2.1) && (!r16.2.1)) && r23) == true)
        (bd (slices_Equal_int_int N r10.1 ([0, 1] : List Int)) fun (r25 : Bool) =>
        some ((((r21 && r4.2.1) && (!r16.2.1)) && r23) && r25))
        (some ((((r21 && r4.2.1) && (!r16.2.1)) && r23) && false)))
      (cond ((((r21 && r4.2.1) && (!r16.2.1)) && false) == true)
        (bd (slices_Equal_int_int N r10.1 ([0, 1] : List Int)) fun (r27 : Bool) =>
        some ((((r21 && r4.2.1) && (!r16.2.1)) && false) && r27))
        (some ((((r21 && r4.2.1) && (!r16.2.1)) && false) && false)))) <|
  fun (v19 : Bool) => 
    some v19

theorem alibkeep_seqLives_ok {N : Nat} {res : Bool} (hF : alibkeep_seqLives N = some res) (w : World) :
    Pure Try.prog 47 [] w (.bool res) := by
  refine W.enter (n := 53) Try.func47 rfl rfl Sub.refl (by simp) (St.start w) fun R hR => ?_
  unfold alibkeep_seqLives at hF
  -- region 0: seq.go:34
  refine W.seqR fun Q1 hQ1 => ?_
  refine WL.q (Y.assign (.pl rfl)) rfl ?_
  refine WL.next hQ1 (.nil) ?_
  -- region 1: seq.go:35
  refine W.seqR fun Q2 hQ2 => ?_
  refine WL.step (WO.bsliceC (enc := (eI .i64)) (ys := ([1] : List Int)) Try.underlying22 bz3 (.cons (.pl rfl) (.nil)) rfl (fun _ => rfl) rfl rfl (by decide) (by decide) rfl fun b1 => ?_)
  obtain ⟨r2, hr2, hF⟩ := bnd hF
  refine WL.step (WO.callM isGo76 (.nil) rfl (fun w hw => alibkeep_late_ok (hr2) w ) ?_)
  rintro A3 -
  obtain ⟨r4, hr4, hF⟩ := bnd hF
  refine WL.step (WO.callM isGo46 (.cons (.pl rfl) (.cons (.pl rfl) (.nil))) rfl (fun w hw => seq_Find_ok (hr4) w (SlIn.ofRow (fun _ => rfl) hw (i := 1) rfl) (SlIn.ofRow lenEvent hw (i := 0) rfl)) ?_)
  rintro ⟨A5, c6⟩ -
  refine WL.q (Y.move (.pl rfl)) rfl ?_
  refine WL.q (Y.extract (.pl rfl) rfl) rfl ?_
  refine WL.q (Y.extract (.pl rfl) rfl) rfl ?_
  refine WL.q (Y.extract (.pl rfl) rfl) rfl ?_
  refine WL.q (Y.assign (.pl rfl)) rfl ?_
  refine WL.q (Y.assign (.pl rfl)) rfl ?_
  refine WL.q (Y.assign (.pl rfl)) rfl ?_
  refine WL.next hQ2 (.cons (i := 1) rfl (.cons (i := 2) rfl (.cons (i := 3) rfl (.nil)))) ?_
  -- region 2: seq.go:36
  refine W.seqR fun Q3 hQ3 => ?_
  refine WL.step (WO.bsliceC (enc := (eI .i64)) (ys := ([1] : List Int)) Try.underlying22 bz3 (.cons (.pl rfl) (.nil)) rfl (fun _ => rfl) rfl rfl (by decide) (by decide) rfl fun b7 => ?_)
  obtain ⟨r8, hr8, hF⟩ := bnd hF
  refine WL.step (WO.callM isGo76 (.nil) rfl (fun w hw => alibkeep_late_ok (hr8) w ) ?_)
  rintro A9 -
  obtain ⟨r10, hr10, hF⟩ := bnd hF
  refine WL.step (WO.callM isGo49 (.cons (.pl rfl) (.cons (.pl rfl) (.nil))) rfl (fun w hw => seq_Calm_ok (hr10) w (SlIn.ofRow (fun _ => rfl) hw (i := 1) rfl) (SlIn.ofRow lenEvent hw (i := 0) rfl)) ?_)
  rintro ⟨A11, c12⟩ -
  refine WL.q (Y.move (.pl rfl)) rfl ?_
  refine WL.q (Y.extract (.pl rfl) rfl) rfl ?_
  refine WL.q (Y.extract (.pl rfl) rfl) rfl ?_
  refine WL.q (Y.assign (.pl rfl)) rfl ?_
  refine WL.q (Y.assign (.pl rfl)) rfl ?_
  refine WL.next hQ3 (.cons (i := 1) rfl (.cons (i := 2) rfl (.cons (i := 3) rfl (.cons (i := 4) rfl (.cons (i := 5) rfl (.nil)))))) ?_
  -- region 3: seq.go:37
  refine W.seqR fun Q4 hQ4 => ?_
  refine WL.step (WO.bsliceC (enc := (eI .i64)) (ys := ([1] : List Int)) Try.underlying22 bz3 (.cons (.pl rfl) (.nil)) rfl (fun _ => rfl) rfl rfl (by decide) (by decide) rfl fun b13 => ?_)
  obtain ⟨r14, hr14, hF⟩ := bnd hF
  refine WL.step (WO.callM isGo76 (.nil) rfl (fun w hw => alibkeep_late_ok (hr14) w ) ?_)
  rintro A15 -
  obtain ⟨r16, hr16, hF⟩ := bnd hF
  refine WL.step (WO.callM isGo48 (.cons (.pl rfl) (.cons (.pl rfl) (.nil))) rfl (fun w hw => seq_Quiet_ok (hr16) w (SlIn.ofRow (fun _ => rfl) hw (i := 1) rfl) (SlIn.ofRow lenEvent hw (i := 0) rfl)) ?_)
  rintro ⟨A17, c18⟩ -
  refine WL.q (Y.move (.pl rfl)) rfl ?_
  refine WL.q (Y.extract (.pl rfl) rfl) rfl ?_
  refine WL.q (Y.extract (.pl rfl) rfl) rfl ?_
  refine WL.q (Y.extract (.pl rfl) rfl) rfl ?_
  refine WL.q (Y.assign (.pl rfl)) rfl ?_
  refine WL.q (Y.assign (.pl rfl)) rfl ?_
  refine WL.q (Y.assign (.pl rfl)) rfl ?_
  refine WL.next hQ4 (.cons (i := 1) rfl (.cons (i := 2) rfl (.cons (i := 3) rfl (.cons (i := 4) rfl (.cons (i := 5) rfl (.cons (i := 7) rfl (.cons (i := 8) rfl (.nil)))))))) ?_
  obtain ⟨o5, hF5, hF⟩ := bnd hF
  refine W.join1 (Em := fun (v19 : Bool) => [(0, .bool v19)]) (M := fun v19 => []) (I := fun v19 => v19 = o5) (.nil) (fun K6 hK6 => ?_) ?_
  · -- up to
    -- region 4: seq.go:38
    refine W.reg ?_
    refine WL.q (Y.move (.pl rfl)) rfl ?_
    refine WL.q (Y.move (.pl rfl)) rfl ?_
    refine WL.q (Y.move (.pl rfl)) rfl ?_
    refine WL.step (WO.bsliceC (enc := (eI .i64)) (ys := ([r4.2.2, r10.2, r16.2.2] : List Int)) Try.underlying88 bz29 (.cons (.pl rfl) (.cons (.pl rfl) (.cons (.pl rfl) (.nil)))) rfl (fun _ => rfl) rfl rfl (by decide) (by decide) rfl fun b20 => ?_)
    obtain ⟨r21, hr21, hF5⟩ := bnd hF5
    refine WL.step (WO.callP isGo28 (.cons (.pl rfl) (.nil)) rfl (fun w hw => alibkeep_ok_ok (hr21) w (SlIn.ofRow (fun _ => rfl) hw (i := 0) rfl)) ?_)
    refine WL.q (Y.move (.pl rfl)) rfl ?_
    refine WL.g (.pl rfl rfl rfl) (fun hg => Y.move (.pl rfl)) rfl ?_
    refine WL.q (Y.and (.pl rfl) (fun h2 => .gd (eqt h2) rfl)) rfl ?_
    refine WL.q (Y.move (.pl rfl)) rfl ?_
    refine WL.g (.pl rfl rfl rfl) (fun hg => Y.move (.pl rfl)) rfl ?_
    refine WL.g (.pl rfl rfl rfl) (fun hg => Y.not (.gd (hg) rfl)) rfl ?_
    refine WL.q (Y.and (.pl rfl) (fun h2 => .gd (eqt h2) rfl)) rfl ?_
    refine WL.q (Y.move (.pl rfl)) rfl ?_
    refine WL.g (.pl rfl rfl rfl) (fun hg => Y.move (.pl rfl)) rfl ?_
    refine WL.g (.pl rfl rfl rfl) (fun hg => Y.build (cs := (encStep (Step.mk 1 0)).toArray) shape58 (.cons (.pl rfl) (.nil)) (one_parts ⟨rfl, trivial⟩) rfl) rfl ?_
    refine WL.g (.pl rfl rfl rfl) (fun hg => Y.build (cs := (encStep (Step.mk 0 0)).toArray) shape58 (.cons (.pl rfl) (.nil)) (one_parts ⟨rfl, trivial⟩) rfl) rfl ?_
    refine bsplit (((r21 && r4.2.1) && (!r16.2.1)) == true) (fun hg7 => ?_) (fun hg7 => ?_)
    · replace hF5 := cpos hg7 hF5
      refine WL.gd (.pl rfl rfl rfl) (hg7) ?_
      refine WL.step (WO.bsliceC (enc := encStep) (ys := ([(Step.mk 1 0), (Step.mk 0 0)] : List Step)) Try.underlying44 bz58 (.cons (.gd (hg7) rfl) (.cons (.gd (hg7) rfl) (.nil))) rfl lenStep rfl rfl (by decide) (by decide) rfl fun b22 => ?_)
      refine WL.gd (.pl rfl rfl rfl) (hg7) ?_
      obtain ⟨r23, hr23, hF5⟩ := bnd hF5
      refine WL.step (WO.callP isGo59 (.cons (.gd (hg7) rfl) (.cons (.pl rfl) (.nil))) rfl (fun w hw => slices_Equal_api_Step_api_Step_ok (hr23) w (SlIn.ofRow lenStep hw (i := 8) rfl) (SlIn.ofRow lenStep hw (i := 0) rfl)) ?_)
      refine WL.q (Y.and (.pl rfl) (fun _ => .pl rfl)) rfl ?_
      refine WL.q (Y.move (.pl rfl)) rfl ?_
      refine WL.g (.pl rfl rfl rfl) (fun hg => Y.move (.pl rfl)) rfl ?_
      refine bsplit ((((r21 && r4.2.1) && (!r16.2.1)) && r23) == true) (fun hg8 => ?_) (fun hg8 => ?_)
      · replace hF5 := cpos hg8 hF5
        refine WL.gd (.pl rfl rfl rfl) (hg8) ?_
        refine WL.step (WO.bsliceC (enc := (eI .i64)) (ys := ([0, 1] : List Int)) Try.underlying22 bz3 (.cons (.pl rfl) (.cons (.pl rfl) (.nil))) rfl (fun _ => rfl) rfl rfl (by decide) (by decide) rfl fun b24 => ?_)
        refine WL.gd (.pl rfl rfl rfl) (hg8) ?_
        obtain ⟨r25, hr25, hF5⟩ := bnd hF5
        refine WL.step (WO.callP isGo31 (.cons (.gd (hg8) rfl) (.cons (.pl rfl) (.nil))) rfl (fun w hw => slices_Equal_int_int_ok (hr25) w (SlIn.ofRow (fun _ => rfl) hw (i := 6) rfl) (SlIn.ofRow (fun _ => rfl) hw (i := 0) rfl)) ?_)
        refine WL.q (Y.and (.pl rfl) (fun _ => .pl rfl)) rfl ?_
        refine WL.q (Y.assign (.pl rfl)) rfl ?_
        refine WL.nil ?_
        exact W.joinAt1 hK6 ((((r21 && r4.2.1) && (!r16.2.1)) && r23) && r25) (Option.some.inj hF5) (.cons rfl (.nil)) (.nil) (fun w hw => hw.pick [] rfl)
      · replace hF5 := cneg hg8 hF5
        refine WL.gn (.pl rfl rfl rfl) hg8 rfl ?_
        refine WL.gn (.pl rfl rfl rfl) hg8 rfl ?_
        refine WL.q (Y.and (b := false) (.pl rfl) (fun h2 => (gabsA hg8 h2).elim)) rfl ?_
        refine WL.q (Y.assign (.pl rfl)) rfl ?_
        refine WL.nil ?_
        exact W.joinAt1 hK6 ((((r21 && r4.2.1) && (!r16.2.1)) && r23) && false) (Option.some.inj hF5) (.cons rfl (.nil)) (.nil) (fun w hw => hw.pick [] rfl)
    · replace hF5 := cneg hg7 hF5
      refine WL.gn (.pl rfl rfl rfl) hg7 rfl ?_
      refine WL.gn (.pl rfl rfl rfl) hg7 rfl ?_
      refine WL.q (Y.and (b := false) (.pl rfl) (fun h2 => (gabsA hg7 h2).elim)) rfl ?_
      refine WL.q (Y.move (.pl rfl)) rfl ?_
      refine WL.g (.pl rfl rfl rfl) (fun hg => Y.move (.pl rfl)) rfl ?_
      refine bsplit ((((r21 && r4.2.1) && (!r16.2.1)) && false) == true) (fun hg9 => ?_) (fun hg9 => ?_)
      · replace hF5 := cpos hg9 hF5
        refine WL.gd (.pl rfl rfl rfl) (hg9) ?_
        refine WL.step (WO.bsliceC (enc := (eI .i64)) (ys := ([0, 1] : List Int)) Try.underlying22 bz3 (.cons (.pl rfl) (.cons (.pl rfl) (.nil))) rfl (fun _ => rfl) rfl rfl (by decide) (by decide) rfl fun b26 => ?_)
        refine WL.gd (.pl rfl rfl rfl) (hg9) ?_
        obtain ⟨r27, hr27, hF5⟩ := bnd hF5
        refine WL.step (WO.callP isGo31 (.cons (.gd (hg9) rfl) (.cons (.pl rfl) (.nil))) rfl (fun w hw => slices_Equal_int_int_ok (hr27) w (SlIn.ofRow (fun _ => rfl) hw (i := 5) rfl) (SlIn.ofRow (fun _ => rfl) hw (i := 0) rfl)) ?_)
        refine WL.q (Y.and (.pl rfl) (fun _ => .pl rfl)) rfl ?_
        refine WL.q (Y.assign (.pl rfl)) rfl ?_
        refine WL.nil ?_
        exact W.joinAt1 hK6 ((((r21 && r4.2.1) && (!r16.2.1)) && false) && r27) (Option.some.inj hF5) (.cons rfl (.nil)) (.nil) (fun w hw => hw.pick [] rfl)
      · replace hF5 := cneg hg9 hF5
        refine WL.gn (.pl rfl rfl rfl) hg9 rfl ?_
        refine WL.gn (.pl rfl rfl rfl) hg9 rfl ?_
        refine WL.q (Y.and (b := false) (.pl rfl) (fun h2 => (gabsA hg9 h2).elim)) rfl ?_
        refine WL.q (Y.assign (.pl rfl)) rfl ?_
        refine WL.nil ?_
        exact W.joinAt1 hK6 ((((r21 && r4.2.1) && (!r16.2.1)) && false) && false) (Option.some.inj hF5) (.cons rfl (.nil)) (.nil) (fun w hw => hw.pick [] rfl)
  · -- behind
    rintro v19 rfl
    obtain rfl := Option.some.inj hF
    refine W.retV (fn := Try.f47) (vs := [.bool v19]) Try.results47 ⟨.tmp rfl, trivial⟩ (fun _ _ h => h) (fun w hw => ?_)
    exact hR _ _ ⟨rfl, (hw.pick [] rfl)⟩

def alibkeep_SeqWeaker (N : Nat) (types1 : (List Int)) (l6 : (List Event)) : Option Bool :=
  bd (search_Find N types1 l6) fun (r11 : ((List Step) × Bool × Int)) =>
  bd (seq_Find N types1 l6) fun (r14 : ((List Step) × Bool × Int)) =>
  bd (seq_Quiet N types1 l6) fun (r17 : ((List Step) × Bool × Int)) =>
  bd (seq_Right N types1 l6 r11.1) fun (r20 : (Bool × Int)) =>
  bd (α := Bool) (bd (alibkeep_seqLives N) fun (r22 : Bool) =>
    cond ((!r22) == false)
      (bd (alibkeep_ok N ([r11.2.2, r14.2.2, r17.2.2, r20.2] : List Int)) fun (r24 : Bool) =>
      some ((!r22) || (!r24)))
      (some ((!r22) || false))) <|
  fun (v21 : Bool) => 
    cond v21
      (bd (alibkeep_seqLives N) fun (r25 : Bool) =>
      some ((r25 && (decide (r11.2.2 = r14.2.2))) && (decide (r14.2.2 = r17.2.2))))
      (some ((!r11.2.1) || ((r14.2.1 && r17.2.1) && r20.1)))

theorem alibkeep_SeqWeaker_ok {N : Nat} {types1 : (List Int)} {l6 : (List Event)} {res : Bool} (hF : alibkeep_SeqWeaker N types1 l6 = some res) (w : World) {v5 : Value} (hs4 : SlIn (eI .i64) 1 w v5 types1) {v10 : Value} (hs9 : SlIn encEvent 4 w v10 l6) :
    Pure Try.prog 16 [v5, v10] w (.bool res) := by
  obtain ⟨A2, c3, rfl, hcc3, hs4⟩ := hs4.form
  obtain ⟨A7, c8, rfl, hcc8, hs9⟩ := hs9.form
  refine W.enter (n := 77) Try.func16 rfl rfl Sub.refl (by simp) (St.start w) fun R hR => ?_
  unfold alibkeep_SeqWeaker at hF
  -- region 0: seq.go:57
  refine W.seqR fun Q1 hQ1 => ?_
  refine WL.q (Y.assign (.pl rfl)) rfl ?_
  refine WL.next hQ1 (.cons (i := 0) rfl (.cons (i := 1) rfl (.nil))) ?_
  -- region 1: seq.go:58
  refine W.seqR fun Q2 hQ2 => ?_
  refine WL.q (Y.move (.pl rfl)) rfl ?_
  refine WL.q (Y.move (.pl rfl)) rfl ?_
  obtain ⟨r11, hr11, hF⟩ := bnd hF
  refine WL.step (WO.callM isGo34 (.cons (.pl rfl) (.cons (.pl rfl) (.nil))) rfl (fun w hw => search_Find_ok (hr11) w (hs4.mono hw) (hs9.mono hw)) ?_)
  rintro ⟨A12, c13⟩ -
  refine WL.q (Y.move (.pl rfl)) rfl ?_
  refine WL.q (Y.extract (.pl rfl) rfl) rfl ?_
  refine WL.q (Y.extract (.pl rfl) rfl) rfl ?_
  refine WL.q (Y.extract (.pl rfl) rfl) rfl ?_
  refine WL.q (Y.assign (.pl rfl)) rfl ?_
  refine WL.q (Y.assign (.pl rfl)) rfl ?_
  refine WL.q (Y.assign (.pl rfl)) rfl ?_
  refine WL.next hQ2 (.cons (i := 0) rfl (.cons (i := 1) rfl (.cons (i := 5) rfl (.cons (i := 6) rfl (.cons (i := 7) rfl (.nil)))))) ?_
  -- region 2: seq.go:59
  refine W.seqR fun Q3 hQ3 => ?_
  refine WL.q (Y.move (.pl rfl)) rfl ?_
  refine WL.q (Y.move (.pl rfl)) rfl ?_
  obtain ⟨r14, hr14, hF⟩ := bnd hF
  refine WL.step (WO.callM isGo46 (.cons (.pl rfl) (.cons (.pl rfl) (.nil))) rfl (fun w hw => seq_Find_ok (hr14) w (hs4.mono hw) (hs9.mono hw)) ?_)
  rintro ⟨A15, c16⟩ -
  refine WL.q (Y.move (.pl rfl)) rfl ?_
  refine WL.q (Y.extract (.pl rfl) rfl) rfl ?_
  refine WL.q (Y.extract (.pl rfl) rfl) rfl ?_
  refine WL.q (Y.extract (.pl rfl) rfl) rfl ?_
  refine WL.q (Y.assign (.pl rfl)) rfl ?_
  refine WL.q (Y.assign (.pl rfl)) rfl ?_
  refine WL.q (Y.assign (.pl rfl)) rfl ?_
  refine WL.next hQ3 (.cons (i := 0) rfl (.cons (i := 1) rfl (.cons (i := 5) rfl (.cons (i := 6) rfl (.cons (i := 7) rfl (.cons (i := 9) rfl (.cons (i := 10) rfl (.nil)))))))) ?_
  -- region 3: seq.go:60
  refine W.seqR fun Q4 hQ4 => ?_
  refine WL.q (Y.move (.pl rfl)) rfl ?_
  refine WL.q (Y.move (.pl rfl)) rfl ?_
  obtain ⟨r17, hr17, hF⟩ := bnd hF
  refine WL.step (WO.callM isGo48 (.cons (.pl rfl) (.cons (.pl rfl) (.nil))) rfl (fun w hw => seq_Quiet_ok (hr17) w (hs4.mono hw) (hs9.mono hw)) ?_)
  rintro ⟨A18, c19⟩ -
  refine WL.q (Y.move (.pl rfl)) rfl ?_
  refine WL.q (Y.extract (.pl rfl) rfl) rfl ?_
  refine WL.q (Y.extract (.pl rfl) rfl) rfl ?_
  refine WL.q (Y.extract (.pl rfl) rfl) rfl ?_
  refine WL.q (Y.assign (.pl rfl)) rfl ?_
  refine WL.q (Y.assign (.pl rfl)) rfl ?_
  refine WL.q (Y.assign (.pl rfl)) rfl ?_
  refine WL.next hQ4 (.cons (i := 0) rfl (.cons (i := 1) rfl (.cons (i := 5) rfl (.cons (i := 6) rfl (.cons (i := 7) rfl (.cons (i := 9) rfl (.cons (i := 10) rfl (.cons (i := 12) rfl (.cons (i := 13) rfl (.nil)))))))))) ?_
  -- region 4: seq.go:61
  refine W.seqR fun Q5 hQ5 => ?_
  refine WL.q (Y.move (.pl rfl)) rfl ?_
  refine WL.q (Y.move (.pl rfl)) rfl ?_
  refine WL.q (Y.move (.pl rfl)) rfl ?_
  obtain ⟨r20, hr20, hF⟩ := bnd hF
  refine WL.step (WO.callP isGo50 (.cons (.pl rfl) (.cons (.pl rfl) (.cons (.pl rfl) (.nil)))) rfl (fun w hw => seq_Right_ok (hr20) w (hs4.mono hw) (hs9.mono hw) (SlIn.ofRow lenStep hw (i := 2) rfl)) ?_)
  refine WL.q (Y.move (.pl rfl)) rfl ?_
  refine WL.q (Y.extract (.pl rfl) rfl) rfl ?_
  refine WL.q (Y.extract (.pl rfl) rfl) rfl ?_
  refine WL.q (Y.assign (.pl rfl)) rfl ?_
  refine WL.q (Y.assign (.pl rfl)) rfl ?_
  refine WL.next hQ5 (.cons (i := 6) rfl (.cons (i := 7) rfl (.cons (i := 9) rfl (.cons (i := 10) rfl (.cons (i := 12) rfl (.cons (i := 13) rfl (.cons (i := 14) rfl (.cons (i := 15) rfl (.nil))))))))) ?_
  refine W.seq fun K6 hK6 => ?_
  obtain ⟨o7, hF7, hF⟩ := bnd hF
  refine W.join1 (Em := fun (v21 : Bool) => [(54, .bool v21)]) (M := fun v21 => []) (I := fun v21 => v21 = o7) (.cons (i := 6) rfl (.cons (i := 7) rfl (.cons (i := 9) rfl (.cons (i := 10) rfl (.cons (i := 12) rfl (.cons (i := 13) rfl (.cons (i := 14) rfl (.nil)))))))) (fun K8 hK8 => ?_) ?_
  · -- up to
    -- region 5: seq.go:62
    refine W.reg ?_
    obtain ⟨r22, hr22, hF7⟩ := bnd hF7
    refine WL.step (WO.callP isGo47 (.nil) rfl (fun w hw => alibkeep_seqLives_ok (hr22) w ) ?_)
    refine WL.q (Y.not (.pl rfl)) rfl ?_
    refine WL.q (Y.move (.pl rfl)) rfl ?_
    refine WL.g (.pl rfl rfl rfl) (fun hg => Y.move (.pl rfl)) rfl ?_
    refine WL.g (.pl rfl rfl rfl) (fun hg => Y.move (.pl rfl)) rfl ?_
    refine WL.g (.pl rfl rfl rfl) (fun hg => Y.move (.pl rfl)) rfl ?_
    refine WL.g (.pl rfl rfl rfl) (fun hg => Y.move (.pl rfl)) rfl ?_
    refine bsplit ((!r22) == false) (fun hg9 => ?_) (fun hg9 => ?_)
    · replace hF7 := cpos hg9 hF7
      refine WL.gd (.pl rfl rfl rfl) (hg9) ?_
      refine WL.step (WO.bsliceC (enc := (eI .i64)) (ys := ([r11.2.2, r14.2.2, r17.2.2, r20.2] : List Int)) Try.underlying88 bz29 (.cons (.gd (hg9) rfl) (.cons (.gd (hg9) rfl) (.cons (.gd (hg9) rfl) (.cons (.gd (hg9) rfl) (.nil))))) rfl (fun _ => rfl) rfl rfl (by decide) (by decide) rfl fun b23 => ?_)
      refine WL.gd (.pl rfl rfl rfl) (hg9) ?_
      obtain ⟨r24, hr24, hF7⟩ := bnd hF7
      refine WL.step (WO.callP isGo28 (.cons (.pl rfl) (.nil)) rfl (fun w hw => alibkeep_ok_ok (hr24) w (SlIn.ofRow (fun _ => rfl) hw (i := 0) rfl)) ?_)
      refine WL.gd (.pl rfl rfl rfl) (hg9) ?_
      refine WL.q (Y.not (.pl rfl)) rfl ?_
      refine WL.q (Y.or (.pl rfl) (fun _ => .pl rfl)) rfl ?_
      refine WL.nil ?_
      exact W.joinAt1 hK8 ((!r22) || (!r24)) (Option.some.inj hF7) (.cons rfl (.nil)) (.cons (i := 6) rfl (.cons (i := 7) rfl (.cons (i := 9) rfl (.cons (i := 10) rfl (.cons (i := 12) rfl (.cons (i := 13) rfl (.cons (i := 14) rfl (.nil)))))))) (fun w hw => hw.pick [] rfl)
    · replace hF7 := cneg hg9 hF7
      refine WL.gn (.pl rfl rfl rfl) hg9 rfl ?_
      refine WL.gn (.pl rfl rfl rfl) hg9 rfl ?_
      refine WL.gn (.pl rfl rfl rfl) hg9 rfl ?_
      refine WL.q (Y.or (b := false) (.pl rfl) (fun h2 => (gabsO hg9 h2).elim)) rfl ?_
      refine WL.nil ?_
      exact W.joinAt1 hK8 ((!r22) || false) (Option.some.inj hF7) (.cons rfl (.nil)) (.cons (i := 6) rfl (.cons (i := 7) rfl (.cons (i := 9) rfl (.cons (i := 10) rfl (.cons (i := 12) rfl (.cons (i := 13) rfl (.cons (i := 14) rfl (.nil)))))))) (fun w hw => hw.pick [] rfl)
  · -- behind
    rintro v21 rfl
    refine W.cond (.pl rfl) (fun hC10 => ?_) (fun hC10 => ?_)
    · replace hF := cpos hC10 hF
      -- region 6: seq.go:63
      refine W.seqR fun Q11 hQ11 => ?_
      obtain ⟨r25, hr25, hF⟩ := bnd hF
      refine WL.step (WO.callP isGo47 (.nil) rfl (fun w hw => alibkeep_seqLives_ok (hr25) w ) ?_)
      refine WL.q (Y.move (.pl rfl)) rfl ?_
      refine WL.g (.pl rfl rfl rfl) (fun hg => Y.move (.pl rfl)) rfl ?_
      refine WL.g (.pl rfl rfl rfl) (fun hg => Y.move (.pl rfl)) rfl ?_
      refine WL.g (.pl rfl rfl rfl) (fun hg => Y.eql (.gd (hg) rfl) (.gd (hg) rfl)) rfl ?_
      refine WL.q (Y.and (.pl rfl) (fun h2 => .gd (eqt h2) rfl)) rfl ?_
      refine WL.q (Y.move (.pl rfl)) rfl ?_
      refine WL.g (.pl rfl rfl rfl) (fun hg => Y.move (.pl rfl)) rfl ?_
      refine WL.g (.pl rfl rfl rfl) (fun hg => Y.move (.pl rfl)) rfl ?_
      refine WL.g (.pl rfl rfl rfl) (fun hg => Y.eql (.gd (hg) rfl) (.gd (hg) rfl)) rfl ?_
      refine WL.q (Y.and (.pl rfl) (fun h2 => .gd (eqt h2) rfl)) rfl ?_
      refine WL.q (Y.assign (.pl rfl)) rfl ?_
      refine WL.next hQ11 (.cons (i := 4) rfl (.nil)) ?_
      obtain rfl := Option.some.inj hF
      refine W.retV (fn := Try.f16) (vs := [.bool ((r25 && (decide (r11.2.2 = r14.2.2))) && (decide (r14.2.2 = r17.2.2)))]) Try.results16 ⟨.tmp rfl, trivial⟩ (fun _ _ h => h) (fun w hw => ?_)
      exact hR _ _ ⟨rfl, (hw.pick [] rfl)⟩
    · replace hF := cneg hC10 hF
      refine W.skip ?_
      refine W.go hK6 (.cons (i := 6) rfl (.cons (i := 9) rfl (.cons (i := 12) rfl (.cons (i := 14) rfl (.nil))))) ?_
      -- region 7: seq.go:65
      refine W.seqR fun Q12 hQ12 => ?_
      refine WL.q (Y.move (.pl rfl)) rfl ?_
      refine WL.q (Y.not (.pl rfl)) rfl ?_
      refine WL.q (Y.move (.pl rfl)) rfl ?_
      refine WL.g (.pl rfl rfl rfl) (fun hg => Y.move (.pl rfl)) rfl ?_
      refine WL.g (.pl rfl rfl rfl) (fun hg => Y.move (.gd (hg) rfl)) rfl ?_
      refine WL.g (.gd rfl rfl rfl) (fun hg => Y.move (.pl rfl)) rfl ?_
      refine WL.g (.pl rfl rfl rfl) (fun hg => Y.and (.gd (hg) rfl) (fun h2 => .gd (band hg (eqt h2)) rfl)) rfl ?_
      refine WL.g (.pl rfl rfl rfl) (fun hg => Y.move (.gd (hg) rfl)) rfl ?_
      refine WL.g (.gd rfl rfl rfl) (fun hg => Y.move (.pl rfl)) rfl ?_
      refine WL.g (.pl rfl rfl rfl) (fun hg => Y.and (.gd (hg) rfl) (fun h2 => .gd (band hg (eqt h2)) rfl)) rfl ?_
      refine WL.q (Y.or (.pl rfl) (fun h2 => .gd (eqf h2) rfl)) rfl ?_
      refine WL.q (Y.assign (.pl rfl)) rfl ?_
      refine WL.next hQ12 (.cons (i := 4) rfl (.nil)) ?_
      obtain rfl := Option.some.inj hF
      refine W.retV (fn := Try.f16) (vs := [.bool ((!r11.2.1) || ((r14.2.1 && r17.2.1) && r20.1))]) Try.results16 ⟨.tmp rfl, trivial⟩ (fun _ _ h => h) (fun w hw => ?_)
      exact hR _ _ ⟨rfl, (hw.pick [] rfl)⟩

def alibkeep_SeqCalm_L3 (N : Nat) (r17 : ((List Int) × Int)) : Int → Option (Int ⊕ (Unit ⊕ Bool))
  | i25 =>
    cond (decide (i25 < ((r17.1).length : Int)))
      (bd (ix r17.1 i25) fun (x26 : Int) =>
      ck (ok64 (i25 - 1)) <|
      bd (ix r17.1 (i25 - 1)) fun (x28 : Int) =>
      cond (decide (x26 < x28))
        (some (.inr (.inr false)))
        (ck (ok64 (i25 - 1)) <|
        cond (decide (x26 = x28))
          (some (.inr (.inr true)))
          (ck (ok64 (i25 + 1)) <|
          some (.inl (i25 + 1)))))
      (some (.inr (.inl ())))

def alibkeep_SeqCalm (N : Nat) (types1 : (List Int)) (l6 : (List Event)) : Option Bool :=
  bd (search_Find N types1 l6) fun (r11 : ((List Step) × Bool × Int)) =>
  bd (seq_Quiet N types1 l6) fun (r14 : ((List Step) × Bool × Int)) =>
  bd (seq_Calm N types1 l6) fun (r17 : ((List Int) × Int)) =>
  bd (α := Bool) (bd (alibkeep_seqLives N) fun (r21 : Bool) =>
    cond ((!r21) == false)
      (bd (alibkeep_ok N ([r11.2.2, r14.2.2, r17.2] : List Int)) fun (r23 : Bool) =>
      some ((!r21) || (!r23)))
      (some ((!r21) || false))) <|
  fun (v20 : Bool) => 
    cond v20
      (bd (alibkeep_seqLives N) fun (r24 : Bool) =>
      some ((r24 && (decide (r11.2.2 = r14.2.2))) && (decide (r14.2.2 = r17.2))))
      (bd (α := (Unit ⊕ Bool)) (iter (alibkeep_SeqCalm_L3 N r17) N 1) <|
      Sum.elim (fun _ => 
        some (r14.2.1 == r11.2.1)) (fun p => some p))

theorem alibkeep_SeqCalm_ok {N : Nat} {types1 : (List Int)} {l6 : (List Event)} {res : Bool} (hF : alibkeep_SeqCalm N types1 l6 = some res) (w : World) {v5 : Value} (hs4 : SlIn (eI .i64) 1 w v5 types1) {v10 : Value} (hs9 : SlIn encEvent 4 w v10 l6) :
    Pure Try.prog 15 [v5, v10] w (.bool res) := by
  obtain ⟨A2, c3, rfl, hcc3, hs4⟩ := hs4.form
  obtain ⟨A7, c8, rfl, hcc8, hs9⟩ := hs9.form
  refine W.enter (n := 84) Try.func15 rfl rfl Sub.refl (by simp) (St.start w) fun R hR => ?_
  unfold alibkeep_SeqCalm at hF
  -- region 0: seq.go:100
  refine W.seqR fun Q1 hQ1 => ?_
  refine WL.q (Y.assign (.pl rfl)) rfl ?_
  refine WL.next hQ1 (.cons (i := 0) rfl (.cons (i := 1) rfl (.nil))) ?_
  -- region 1: seq.go:101
  refine W.seqR fun Q2 hQ2 => ?_
  refine WL.q (Y.move (.pl rfl)) rfl ?_
  refine WL.q (Y.move (.pl rfl)) rfl ?_
  obtain ⟨r11, hr11, hF⟩ := bnd hF
  refine WL.step (WO.callM isGo34 (.cons (.pl rfl) (.cons (.pl rfl) (.nil))) rfl (fun w hw => search_Find_ok (hr11) w (hs4.mono hw) (hs9.mono hw)) ?_)
  rintro ⟨A12, c13⟩ -
  refine WL.q (Y.move (.pl rfl)) rfl ?_
  refine WL.q (Y.extract (.pl rfl) rfl) rfl ?_
  refine WL.q (Y.extract (.pl rfl) rfl) rfl ?_
  refine WL.q (Y.extract (.pl rfl) rfl) rfl ?_
  refine WL.q (Y.assign (.pl rfl)) rfl ?_
  refine WL.q (Y.assign (.pl rfl)) rfl ?_
  refine WL.q (Y.assign (.pl rfl)) rfl ?_
  refine WL.next hQ2 (.cons (i := 0) rfl (.cons (i := 1) rfl (.cons (i := 6) rfl (.cons (i := 7) rfl (.nil))))) ?_
  -- region 2: seq.go:102
  refine W.seqR fun Q3 hQ3 => ?_
  refine WL.q (Y.move (.pl rfl)) rfl ?_
  refine WL.q (Y.move (.pl rfl)) rfl ?_
  obtain ⟨r14, hr14, hF⟩ := bnd hF
  refine WL.step (WO.callM isGo48 (.cons (.pl rfl) (.cons (.pl rfl) (.nil))) rfl (fun w hw => seq_Quiet_ok (hr14) w (hs4.mono hw) (hs9.mono hw)) ?_)
  rintro ⟨A15, c16⟩ -
  refine WL.q (Y.move (.pl rfl)) rfl ?_
  refine WL.q (Y.extract (.pl rfl) rfl) rfl ?_
  refine WL.q (Y.extract (.pl rfl) rfl) rfl ?_
  refine WL.q (Y.extract (.pl rfl) rfl) rfl ?_
  refine WL.q (Y.assign (.pl rfl)) rfl ?_
  refine WL.q (Y.assign (.pl rfl)) rfl ?_
  refine WL.q (Y.assign (.pl rfl)) rfl ?_
  refine WL.next hQ3 (.cons (i := 0) rfl (.cons (i := 1) rfl (.cons (i := 6) rfl (.cons (i := 7) rfl (.cons (i := 9) rfl (.cons (i := 10) rfl (.nil))))))) ?_
  -- region 3: seq.go:103
  refine W.seqR fun Q4 hQ4 => ?_
  refine WL.q (Y.move (.pl rfl)) rfl ?_
  refine WL.q (Y.move (.pl rfl)) rfl ?_
  obtain ⟨r17, hr17, hF⟩ := bnd hF
  refine WL.step (WO.callM isGo49 (.cons (.pl rfl) (.cons (.pl rfl) (.nil))) rfl (fun w hw => seq_Calm_ok (hr17) w (hs4.mono hw) (hs9.mono hw)) ?_)
  rintro ⟨A18, c19⟩ -
  refine WL.q (Y.move (.pl rfl)) rfl ?_
  refine WL.q (Y.extract (.pl rfl) rfl) rfl ?_
  refine WL.q (Y.extract (.pl rfl) rfl) rfl ?_
  refine WL.q (Y.assign (.pl rfl)) rfl ?_
  refine WL.q (Y.assign (.pl rfl)) rfl ?_
  refine WL.next hQ4 (.cons (i := 6) rfl (.cons (i := 7) rfl (.cons (i := 9) rfl (.cons (i := 10) rfl (.cons (i := 11) rfl (.cons (i := 12) rfl (.nil))))))) ?_
  refine W.seq fun K5 hK5 => ?_
  obtain ⟨o6, hF6, hF⟩ := bnd hF
  refine W.join1 (Em := fun (v20 : Bool) => [(43, .bool v20)]) (M := fun v20 => [cR (eI .i64) 1 A18 c19 3 r17.1]) (I := fun v20 => v20 = o6) (.cons (i := 6) rfl (.cons (i := 7) rfl (.cons (i := 9) rfl (.cons (i := 10) rfl (.cons (i := 11) rfl (.cons (i := 12) rfl (.nil))))))) (fun K7 hK7 => ?_) ?_
  · -- up to
    -- region 4: seq.go:104
    refine W.reg ?_
    obtain ⟨r21, hr21, hF6⟩ := bnd hF6
    refine WL.step (WO.callP isGo47 (.nil) rfl (fun w hw => alibkeep_seqLives_ok (hr21) w ) ?_)
    refine WL.q (Y.not (.pl rfl)) rfl ?_
    refine WL.q (Y.move (.pl rfl)) rfl ?_
    refine WL.g (.pl rfl rfl rfl) (fun hg => Y.move (.pl rfl)) rfl ?_
    refine WL.g (.pl rfl rfl rfl) (fun hg => Y.move (.pl rfl)) rfl ?_
    refine WL.g (.pl rfl rfl rfl) (fun hg => Y.move (.pl rfl)) rfl ?_
    refine bsplit ((!r21) == false) (fun hg8 => ?_) (fun hg8 => ?_)
    · replace hF6 := cpos hg8 hF6
      refine WL.gd (.pl rfl rfl rfl) (hg8) ?_
      refine WL.step (WO.bsliceC (enc := (eI .i64)) (ys := ([r11.2.2, r14.2.2, r17.2] : List Int)) Try.underlying88 bz29 (.cons (.gd (hg8) rfl) (.cons (.gd (hg8) rfl) (.cons (.gd (hg8) rfl) (.nil)))) rfl (fun _ => rfl) rfl rfl (by decide) (by decide) rfl fun b22 => ?_)
      refine WL.gd (.pl rfl rfl rfl) (hg8) ?_
      obtain ⟨r23, hr23, hF6⟩ := bnd hF6
      refine WL.step (WO.callP isGo28 (.cons (.pl rfl) (.nil)) rfl (fun w hw => alibkeep_ok_ok (hr23) w (SlIn.ofRow (fun _ => rfl) hw (i := 0) rfl)) ?_)
      refine WL.gd (.pl rfl rfl rfl) (hg8) ?_
      refine WL.q (Y.not (.pl rfl)) rfl ?_
      refine WL.q (Y.or (.pl rfl) (fun _ => .pl rfl)) rfl ?_
      refine WL.nil ?_
      exact W.joinAt1 hK7 ((!r21) || (!r23)) (Option.some.inj hF6) (.cons rfl (.nil)) (.cons (i := 6) rfl (.cons (i := 7) rfl (.cons (i := 9) rfl (.cons (i := 10) rfl (.cons (i := 11) rfl (.cons (i := 12) rfl (.nil))))))) (fun w hw => hw.pick [1] rfl)
    · replace hF6 := cneg hg8 hF6
      refine WL.gn (.pl rfl rfl rfl) hg8 rfl ?_
      refine WL.gn (.pl rfl rfl rfl) hg8 rfl ?_
      refine WL.gn (.pl rfl rfl rfl) hg8 rfl ?_
      refine WL.q (Y.or (b := false) (.pl rfl) (fun h2 => (gabsO hg8 h2).elim)) rfl ?_
      refine WL.nil ?_
      exact W.joinAt1 hK7 ((!r21) || false) (Option.some.inj hF6) (.cons rfl (.nil)) (.cons (i := 6) rfl (.cons (i := 7) rfl (.cons (i := 9) rfl (.cons (i := 10) rfl (.cons (i := 11) rfl (.cons (i := 12) rfl (.nil))))))) (fun w hw => hw.pick [0] rfl)
  · -- behind
    rintro v20 rfl
    refine W.cond (.pl rfl) (fun hC9 => ?_) (fun hC9 => ?_)
    · replace hF := cpos hC9 hF
      -- region 5: seq.go:105
      refine W.seqR fun Q10 hQ10 => ?_
      obtain ⟨r24, hr24, hF⟩ := bnd hF
      refine WL.step (WO.callP isGo47 (.nil) rfl (fun w hw => alibkeep_seqLives_ok (hr24) w ) ?_)
      refine WL.q (Y.move (.pl rfl)) rfl ?_
      refine WL.g (.pl rfl rfl rfl) (fun hg => Y.move (.pl rfl)) rfl ?_
      refine WL.g (.pl rfl rfl rfl) (fun hg => Y.move (.pl rfl)) rfl ?_
      refine WL.g (.pl rfl rfl rfl) (fun hg => Y.eql (.gd (hg) rfl) (.gd (hg) rfl)) rfl ?_
      refine WL.q (Y.and (.pl rfl) (fun h2 => .gd (eqt h2) rfl)) rfl ?_
      refine WL.q (Y.move (.pl rfl)) rfl ?_
      refine WL.g (.pl rfl rfl rfl) (fun hg => Y.move (.pl rfl)) rfl ?_
      refine WL.g (.pl rfl rfl rfl) (fun hg => Y.move (.pl rfl)) rfl ?_
      refine WL.g (.pl rfl rfl rfl) (fun hg => Y.eql (.gd (hg) rfl) (.gd (hg) rfl)) rfl ?_
      refine WL.q (Y.and (.pl rfl) (fun h2 => .gd (eqt h2) rfl)) rfl ?_
      refine WL.q (Y.assign (.pl rfl)) rfl ?_
      refine WL.next hQ10 (.cons (i := 4) rfl (.nil)) ?_
      obtain rfl := Option.some.inj hF
      refine W.retV (fn := Try.f15) (vs := [.bool ((r24 && (decide (r11.2.2 = r14.2.2))) && (decide (r14.2.2 = r17.2)))]) Try.results15 ⟨.tmp rfl, trivial⟩ (fun _ _ h => h) (fun w hw => ?_)
      exact hR _ _ ⟨rfl, (hw.pick [] rfl)⟩
    · replace hF := cneg hC9 hF
      refine W.skip ?_
      refine W.go hK5 (.cons (i := 6) rfl (.cons (i := 9) rfl (.cons (i := 11) rfl (.nil)))) ?_
      obtain ⟨o11, hF11, hF⟩ := bnd hF
      refine W.join0 (Em := []) (M := []) (I := (.inl ()) = o11) (.cons (i := 6) rfl (.cons (i := 9) rfl (.nil))) (fun K12 hK12 => ?_) ?_
      · -- up to
        -- region 6: seq.go:107
        refine W.seqR fun Q13 hQ13 => ?_
        refine WL.q (Y.assign (.pl rfl)) rfl ?_
        refine WL.next hQ13 (.cons (i := 6) rfl (.cons (i := 9) rfl (.cons (i := 11) rfl (.cons (i := 13) rfl (.nil))))) ?_
        refine W.block ?_
        refine W.loop1 (Em := fun (i25 : Int) => [(13, .int .i64 i25)]) (M := fun i25 => [cR (eI .i64) 1 A18 c19 3 r17.1]) (I := fun i25 k14 => iter (alibkeep_SeqCalm_L3 N r17) k14 i25 = some o11) 1 N (hF11) (.cons rfl (.nil)) (.cons (i := 6) rfl (.cons (i := 9) rfl (.cons (i := 11) rfl (.nil)))) (fun w hw => hw.pick [0] rfl) (fun i25 k14 hI K15 hK15 => ?_)
        obtain ⟨k14, t14, rfl, hF14, hN14⟩ := iter_step hI
        refine W.seq fun K16 hK16 => ?_
        -- region 7: seq.go:107
        refine W.seqR fun Q17 hQ17 => ?_
        refine WL.q (Y.move (.pl rfl)) rfl ?_
        refine WL.q (Y.move (.pl rfl)) rfl ?_
        refine WL.q (Y.len Try.underlying22 (.pl rfl)) rfl ?_
        refine WL.q (Y.lss (.pl rfl) (.pl rfl)) rfl ?_
        refine WL.next hQ17 (.cons (i := 6) rfl (.cons (i := 9) rfl (.cons (i := 11) rfl (.cons (i := 13) rfl (.cons (i := 58) rfl (.nil)))))) ?_
        refine W.cond (.pl rfl) (fun hC18 => ?_) (fun hC18 => ?_)
        · replace hF14 := cpos hC18 hF14
          refine W.skip ?_
          refine W.go hK16 (.cons (i := 6) rfl (.cons (i := 9) rfl (.cons (i := 11) rfl (.cons (i := 13) rfl (.nil))))) ?_
          refine W.seq fun K19 hK19 => ?_
          refine W.block ?_
          refine W.seq fun K20 hK20 => ?_
          -- region 9: seq.go:108
          refine W.seqD (by kernel_rfl) (by kernel_rfl) fun R21 hR21 => ?_
          refine WD.q (Y.move (.pl rfl)) rfl ?_
          refine WD.q (Y.move (.pl rfl)) rfl ?_
          obtain ⟨x26, hx26, hF14⟩ := bnd hF14
          refine WD.q (Y.rowEl Try.underlying22 cells3 (i := 0) rfl (.pl rfl) rfl (.pl rfl) (ix_lt (hx26))) rfl ?_
          refine WD.q (Y.loadR (enc := (eI .i64)) (v := .int .i64 x26) (a := x26) (idx := i25) (j := 0) Try.underlying3 rfl (fun _ => rfl) (i := 0) rfl (.pl rfl) (ix_get (hx26)) rfl rfl) rfl ?_
          refine WD.q (Y.move (.pl rfl)) rfl ?_
          refine WD.q (Y.move (.pl rfl)) rfl ?_
          obtain ⟨hk27, hF14⟩ := ckh hF14
          refine WD.q (Y.sub (.pl rfl) (.pl rfl) (ok64_lt (hk27))) rfl ?_
          obtain ⟨x28, hx28, hF14⟩ := bnd hF14
          refine WD.q (Y.rowEl Try.underlying22 cells3 (i := 0) rfl (.pl rfl) rfl (.pl rfl) (ix_lt (hx28))) rfl ?_
          refine WD.q (Y.loadR (enc := (eI .i64)) (v := .int .i64 x28) (a := x28) (idx := (i25 - 1)) (j := 0) Try.underlying3 rfl (fun _ => rfl) (i := 0) rfl (.pl rfl) (ix_get (hx28)) rfl rfl) rfl ?_
          refine WD.q (Y.lss (.pl rfl) (.pl rfl)) rfl ?_
          refine WD.next hR21 (.cons (i := 6) rfl (.cons (i := 9) rfl (.cons (i := 11) rfl (.cons (i := 13) rfl (.cons (i := 70) rfl (.nil)))))) ?_
          refine W.cond (.pl rfl) (fun hC22 => ?_) (fun hC22 => ?_)
          · replace hF14 := cpos hC22 hF14
            -- region 10: seq.go:109
            refine W.seqR fun Q23 hQ23 => ?_
            refine WL.q (Y.assign (.pl rfl)) rfl ?_
            refine WL.next hQ23 (.cons (i := 4) rfl (.nil)) ?_
            obtain rfl := Option.some.inj hF14
            obtain rfl := einr hN14
            obtain rfl := Option.some.inj hF
            refine W.retV (fn := Try.f15) (vs := [.bool false]) Try.results15 ⟨.tmp rfl, trivial⟩ (fun _ _ h => h) (fun w hw => ?_)
            exact hR _ _ ⟨rfl, (hw.pick [] rfl)⟩
          · replace hF14 := cneg hC22 hF14
            refine W.skip ?_
            refine W.go hK20 (.cons (i := 6) rfl (.cons (i := 9) rfl (.cons (i := 11) rfl (.cons (i := 13) rfl (.nil))))) ?_
            -- region 11: seq.go:111
            refine W.seqD (by kernel_rfl) (by kernel_rfl) fun R24 hR24 => ?_
            refine WD.q (Y.move (.pl rfl)) rfl ?_
            refine WD.q (Y.move (.pl rfl)) rfl ?_
            refine WD.q (Y.rowEl Try.underlying22 cells3 (i := 0) rfl (.pl rfl) rfl (.pl rfl) (ix_lt (hx26))) rfl ?_
            refine WD.q (Y.loadR (enc := (eI .i64)) (v := .int .i64 x26) (a := x26) (idx := i25) (j := 0) Try.underlying3 rfl (fun _ => rfl) (i := 0) rfl (.pl rfl) (ix_get (hx26)) rfl rfl) rfl ?_
            refine WD.q (Y.move (.pl rfl)) rfl ?_
            refine WD.q (Y.move (.pl rfl)) rfl ?_
            obtain ⟨hk29, hF14⟩ := ckh hF14
            refine WD.q (Y.sub (.pl rfl) (.pl rfl) (ok64_lt (hk29))) rfl ?_
            refine WD.q (Y.rowEl Try.underlying22 cells3 (i := 0) rfl (.pl rfl) rfl (.pl rfl) (ix_lt (hx28))) rfl ?_
            refine WD.q (Y.loadR (enc := (eI .i64)) (v := .int .i64 x28) (a := x28) (idx := (i25 - 1)) (j := 0) Try.underlying3 rfl (fun _ => rfl) (i := 0) rfl (.pl rfl) (ix_get (hx28)) rfl rfl) rfl ?_
            refine WD.q (Y.eql (.pl rfl) (.pl rfl)) rfl ?_
            refine WD.next hR24 (.cons (i := 6) rfl (.cons (i := 9) rfl (.cons (i := 11) rfl (.cons (i := 13) rfl (.cons (i := 80) rfl (.nil)))))) ?_
            refine W.cond (.pl rfl) (fun hC25 => ?_) (fun hC25 => ?_)
            · replace hF14 := cpos hC25 hF14
              -- region 12: seq.go:112
              refine W.seqR fun Q26 hQ26 => ?_
              refine WL.q (Y.assign (.pl rfl)) rfl ?_
              refine WL.next hQ26 (.cons (i := 4) rfl (.nil)) ?_
              obtain rfl := Option.some.inj hF14
              obtain rfl := einr hN14
              obtain rfl := Option.some.inj hF
              refine W.retV (fn := Try.f15) (vs := [.bool true]) Try.results15 ⟨.tmp rfl, trivial⟩ (fun _ _ h => h) (fun w hw => ?_)
              exact hR _ _ ⟨rfl, (hw.pick [] rfl)⟩
            · replace hF14 := cneg hC25 hF14
              refine W.skip ?_
              refine W.go hK19 (.cons (i := 6) rfl (.cons (i := 9) rfl (.cons (i := 11) rfl (.cons (i := 13) rfl (.nil))))) ?_
              -- region 8: seq.go:107
              refine W.reg ?_
              refine WL.q (Y.move (.pl rfl)) rfl ?_
              obtain ⟨hk30, hF14⟩ := ckh hF14
              refine WL.q (Y.add (.pl rfl) (.pl rfl) (ok64_lt (hk30))) rfl ?_
              refine WL.q (Y.assign (.pl rfl)) rfl ?_
              refine WL.nil ?_
              obtain rfl := Option.some.inj hF14
              exact W.again1 hK15 (i25 + 1) k14 hN14 (Nat.lt_succ_self _) (.cons rfl (.nil)) (.cons (i := 6) rfl (.cons (i := 9) rfl (.cons (i := 11) rfl (.nil)))) (fun w hw => hw.pick [0] rfl)
        · replace hF14 := cneg hC18 hF14
          refine W.exit ?_
          obtain rfl := Option.some.inj hF14
          exact W.joinAt0 hK12  (einr hN14) (.nil) (.cons (i := 6) rfl (.cons (i := 9) rfl (.nil))) (fun w hw => hw.pick [] rfl)
      · -- behind
        rintro  rfl
        -- region 13: seq.go:115
        refine W.seqR fun Q28 hQ28 => ?_
        refine WL.q (Y.move (.pl rfl)) rfl ?_
        refine WL.q (Y.move (.pl rfl)) rfl ?_
        refine WL.q (Y.eqlB Try.underlying4 (.pl rfl) (.pl rfl)) rfl ?_
        refine WL.q (Y.assign (.pl rfl)) rfl ?_
        refine WL.next hQ28 (.cons (i := 4) rfl (.nil)) ?_
        obtain rfl := Option.some.inj hF
        refine W.retV (fn := Try.f15) (vs := [.bool (r14.2.1 == r11.2.1)]) Try.results15 ⟨.tmp rfl, trivial⟩ (fun _ _ h => h) (fun w hw => ?_)
        exact hR _ _ ⟨rfl, (hw.pick [] rfl)⟩

def alibkeep_SeqOrdered_L3 (N : Nat) (r11 : ((List Step) × Bool × Int)) (r14 : ((List Call) × Int × Int)) : ((List Event) × Int) → Option (((List Event) × Int) ⊕ ((List Event) ⊕ Bool))
  | (m27, v28) =>
    cond (decide (v28 < ((r11.1).length : Int)))
      (bd (ix r11.1 v28) fun (x29 : Step) =>
      cond ((decide (x29.call < 0)) || (decide (((r14.1).length : Int) ≤ x29.call)))
        (some (.inr (.inr false)))
        (bd (ix r14.1 x29.call) fun (x31 : Call) =>
        ck (limB 32 ((m27).length + (([(Event.mk x31.who x31.thing x31.kind x31.arg), (Event.mk x31.who x31.thing 0 x29.res)] : List Event)).length)) <|
        ck (ok64 (v28 + 1)) <|
        some (.inl ((m27 ++ ([(Event.mk x31.who x31.thing x31.kind x31.arg), (Event.mk x31.who x31.thing 0 x29.res)] : List Event)), (v28 + 1)))))
      (some (.inr (.inl m27)))

def alibkeep_SeqOrdered (N : Nat) (types1 : (List Int)) (l6 : (List Event)) : Option Bool :=
  bd (seq_Find N types1 l6) fun (r11 : ((List Step) × Bool × Int)) =>
  bd (history_Calls N types1 l6) fun (r14 : ((List Call) × Int × Int)) =>
  bd (α := Bool) (bd (alibkeep_seqLives N) fun (r18 : Bool) =>
    cond ((!r18) == false)
      (bd (alibkeep_ok N ([r11.2.2, r14.2.2] : List Int)) fun (r20 : Bool) =>
      some (((!r18) || (!r20)) || (!r11.2.1)))
      (some (((!r18) || false) || (!r11.2.1)))) <|
  fun (v17 : Bool) => 
    cond v17
      (bd (alibkeep_seqLives N) fun (r21 : Bool) =>
      some r21)
      (bd (α := ((List Event) ⊕ Bool)) (iter (alibkeep_SeqOrdered_L3 N r11 r14) N ([], 0)) <|
      Sum.elim (fun (m24 : (List Event)) => 
        bd (search_Find N types1 m24) fun (r38 : ((List Step) × Bool × Int)) =>
        some ((decide (r38.2.2 = 0)) && r38.2.1)) (fun p => some p))

theorem alibkeep_SeqOrdered_ok {N : Nat} {types1 : (List Int)} {l6 : (List Event)} {res : Bool} (hF : alibkeep_SeqOrdered N types1 l6 = some res) (w : World) {v5 : Value} (hs4 : SlIn (eI .i64) 1 w v5 types1) {v10 : Value} (hs9 : SlIn encEvent 4 w v10 l6) :
    Pure Try.prog 14 [v5, v10] w (.bool res) := by
  obtain ⟨A2, c3, rfl, hcc3, hs4⟩ := hs4.form
  obtain ⟨A7, c8, rfl, hcc8, hs9⟩ := hs9.form
  refine W.enter (n := 99) Try.func14 rfl rfl Sub.refl (by simp) (St.start w) fun R hR => ?_
  unfold alibkeep_SeqOrdered at hF
  -- region 0: seq.go:81
  refine W.seqR fun Q1 hQ1 => ?_
  refine WL.q (Y.assign (.pl rfl)) rfl ?_
  refine WL.next hQ1 (.cons (i := 0) rfl (.cons (i := 1) rfl (.nil))) ?_
  -- region 1: seq.go:82
  refine W.seqR fun Q2 hQ2 => ?_
  refine WL.q (Y.move (.pl rfl)) rfl ?_
  refine WL.q (Y.move (.pl rfl)) rfl ?_
  obtain ⟨r11, hr11, hF⟩ := bnd hF
  refine WL.step (WO.callM isGo46 (.cons (.pl rfl) (.cons (.pl rfl) (.nil))) rfl (fun w hw => seq_Find_ok (hr11) w (hs4.mono hw) (hs9.mono hw)) ?_)
  rintro ⟨A12, c13⟩ -
  refine WL.q (Y.move (.pl rfl)) rfl ?_
  refine WL.q (Y.extract (.pl rfl) rfl) rfl ?_
  refine WL.q (Y.extract (.pl rfl) rfl) rfl ?_
  refine WL.q (Y.extract (.pl rfl) rfl) rfl ?_
  refine WL.q (Y.assign (.pl rfl)) rfl ?_
  refine WL.q (Y.assign (.pl rfl)) rfl ?_
  refine WL.q (Y.assign (.pl rfl)) rfl ?_
  refine WL.next hQ2 (.cons (i := 0) rfl (.cons (i := 1) rfl (.cons (i := 5) rfl (.cons (i := 6) rfl (.cons (i := 7) rfl (.nil)))))) ?_
  -- region 2: seq.go:83
  refine W.seqR fun Q3 hQ3 => ?_
  refine WL.q (Y.move (.pl rfl)) rfl ?_
  refine WL.q (Y.move (.pl rfl)) rfl ?_
  obtain ⟨r14, hr14, hF⟩ := bnd hF
  refine WL.step (WO.callM isGo37 (.cons (.pl rfl) (.cons (.pl rfl) (.nil))) rfl (fun w hw => history_Calls_ok (hr14) w (hs4.mono hw) (hs9.mono hw)) ?_)
  rintro ⟨A15, c16⟩ -
  refine WL.q (Y.move (.pl rfl)) rfl ?_
  refine WL.q (Y.extract (.pl rfl) rfl) rfl ?_
  refine WL.q (Y.extract (.pl rfl) rfl) rfl ?_
  refine WL.q (Y.extract (.pl rfl) rfl) rfl ?_
  refine WL.q (Y.assign (.pl rfl)) rfl ?_
  refine WL.q (Y.assign (.pl rfl)) rfl ?_
  refine WL.q (Y.assign (.pl rfl)) rfl ?_
  refine WL.next hQ3 (.cons (i := 0) rfl (.cons (i := 5) rfl (.cons (i := 6) rfl (.cons (i := 7) rfl (.cons (i := 8) rfl (.cons (i := 10) rfl (.nil))))))) ?_
  refine W.seq fun K4 hK4 => ?_
  obtain ⟨o5, hF5, hF⟩ := bnd hF
  refine W.join1 (Em := fun (v17 : Bool) => [(44, .bool v17)]) (M := fun v17 => [cR encStep 2 A12 c13 58 r11.1, cR encCall 7 A15 c16 55 r14.1]) (I := fun v17 => v17 = o5) (.cons (i := 0) rfl (.cons (i := 5) rfl (.cons (i := 8) rfl (.nil)))) (fun K6 hK6 => ?_) ?_
  · -- up to
    -- region 3: seq.go:84
    refine W.reg ?_
    obtain ⟨r18, hr18, hF5⟩ := bnd hF5
    refine WL.step (WO.callP isGo47 (.nil) rfl (fun w hw => alibkeep_seqLives_ok (hr18) w ) ?_)
    refine WL.q (Y.not (.pl rfl)) rfl ?_
    refine WL.q (Y.move (.pl rfl)) rfl ?_
    refine WL.g (.pl rfl rfl rfl) (fun hg => Y.move (.pl rfl)) rfl ?_
    refine WL.g (.pl rfl rfl rfl) (fun hg => Y.move (.pl rfl)) rfl ?_
    refine bsplit ((!r18) == false) (fun hg7 => ?_) (fun hg7 => ?_)
    · replace hF5 := cpos hg7 hF5
      refine WL.gd (.pl rfl rfl rfl) (hg7) ?_
      refine WL.step (WO.bsliceC (enc := (eI .i64)) (ys := ([r11.2.2, r14.2.2] : List Int)) Try.underlying88 bz29 (.cons (.gd (hg7) rfl) (.cons (.gd (hg7) rfl) (.nil))) rfl (fun _ => rfl) rfl rfl (by decide) (by decide) rfl fun b19 => ?_)
      refine WL.gd (.pl rfl rfl rfl) (hg7) ?_
      obtain ⟨r20, hr20, hF5⟩ := bnd hF5
      refine WL.step (WO.callP isGo28 (.cons (.pl rfl) (.nil)) rfl (fun w hw => alibkeep_ok_ok (hr20) w (SlIn.ofRow (fun _ => rfl) hw (i := 0) rfl)) ?_)
      refine WL.gd (.pl rfl rfl rfl) (hg7) ?_
      refine WL.q (Y.not (.pl rfl)) rfl ?_
      refine WL.q (Y.or (.pl rfl) (fun _ => .pl rfl)) rfl ?_
      refine WL.q (Y.move (.pl rfl)) rfl ?_
      refine WL.g (.pl rfl rfl rfl) (fun hg => Y.move (.pl rfl)) rfl ?_
      refine WL.g (.pl rfl rfl rfl) (fun hg => Y.not (.gd (hg) rfl)) rfl ?_
      refine WL.q (Y.or (.pl rfl) (fun h2 => .gd (eqf h2) rfl)) rfl ?_
      refine WL.nil ?_
      exact W.joinAt1 hK6 (((!r18) || (!r20)) || (!r11.2.1)) (Option.some.inj hF5) (.cons rfl (.nil)) (.cons (i := 0) rfl (.cons (i := 5) rfl (.cons (i := 8) rfl (.nil)))) (fun w hw => hw.pick [2, 1] rfl)
    · replace hF5 := cneg hg7 hF5
      refine WL.gn (.pl rfl rfl rfl) hg7 rfl ?_
      refine WL.gn (.pl rfl rfl rfl) hg7 rfl ?_
      refine WL.gn (.pl rfl rfl rfl) hg7 rfl ?_
      refine WL.q (Y.or (b := false) (.pl rfl) (fun h2 => (gabsO hg7 h2).elim)) rfl ?_
      refine WL.q (Y.move (.pl rfl)) rfl ?_
      refine WL.g (.pl rfl rfl rfl) (fun hg => Y.move (.pl rfl)) rfl ?_
      refine WL.g (.pl rfl rfl rfl) (fun hg => Y.not (.gd (hg) rfl)) rfl ?_
      refine WL.q (Y.or (.pl rfl) (fun h2 => .gd (eqf h2) rfl)) rfl ?_
      refine WL.nil ?_
      exact W.joinAt1 hK6 (((!r18) || false) || (!r11.2.1)) (Option.some.inj hF5) (.cons rfl (.nil)) (.cons (i := 0) rfl (.cons (i := 5) rfl (.cons (i := 8) rfl (.nil)))) (fun w hw => hw.pick [1, 0] rfl)
  · -- behind
    rintro v17 rfl
    refine W.cond (.pl rfl) (fun hC8 => ?_) (fun hC8 => ?_)
    · replace hF := cpos hC8 hF
      -- region 4: seq.go:85
      refine W.seqR fun Q9 hQ9 => ?_
      obtain ⟨r21, hr21, hF⟩ := bnd hF
      refine WL.step (WO.callP isGo47 (.nil) rfl (fun w hw => alibkeep_seqLives_ok (hr21) w ) ?_)
      refine WL.q (Y.assign (.pl rfl)) rfl ?_
      refine WL.next hQ9 (.cons (i := 4) rfl (.nil)) ?_
      obtain rfl := Option.some.inj hF
      refine W.retV (fn := Try.f14) (vs := [.bool r21]) Try.results14 ⟨.tmp rfl, trivial⟩ (fun _ _ h => h) (fun w hw => ?_)
      exact hR _ _ ⟨rfl, (hw.pick [] rfl)⟩
    · replace hF := cneg hC8 hF
      refine W.skip ?_
      refine W.go hK4 (.cons (i := 0) rfl (.cons (i := 5) rfl (.cons (i := 8) rfl (.nil)))) ?_
      -- region 5: seq.go:87
      refine W.seqR fun Q10 hQ10 => ?_
      refine WL.q (Y.assign (.pl rfl)) rfl ?_
      refine WL.next hQ10 (.cons (i := 0) rfl (.cons (i := 5) rfl (.cons (i := 8) rfl (.cons (i := 11) rfl (.nil))))) ?_
      obtain ⟨o11, hF11, hF⟩ := bnd hF
      refine W.join3 (Em := fun (m24 : (List Event)) (A22 : Option Addr) (c23 : Nat) => [(11, .slice A22 (m24).length c23)]) (M := fun m24 A22 c23 => [cR encEvent 4 A22 c23 49 m24]) (I := fun m24 A22 c23 => (.inl m24) = o11) (.cons (i := 0) rfl (.nil)) (fun K12 hK12 => ?_) ?_
      · -- up to
        -- region 6: seq.go:88
        refine W.seqR fun Q13 hQ13 => ?_
        refine WL.q (Y.move (.pl rfl)) rfl ?_
        refine WL.q (Y.len Try.underlying44 (.pl rfl)) rfl ?_
        refine WL.q (Y.move (.pl rfl)) rfl ?_
        refine WL.next hQ13 (.cons (i := 0) rfl (.cons (i := 8) rfl (.cons (i := 11) rfl (.cons (i := 46) rfl (.cons (i := 47) rfl (.cons (i := 48) rfl (.nil))))))) ?_
        refine W.block ?_
        refine W.loop4 (Em := fun (m27 : (List Event)) (v28 : Int) (A25 : Option Addr) (c26 : Nat) => [(11, .slice A25 (m27).length c26), (48, .int .i64 v28)]) (M := fun m27 v28 A25 c26 => [cR encCall 7 A15 c16 55 r14.1, cR encEvent 4 A25 c26 49 m27, cR encStep 2 A12 c13 58 r11.1]) (I := fun m27 v28 A25 c26 k14 => iter (alibkeep_SeqOrdered_L3 N r11 r14) k14 (m27, v28) = some o11) [] 0 none 0 N (hF11) (.cons rfl (.cons rfl (.nil))) (.cons (i := 0) rfl (.cons (i := 8) rfl (.cons (i := 46) rfl (.cons (i := 47) rfl (.nil))))) (fun w hw => (St.nilR (hw.pick [1, 0] rfl) encEvent 4 49).pick [1, 0, 2] rfl) (fun m27 v28 A25 c26 k14 hI K15 hK15 => ?_)
        obtain ⟨k14, t14, rfl, hF14, hN14⟩ := iter_step hI
        -- region 7: seq.go:88
        refine W.seqR fun Q16 hQ16 => ?_
        refine WL.q (Y.lss (.pl rfl) (.pl rfl)) rfl ?_
        refine WL.next hQ16 (.cons (i := 0) rfl (.cons (i := 8) rfl (.cons (i := 11) rfl (.cons (i := 46) rfl (.cons (i := 47) rfl (.cons (i := 48) rfl (.cons (i := 49) rfl (.nil)))))))) ?_
        refine W.seq fun K17 hK17 => ?_
        refine W.cond (.pl rfl) (fun hC18 => ?_) (fun hC18 => ?_)
        · replace hF14 := cpos hC18 hF14
          refine W.skip ?_
          refine W.go hK17 (.cons (i := 0) rfl (.cons (i := 8) rfl (.cons (i := 11) rfl (.cons (i := 46) rfl (.cons (i := 47) rfl (.cons (i := 48) rfl (.nil))))))) ?_
          refine W.seq fun K19 hK19 => ?_
          refine W.block ?_
          -- region 8: seq.go:88
          refine W.seqR fun Q20 hQ20 => ?_
          obtain ⟨x29, hx29, hF14⟩ := bnd hF14
          refine WL.q (Y.rowEl Try.underlying44 cells58 (i := 2) rfl (.pl rfl) rfl (.pl rfl) (ix_lt (hx29))) rfl ?_
          refine WL.q (Y.loadRA (enc := encStep) (ds := (encStep x29)) (a := x29) (idx := v28) (j := 0) Try.underlying58 rfl cells58 lenStep (i := 2) rfl (.pl rfl) (ix_get (hx29)) rfl rfl subW) rfl ?_
          refine WL.step (WO.alloc (cs := (encStep (Step.mk 0 0)).toArray) zero58 rfl rfl fun b30 => ?_)
          refine WL.step (WO.storeBA (ds := (encStep x29)) (cs' := (encStep x29)) cells58 (.pl rfl) (.pl rfl) rfl (oneStep _) (i := 0) rfl (lel (o := 0) (l := 2) (m := 2) (by decide) rfl rfl) (putW rfl) ?_)
          refine WL.next hQ20 (.cons (i := 0) rfl (.cons (i := 8) rfl (.cons (i := 11) rfl (.cons (i := 13) rfl (.cons (i := 46) rfl (.cons (i := 47) rfl (.cons (i := 48) rfl (.nil)))))))) ?_
          refine W.seq fun K21 hK21 => ?_
          -- region 9: seq.go:89
          refine W.seqR fun Q22 hQ22 => ?_
          refine WL.q (Y.fieldAddr0 (off := 0) (ft := 3) Try.underlying58 rfl cells3 (.pl rfl)) rfl ?_
          refine WL.q (Y.loadB (v := .int .i64 x29.call) Try.underlying3 rfl (.pl rfl) (i := 0) rfl (rfl)) rfl ?_
          refine WL.q (Y.lss (.pl rfl) (.pl rfl)) rfl ?_
          refine WL.q (Y.move (.pl rfl)) rfl ?_
          refine WL.g (.pl rfl rfl rfl) (fun hg => Y.fieldAddr0 (off := 0) (ft := 3) Try.underlying58 rfl cells3 (.pl rfl)) rfl ?_
          refine WL.g (.pl rfl rfl rfl) (fun hg => Y.loadB (v := .int .i64 x29.call) Try.underlying3 rfl (.gd (hg) rfl) (i := 0) rfl (rfl)) rfl ?_
          refine WL.g (.pl rfl rfl rfl) (fun hg => Y.move (.pl rfl)) rfl ?_
          refine WL.g (.pl rfl rfl rfl) (fun hg => Y.len Try.underlying51 (.gd (hg) rfl)) rfl ?_
          refine WL.g (.pl rfl rfl rfl) (fun hg => Y.geq (.gd (hg) rfl) (.gd (hg) rfl)) rfl ?_
          refine WL.q (Y.or (.pl rfl) (fun h2 => .gd (eqf h2) rfl)) rfl ?_
          refine WL.next hQ22 (.cons (i := 0) rfl (.cons (i := 8) rfl (.cons (i := 11) rfl (.cons (i := 13) rfl (.cons (i := 46) rfl (.cons (i := 47) rfl (.cons (i := 48) rfl (.cons (i := 61) rfl (.nil))))))))) ?_
          refine W.cond (.pl rfl) (fun hC23 => ?_) (fun hC23 => ?_)
          · replace hF14 := cpos hC23 hF14
            -- region 10: seq.go:90
            refine W.seqR fun Q24 hQ24 => ?_
            refine WL.q (Y.assign (.pl rfl)) rfl ?_
            refine WL.next hQ24 (.cons (i := 4) rfl (.nil)) ?_
            obtain rfl := Option.some.inj hF14
            obtain rfl := einr hN14
            obtain rfl := Option.some.inj hF
            refine W.retV (fn := Try.f14) (vs := [.bool false]) Try.results14 ⟨.tmp rfl, trivial⟩ (fun _ _ h => h) (fun w hw => ?_)
            exact hR _ _ ⟨rfl, (hw.pick [] rfl)⟩
          · replace hF14 := cneg hC23 hF14
            refine W.skip ?_
            refine W.go hK21 (.cons (i := 0) rfl (.cons (i := 8) rfl (.cons (i := 11) rfl (.cons (i := 13) rfl (.cons (i := 46) rfl (.cons (i := 47) rfl (.cons (i := 48) rfl (.nil)))))))) ?_
            -- region 11: seq.go:92
            refine W.seqR fun Q25 hQ25 => ?_
            refine WL.q (Y.move (.pl rfl)) rfl ?_
            refine WL.q (Y.fieldAddr0 (off := 0) (ft := 3) Try.underlying58 rfl cells3 (.pl rfl)) rfl ?_
            refine WL.q (Y.loadB (v := .int .i64 x29.call) Try.underlying3 rfl (.pl rfl) (i := 0) rfl (rfl)) rfl ?_
            obtain ⟨x31, hx31, hF14⟩ := bnd hF14
            refine WL.q (Y.rowEl Try.underlying51 cells55 (i := 1) rfl (.pl rfl) rfl (.pl rfl) (ix_lt (hx31))) rfl ?_
            refine WL.q (Y.loadRA (enc := encCall) (ds := (encCall x31)) (a := x31) (idx := x29.call) (j := 0) Try.underlying55 rfl cells55 lenCall (i := 1) rfl (.pl rfl) (ix_get (hx31)) rfl rfl subW) rfl ?_
            refine WL.step (WO.alloc (cs := (encCall (Call.mk 0 0 0 0 0 0 0)).toArray) zero55 rfl rfl fun b32 => ?_)
            refine WL.step (WO.storeBA (ds := (encCall x31)) (cs' := (encCall x31)) cells55 (.pl rfl) (.pl rfl) rfl (oneCall _) (i := 0) rfl (lel (o := 0) (l := 7) (m := 7) (by decide) rfl rfl) (putW rfl) ?_)
            refine WL.next hQ25 (.cons (i := 0) rfl (.cons (i := 8) rfl (.cons (i := 11) rfl (.cons (i := 13) rfl (.cons (i := 14) rfl (.cons (i := 46) rfl (.cons (i := 47) rfl (.cons (i := 48) rfl (.nil))))))))) ?_
            -- region 12: seq.go:93
            refine W.reg ?_
            refine WL.q (Y.move (.pl rfl)) rfl ?_
            refine WL.q (Y.fieldAddr0 (off := 0) (ft := 3) Try.underlying55 rfl cells3 (.pl rfl)) rfl ?_
            refine WL.q (Y.loadB (v := .int .i64 x31.who) Try.underlying3 rfl (.pl rfl) (i := 0) rfl (rfl)) rfl ?_
            refine WL.q (Y.fieldAddr0 (off := 1) (ft := 3) Try.underlying55 rfl cells3 (.pl rfl)) rfl ?_
            refine WL.q (Y.loadB (v := .int .i64 x31.thing) Try.underlying3 rfl (.pl rfl) (i := 0) rfl (rfl)) rfl ?_
            refine WL.q (Y.fieldAddr0 (off := 2) (ft := 3) Try.underlying55 rfl cells3 (.pl rfl)) rfl ?_
            refine WL.q (Y.loadB (v := .int .i64 x31.kind) Try.underlying3 rfl (.pl rfl) (i := 0) rfl (rfl)) rfl ?_
            refine WL.q (Y.fieldAddr0 (off := 3) (ft := 3) Try.underlying55 rfl cells3 (.pl rfl)) rfl ?_
            refine WL.q (Y.loadB (v := .int .i64 x31.arg) Try.underlying3 rfl (.pl rfl) (i := 0) rfl (rfl)) rfl ?_
            refine WL.q (Y.build (cs := (encEvent (Event.mk x31.who x31.thing x31.kind x31.arg)).toArray) shape49 (.cons (.pl rfl) (.cons (.pl rfl) (.cons (.pl rfl) (.cons (.pl rfl) (.nil))))) (one_parts ⟨rfl, ⟨rfl, ⟨rfl, ⟨rfl, trivial⟩⟩⟩⟩) rfl) rfl ?_
            refine WL.q (Y.fieldAddr0 (off := 0) (ft := 3) Try.underlying55 rfl cells3 (.pl rfl)) rfl ?_
            refine WL.q (Y.loadB (v := .int .i64 x31.who) Try.underlying3 rfl (.pl rfl) (i := 0) rfl (rfl)) rfl ?_
            refine WL.q (Y.fieldAddr0 (off := 1) (ft := 3) Try.underlying55 rfl cells3 (.pl rfl)) rfl ?_
            refine WL.q (Y.loadB (v := .int .i64 x31.thing) Try.underlying3 rfl (.pl rfl) (i := 0) rfl (rfl)) rfl ?_
            refine WL.q (Y.fieldAddr0 (off := 1) (ft := 3) Try.underlying58 rfl cells3 (.pl rfl)) rfl ?_
            refine WL.q (Y.loadB (v := .int .i64 x29.res) Try.underlying3 rfl (.pl rfl) (i := 1) rfl (rfl)) rfl ?_
            refine WL.q (Y.build (cs := (encEvent (Event.mk x31.who x31.thing 0 x29.res)).toArray) shape49 (.cons (.pl rfl) (.cons (.pl rfl) (.cons (.pl rfl) (.nil)))) (one_parts ⟨rfl, ⟨rfl, ⟨rfl, trivial⟩⟩⟩) rfl) rfl ?_
            refine WL.step (WO.bsliceC (enc := encEvent) (ys := ([(Event.mk x31.who x31.thing x31.kind x31.arg), (Event.mk x31.who x31.thing 0 x29.res)] : List Event)) Try.underlying43 bz49 (.cons (.pl rfl) (.cons (.pl rfl) (.nil))) rfl lenEvent rfl rfl (by decide) (by decide) rfl fun b33 => ?_)
            obtain ⟨hk36, hF14⟩ := ckh hF14
            refine WL.step (WO.appendC (enc := encEvent) Try.underlying43 ap49 lenEvent oneEvent (.pl rfl) rfl (.pl rfl) (i := 4) rfl (m2 := 0) rfl (hk36) rfl fun A34 c35 => ?_)
            refine WL.q (Y.assign (.pl rfl)) rfl ?_
            refine WL.nil ?_
            refine W.go hK19 (.cons (i := 0) rfl (.cons (i := 8) rfl (.cons (i := 11) rfl (.cons (i := 46) rfl (.cons (i := 47) rfl (.cons (i := 48) rfl (.nil))))))) ?_
            -- region 13: seq.go:88
            refine W.reg ?_
            obtain ⟨hk37, hF14⟩ := ckh hF14
            refine WL.q (Y.add (.pl rfl) (.pl rfl) (ok64_lt (hk37))) rfl ?_
            refine WL.q (Y.move (.pl rfl)) rfl ?_
            refine WL.nil ?_
            obtain rfl := Option.some.inj hF14
            exact W.again4 hK15 (m27 ++ ([(Event.mk x31.who x31.thing x31.kind x31.arg), (Event.mk x31.who x31.thing 0 x29.res)] : List Event)) (v28 + 1) A34 c35 k14 hN14 (Nat.lt_succ_self _) (.cons rfl (.cons rfl (.nil))) (.cons (i := 0) rfl (.cons (i := 8) rfl (.cons (i := 46) rfl (.cons (i := 47) rfl (.nil))))) (fun w hw => hw.pick [3, 4, 5] rfl)
        · replace hF14 := cneg hC18 hF14
          refine W.exit ?_
          obtain rfl := Option.some.inj hF14
          exact W.joinAt3 hK12 m27 A25 c26 (einr hN14) (.cons rfl (.nil)) (.cons (i := 0) rfl (.nil)) (fun w hw => hw.pick [1] rfl)
      · -- behind
        rintro m24 A22 c23 rfl
        -- region 14: seq.go:95
        refine W.seqR fun Q28 hQ28 => ?_
        refine WL.q (Y.move (.pl rfl)) rfl ?_
        refine WL.q (Y.move (.pl rfl)) rfl ?_
        obtain ⟨r38, hr38, hF⟩ := bnd hF
        refine WL.step (WO.callM isGo34 (.cons (.pl rfl) (.cons (.pl rfl) (.nil))) rfl (fun w hw => search_Find_ok (hr38) w (hs4.mono hw) (SlIn.ofRow lenEvent hw (i := 0) rfl)) ?_)
        rintro ⟨A39, c40⟩ -
        refine WL.q (Y.move (.pl rfl)) rfl ?_
        refine WL.q (Y.extract (.pl rfl) rfl) rfl ?_
        refine WL.q (Y.extract (.pl rfl) rfl) rfl ?_
        refine WL.q (Y.extract (.pl rfl) rfl) rfl ?_
        refine WL.q (Y.assign (.pl rfl)) rfl ?_
        refine WL.q (Y.assign (.pl rfl)) rfl ?_
        refine WL.q (Y.assign (.pl rfl)) rfl ?_
        refine WL.next hQ28 (.cons (i := 16) rfl (.cons (i := 17) rfl (.nil))) ?_
        -- region 15: seq.go:96
        refine W.seqR fun Q29 hQ29 => ?_
        refine WL.q (Y.move (.pl rfl)) rfl ?_
        refine WL.q (Y.eql (.pl rfl) (.pl rfl)) rfl ?_
        refine WL.q (Y.move (.pl rfl)) rfl ?_
        refine WL.g (.pl rfl rfl rfl) (fun hg => Y.move (.pl rfl)) rfl ?_
        refine WL.q (Y.and (.pl rfl) (fun h2 => .gd (eqt h2) rfl)) rfl ?_
        refine WL.q (Y.assign (.pl rfl)) rfl ?_
        refine WL.next hQ29 (.cons (i := 4) rfl (.nil)) ?_
        obtain rfl := Option.some.inj hF
        refine W.retV (fn := Try.f14) (vs := [.bool ((decide (r38.2.2 = 0)) && r38.2.1)]) Try.results14 ⟨.tmp rfl, trivial⟩ (fun _ _ h => h) (fun w hw => ?_)
        exact hR _ _ ⟨rfl, (hw.pick [] rfl)⟩

end Go.Proofs.Ytpakplmpihhmbaa
