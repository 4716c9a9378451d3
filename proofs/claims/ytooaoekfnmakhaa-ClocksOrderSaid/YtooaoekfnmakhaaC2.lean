/- The laws of clocks: what their code computes, and the walks, on. -/
import Derived.Test.YtooaoekfnmakhaaC1
set_option linter.unusedVariables false
set_option linter.unusedSimpArgs false
set_option linter.unusedSectionVars false
set_option maxRecDepth 100000
namespace Go.Proofs.Ytooaoekfnmakhaa
open Go.RowKit
structure Rel where
  n : Int
  after : List Int
deriving DecidableEq
def Rel.z : Rel := ⟨0, []⟩
def encRel (x : Rel) : List Value := (Value.int .i64 x.n :: ((encA 12 (eI .u16) 0) x.after ++ []))
theorem lenRel (x : Rel) : (encRel x).length = 13 := rfl
theorem oneRel : ∀ x, ∀ v ∈ encRel x, v.oneCell' = true := fun x => (one_cons rfl (one_app ((oneA oneI) _) one_nil))
theorem cells44 : Try.prog.cellsOf 44 = 0 + 1 := by kernel_rfl
theorem cells45 : Try.prog.cellsOf 45 = 11 + 1 := by kernel_rfl
theorem cells47 : Try.prog.cellsOf 47 = 12 + 1 := by kernel_rfl
theorem isGo27 : IsGo Try.prog 27 := ⟨_, Try.func27, by kernel_rfl, rfl⟩
theorem isGo33 : IsGo Try.prog 33 := ⟨_, Try.func33, by kernel_rfl, rfl⟩
theorem isGo45 : IsGo Try.prog 45 := ⟨_, Try.func45, by kernel_rfl, rfl⟩
theorem isGo46 : IsGo Try.prog 46 := ⟨_, Try.func46, by kernel_rfl, rfl⟩
theorem zero47 : ∃ i, Try.prog.info? 47 = some i ∧ i.zero = some (Value.agg #[(Value.int .i64 0), (Value.int .u16 0), (Value.int .u16 0), (Value.int .u16 0), (Value.int .u16 0), (Value.int .u16 0), (Value.int .u16 0), (Value.int .u16 0), (Value.int .u16 0), (Value.int .u16 0), (Value.int .u16 0), (Value.int .u16 0), (Value.int .u16 0)]) := ⟨_, rfl, by kernel_rfl⟩
theorem shape47 : Shape Try.prog 47 [(0, 1), (1, 12)] #[(Value.int .i64 0), (Value.int .u16 0), (Value.int .u16 0), (Value.int .u16 0), (Value.int .u16 0), (Value.int .u16 0), (Value.int .u16 0), (Value.int .u16 0), (Value.int .u16 0), (Value.int .u16 0), (Value.int .u16 0), (Value.int .u16 0), (Value.int .u16 0)] := ⟨_, _, Value.agg #[(Value.int .i64 0), (Value.int .u16 0), (Value.int .u16 0), (Value.int .u16 0), (Value.int .u16 0), (Value.int .u16 0), (Value.int .u16 0), (Value.int .u16 0), (Value.int .u16 0), (Value.int .u16 0), (Value.int .u16 0), (Value.int .u16 0), (Value.int .u16 0)], Try.underlying47, rfl, by kernel_rfl, rfl, by kernel_rfl, by decide⟩
theorem eqg47 : EqIA Try.prog 47 12 .i64 .u16 := ⟨3, 45, 44, .u16, by kernel_rfl, by kernel_rfl, by kernel_rfl, by kernel_rfl, by kernel_rfl, by kernel_rfl, by kernel_rfl, by kernel_rfl, by kernel_rfl, by decide⟩
def clocks_Before_L27 (N : Nat) (l1 : (List Mark)) (v13 : Int) (r9 : (List (List Int))) (x15 : Mark) : ((List Int) × Int) → Option (((List Int) × Int) ⊕ (List Int))
  | (After17, v18) =>
    cond (decide (v18 < ((l1).length : Int)))
      (bd ((cond ((!(decide (v13 = v18))) == true) (ix r9 v18) (some []))) fun (x19 : (List Int)) =>
      bd ((cond ((!(decide (v13 = v18))) == true) (ax 8 0 x19 x15.who) (some 0))) fun (x20 : Int) =>
      bd ((cond ((!(decide (v13 = v18))) == true) (ix r9 v13) (some []))) fun (x21 : (List Int)) =>
      bd ((cond ((!(decide (v13 = v18))) == true) (ax 8 0 x21 x15.who) (some 0))) fun (x22 : Int) =>
      cond ((!(decide (v13 = v18))) && (decide (x22 ≤ x20)))
        (bd (ax 12 0 After17 v13) fun (x23 : Int) =>
        bd (ax 12 0 After17 v13) fun (x24 : Int) =>
        ck (ok64 (v18 + 1)) <|
        some (.inl ((setA 12 0 After17 v13 (borI .u16 x23 (shlI .u16 1 (IntKind.u64.wrap v18)))), (v18 + 1))))
        (ck (ok64 (v18 + 1)) <|
        some (.inl (After17, (v18 + 1)))))
      (some (.inr After17))

def clocks_Before_L25 (N : Nat) (l1 : (List Mark)) (r9 : (List (List Int))) : ((List Int) × Int) → Option (((List Int) × Int) ⊕ (List Int))
  | (After12, v13) =>
    cond (decide (v13 < ((l1).length : Int)))
      (bd (α := (List Int)) (bd (ix l1 v13) fun (x15 : Mark) =>
        iter (clocks_Before_L27 N l1 v13 r9 x15) N (After12, 0)) <|
      fun (After14 : (List Int)) => 
        ck (ok64 (v13 + 1)) <|
        some (.inl (After14, (v13 + 1))))
      (some (.inr After12))

def clocks_Before (N : Nat) (l1 : (List Mark)) : Option (Int × (List Int) × Int) :=
  bd (clocks_Check N l1) fun (r7 : (Int × Int)) =>
  cond (!(decide (r7.2 = 0)))
    (some (0, [], r7.2))
    (cond (decide (12 < ((l1).length : Int)))
      (some (0, [], 2))
      (bd (clocks_knows N l1) fun (r9 : (List (List Int))) =>
      bd (α := (List Int)) (iter (clocks_Before_L25 N l1 r9) N ([], 0)) <|
      fun (After11 : (List Int)) => 
        some (((l1).length : Int), After11, 0)))

theorem clocks_Before_ok {N : Nat} {l1 : (List Mark)} {res : (Int × (List Int) × Int)} (hF : clocks_Before N l1 = some res) (w : World) {v5 : Value} (hs4 : SlIn encMark 3 w v5 l1) :
    Pure Try.prog 33 [v5] w (.tuple #[.agg (encRel (Rel.mk res.1 res.2.1)).toArray, .int .i64 res.2.2]) := by
  obtain ⟨A2, c3, rfl, hcc3, hs4⟩ := hs4.form
  refine W.enter (n := 74) Try.func33 rfl rfl Sub.refl (by simp) (St.start w) fun R hR => ?_
  unfold clocks_Before at hF
  -- region 0: clocks.go:100
  refine W.seqR fun Q1 hQ1 => ?_
  refine WL.step (WO.alloc (cs := (encRel (Rel.mk 0 [])).toArray) zero47 rfl rfl fun b6 => ?_)
  refine WL.q (Y.assign (.pl rfl)) rfl ?_
  refine WL.next hQ1 (.cons (i := 0) rfl (.cons (i := 2) rfl (.nil))) ?_
  refine W.seq fun K2 hK2 => ?_
  -- region 1: clocks.go:101
  refine W.seqR fun Q3 hQ3 => ?_
  refine WL.q (Y.move (.pl rfl)) rfl ?_
  obtain ⟨r7, hr7, hF⟩ := bnd hF
  refine WL.step (WO.callP isGo47 (.cons (.pl rfl) (.nil)) rfl (fun w hw => clocks_Check_ok (hr7) w (hs4.mono hw)) ?_)
  refine WL.q (Y.move (.pl rfl)) rfl ?_
  refine WL.q (Y.extract (.pl rfl) rfl) rfl ?_
  refine WL.q (Y.extract (.pl rfl) rfl) rfl ?_
  refine WL.q (Y.assign (.pl rfl)) rfl ?_
  refine WL.q (Y.assign (.pl rfl)) rfl ?_
  refine WL.next hQ3 (.cons (i := 0) rfl (.cons (i := 2) rfl (.cons (i := 5) rfl (.nil)))) ?_
  -- region 2: clocks.go:101
  refine W.seqR fun Q4 hQ4 => ?_
  refine WL.q (Y.move (.pl rfl)) rfl ?_
  refine WL.q (Y.neq (.pl rfl) (.pl rfl)) rfl ?_
  refine WL.next hQ4 (.cons (i := 0) rfl (.cons (i := 2) rfl (.cons (i := 5) rfl (.cons (i := 17) rfl (.nil))))) ?_
  refine W.cond (.pl rfl) (fun hC5 => ?_) (fun hC5 => ?_)
  · replace hF := cpos hC5 hF
    -- region 3: clocks.go:102
    refine W.seqR fun Q6 hQ6 => ?_
    refine WL.q (Y.build (cs := (encRel (Rel.mk 0 [])).toArray) shape47 (.nil) (one_parts trivial) rfl) rfl ?_
    refine WL.q (Y.move (.pl rfl)) rfl ?_
    refine WL.step (WO.storeBA (ds := (encRel (Rel.mk 0 []))) (cs' := (encRel (Rel.mk 0 []))) cells47 (.pl rfl) (.pl rfl) rfl (oneRel _) (i := 0) rfl (lel (o := 0) (l := 13) (m := 13) (by decide) rfl rfl) (putW rfl) ?_)
    refine WL.q (Y.assign (.pl rfl)) rfl ?_
    refine WL.next hQ6 (.cons (i := 2) rfl (.cons (i := 3) rfl (.nil))) ?_
    obtain rfl := Option.some.inj hF
    refine W.retV (fn := Try.f33) (vs := [.agg (encRel (Rel.mk 0 [])).toArray, .int .i64 r7.2]) Try.results33 ⟨.cellA Try.underlying47 rfl cells47 rfl (i := 0) rfl rfl, ⟨.tmp rfl, trivial⟩⟩ (fun _ _ h => h) (fun w hw => ?_)
    exact hR _ _ ⟨rfl, (hw.pick [] rfl)⟩
  · replace hF := cneg hC5 hF
    refine W.skip ?_
    refine W.go hK2 (.cons (i := 0) rfl (.cons (i := 2) rfl (.nil))) ?_
    refine W.seq fun K7 hK7 => ?_
    -- region 4: clocks.go:104
    refine W.seqR fun Q8 hQ8 => ?_
    refine WL.q (Y.move (.pl rfl)) rfl ?_
    refine WL.q (Y.len Try.underlying57 (.pl rfl)) rfl ?_
    refine WL.q (Y.gtr (.pl rfl) (.pl rfl)) rfl ?_
    refine WL.next hQ8 (.cons (i := 0) rfl (.cons (i := 2) rfl (.cons (i := 22) rfl (.nil)))) ?_
    refine W.cond (.pl rfl) (fun hC9 => ?_) (fun hC9 => ?_)
    · replace hF := cpos hC9 hF
      -- region 5: clocks.go:105
      refine W.seqR fun Q10 hQ10 => ?_
      refine WL.q (Y.build (cs := (encRel (Rel.mk 0 [])).toArray) shape47 (.nil) (one_parts trivial) rfl) rfl ?_
      refine WL.step (WO.storeBA (ds := (encRel (Rel.mk 0 []))) (cs' := (encRel (Rel.mk 0 []))) cells47 (.pl rfl) (.pl rfl) rfl (oneRel _) (i := 0) rfl (lel (o := 0) (l := 13) (m := 13) (by decide) rfl rfl) (putW rfl) ?_)
      refine WL.q (Y.assign (.pl rfl)) rfl ?_
      refine WL.next hQ10 (.cons (i := 2) rfl (.cons (i := 3) rfl (.nil))) ?_
      obtain rfl := Option.some.inj hF
      refine W.retV (fn := Try.f33) (vs := [.agg (encRel (Rel.mk 0 [])).toArray, .int .i64 2]) Try.results33 ⟨.cellA Try.underlying47 rfl cells47 rfl (i := 0) rfl rfl, ⟨.tmp rfl, trivial⟩⟩ (fun _ _ h => h) (fun w hw => ?_)
      exact hR _ _ ⟨rfl, (hw.pick [] rfl)⟩
    · replace hF := cneg hC9 hF
      refine W.skip ?_
      refine W.go hK7 (.cons (i := 0) rfl (.cons (i := 2) rfl (.nil))) ?_
      -- region 6: clocks.go:107
      refine W.seqR fun Q11 hQ11 => ?_
      refine WL.q (Y.move (.pl rfl)) rfl ?_
      refine WL.q (Y.len Try.underlying57 (.pl rfl)) rfl ?_
      refine WL.q (Y.build (cs := (encRel (Rel.mk ((l1).length : Int) [])).toArray) shape47 (.cons (.pl rfl) (.nil)) (one_parts ⟨rfl, trivial⟩) rfl) rfl ?_
      refine WL.step (WO.alloc (cs := (encRel (Rel.mk 0 [])).toArray) zero47 rfl rfl fun b8 => ?_)
      refine WL.step (WO.storeBA (ds := (encRel (Rel.mk ((l1).length : Int) []))) (cs' := (encRel (Rel.mk ((l1).length : Int) []))) cells47 (.pl rfl) (.pl rfl) rfl (oneRel _) (i := 0) rfl (lel (o := 0) (l := 13) (m := 13) (by decide) rfl rfl) (putW rfl) ?_)
      refine WL.next hQ11 (.cons (i := 0) rfl (.cons (i := 2) rfl (.cons (i := 6) rfl (.nil)))) ?_
      -- region 7: clocks.go:108
      refine W.seqR fun Q12 hQ12 => ?_
      refine WL.q (Y.move (.pl rfl)) rfl ?_
      obtain ⟨r9, hr9, hF⟩ := bnd hF
      refine WL.step (WO.callM isGo48 (.cons (.pl rfl) (.nil)) rfl (fun w hw => clocks_knows_ok (hr9) w (hs4.mono hw)) ?_)
      rintro A10 -
      refine WL.q (Y.assign (.pl rfl)) rfl ?_
      refine WL.next hQ12 (.cons (i := 0) rfl (.cons (i := 2) rfl (.cons (i := 6) rfl (.cons (i := 7) rfl (.nil))))) ?_
      obtain ⟨o13, hF13, hF⟩ := bnd hF
      refine W.join1 (Em := fun (After11 : (List Int)) => []) (M := fun After11 => [cBx b6 47 (encRel (Rel.mk 0 [])), cBx b8 47 (encRel (Rel.mk ((l1).length : Int) After11))]) (I := fun After11 => After11 = o13) (.cons (i := 2) rfl (.cons (i := 6) rfl (.nil))) (fun K14 hK14 => ?_) ?_
      · -- up to
        -- region 8: clocks.go:109
        refine W.seqR fun Q15 hQ15 => ?_
        refine WL.q (Y.move (.pl rfl)) rfl ?_
        refine WL.q (Y.len Try.underlying57 (.pl rfl)) rfl ?_
        refine WL.q (Y.move (.pl rfl)) rfl ?_
        refine WL.next hQ15 (.cons (i := 0) rfl (.cons (i := 2) rfl (.cons (i := 6) rfl (.cons (i := 7) rfl (.cons (i := 29) rfl (.cons (i := 30) rfl (.cons (i := 31) rfl (.nil)))))))) ?_
        refine W.block ?_
        refine W.loop2 (Em := fun (After12 : (List Int)) (v13 : Int) => [(31, .int .i64 v13)]) (M := fun After12 v13 => [cBx b6 47 (encRel (Rel.mk 0 [])), cBx b8 47 (encRel (Rel.mk ((l1).length : Int) After12)), cR (encA 8 (eI .i64) 0) 8 A10 ((l1).length : Int).toNat 101 r9]) (I := fun After12 v13 k16 => iter (clocks_Before_L25 N l1 r9) k16 (After12, v13) = some o13) [] 0 N (hF13) (.cons rfl (.nil)) (.cons (i := 0) rfl (.cons (i := 2) rfl (.cons (i := 6) rfl (.cons (i := 7) rfl (.cons (i := 29) rfl (.cons (i := 30) rfl (.nil))))))) (fun w hw => hw.pick [2, 1, 0] rfl) (fun After12 v13 k16 hI K17 hK17 => ?_)
        obtain ⟨k16, t16, rfl, hF16, hN16⟩ := iter_step hI
        -- region 9: clocks.go:109
        refine W.seqR fun Q18 hQ18 => ?_
        refine WL.q (Y.lss (.pl rfl) (.pl rfl)) rfl ?_
        refine WL.next hQ18 (.cons (i := 0) rfl (.cons (i := 2) rfl (.cons (i := 6) rfl (.cons (i := 7) rfl (.cons (i := 29) rfl (.cons (i := 30) rfl (.cons (i := 31) rfl (.cons (i := 32) rfl (.nil))))))))) ?_
        refine W.seq fun K19 hK19 => ?_
        refine W.cond (.pl rfl) (fun hC20 => ?_) (fun hC20 => ?_)
        · replace hF16 := cpos hC20 hF16
          refine W.skip ?_
          refine W.go hK19 (.cons (i := 0) rfl (.cons (i := 2) rfl (.cons (i := 6) rfl (.cons (i := 7) rfl (.cons (i := 29) rfl (.cons (i := 30) rfl (.cons (i := 31) rfl (.nil)))))))) ?_
          obtain ⟨o21, hF21, hF16⟩ := bnd hF16
          refine W.join1 (Em := fun (After14 : (List Int)) => []) (M := fun After14 => [cBx b6 47 (encRel (Rel.mk 0 [])), cBx b8 47 (encRel (Rel.mk ((l1).length : Int) After14)), cR (encA 8 (eI .i64) 0) 8 A10 ((l1).length : Int).toNat 101 r9]) (I := fun After14 => After14 = o21) (.cons (i := 0) rfl (.cons (i := 2) rfl (.cons (i := 6) rfl (.cons (i := 7) rfl (.cons (i := 29) rfl (.cons (i := 30) rfl (.cons (i := 31) rfl (.nil)))))))) (fun K22 hK22 => ?_) ?_
          · -- up to
            refine W.block ?_
            -- region 10: clocks.go:109
            refine W.seqR fun Q23 hQ23 => ?_
            refine WL.q (Y.move (.pl rfl)) rfl ?_
            obtain ⟨x15, hx15, hF21⟩ := bnd hF21
            refine WL.q (Y.slEl Try.underlying57 cells64 hs4 (.pl rfl) (.pl rfl) (ix_lt (hx15))) rfl ?_
            refine WL.q (Y.loadSA (enc := encMark) (ds := (encMark x15)) (j := 0) Try.underlying64 rfl cells64 hs4 (.pl rfl) (hx15) rfl rfl subW) rfl ?_
            refine WL.step (WO.alloc (cs := (encMark (Mark.mk 0 0 0)).toArray) zero64 rfl rfl fun b16 => ?_)
            refine WL.q (Y.assign (.pl rfl)) rfl ?_
            refine WL.step (WO.storeBA (ds := (encMark x15)) (cs' := (encMark x15)) cells64 (.pl rfl) (.pl rfl) rfl (oneMark _) (i := 0) rfl (lel (o := 0) (l := 3) (m := 3) (by decide) rfl rfl) (putW rfl) ?_)
            refine WL.next hQ23 (.cons (i := 0) rfl (.cons (i := 2) rfl (.cons (i := 6) rfl (.cons (i := 7) rfl (.cons (i := 8) rfl (.cons (i := 9) rfl (.cons (i := 29) rfl (.cons (i := 30) rfl (.cons (i := 31) rfl (.nil)))))))))) ?_
            -- region 11: clocks.go:110
            refine W.seqR fun Q24 hQ24 => ?_
            refine WL.q (Y.move (.pl rfl)) rfl ?_
            refine WL.q (Y.len Try.underlying57 (.pl rfl)) rfl ?_
            refine WL.q (Y.move (.pl rfl)) rfl ?_
            refine WL.next hQ24 (.cons (i := 0) rfl (.cons (i := 2) rfl (.cons (i := 6) rfl (.cons (i := 7) rfl (.cons (i := 8) rfl (.cons (i := 9) rfl (.cons (i := 29) rfl (.cons (i := 30) rfl (.cons (i := 31) rfl (.cons (i := 37) rfl (.cons (i := 38) rfl (.nil)))))))))))) ?_
            refine W.block ?_
            refine W.loop2 (Em := fun (After17 : (List Int)) (v18 : Int) => [(38, .int .i64 v18)]) (M := fun After17 v18 => [cBx b6 47 (encRel (Rel.mk 0 [])), cBx b8 47 (encRel (Rel.mk ((l1).length : Int) After17)), cR (encA 8 (eI .i64) 0) 8 A10 ((l1).length : Int).toNat 101 r9, cBx b16 64 (encMark x15)]) (I := fun After17 v18 k25 => iter (clocks_Before_L27 N l1 v13 r9 x15) k25 (After17, v18) = some o21) After12 0 N (hF21) (.cons rfl (.nil)) (.cons (i := 0) rfl (.cons (i := 2) rfl (.cons (i := 6) rfl (.cons (i := 7) rfl (.cons (i := 8) rfl (.cons (i := 9) rfl (.cons (i := 29) rfl (.cons (i := 30) rfl (.cons (i := 31) rfl (.cons (i := 37) rfl (.nil))))))))))) (fun w hw => hw.pick [1, 2, 3, 0] rfl) (fun After17 v18 k25 hI K26 hK26 => ?_)
            obtain ⟨k25, t25, rfl, hF25, hN25⟩ := iter_step hI
            -- region 12: clocks.go:110
            refine W.seqR fun Q27 hQ27 => ?_
            refine WL.q (Y.lss (.pl rfl) (.pl rfl)) rfl ?_
            refine WL.next hQ27 (.cons (i := 0) rfl (.cons (i := 2) rfl (.cons (i := 6) rfl (.cons (i := 7) rfl (.cons (i := 8) rfl (.cons (i := 9) rfl (.cons (i := 29) rfl (.cons (i := 30) rfl (.cons (i := 31) rfl (.cons (i := 37) rfl (.cons (i := 38) rfl (.cons (i := 39) rfl (.nil))))))))))))) ?_
            refine W.seq fun K28 hK28 => ?_
            refine W.cond (.pl rfl) (fun hC29 => ?_) (fun hC29 => ?_)
            · replace hF25 := cpos hC29 hF25
              refine W.skip ?_
              refine W.go hK28 (.cons (i := 0) rfl (.cons (i := 2) rfl (.cons (i := 6) rfl (.cons (i := 7) rfl (.cons (i := 8) rfl (.cons (i := 9) rfl (.cons (i := 29) rfl (.cons (i := 30) rfl (.cons (i := 31) rfl (.cons (i := 37) rfl (.cons (i := 38) rfl (.nil)))))))))))) ?_
              refine W.seq fun K30 hK30 => ?_
              refine W.block ?_
              -- region 13: clocks.go:110
              refine W.seqR fun Q31 hQ31 => ?_
              refine WL.q (Y.move (.pl rfl)) rfl ?_
              refine WL.q (Y.assign (.pl rfl)) rfl ?_
              refine WL.next hQ31 (.cons (i := 0) rfl (.cons (i := 2) rfl (.cons (i := 6) rfl (.cons (i := 7) rfl (.cons (i := 8) rfl (.cons (i := 9) rfl (.cons (i := 10) rfl (.cons (i := 29) rfl (.cons (i := 30) rfl (.cons (i := 31) rfl (.cons (i := 37) rfl (.cons (i := 38) rfl (.nil))))))))))))) ?_
              -- region 14: clocks.go:111
              refine W.seqD (by kernel_rfl) (by kernel_rfl) fun R32 hR32 => ?_
              refine WD.q (Y.move (.pl rfl)) rfl ?_
              refine WD.q (Y.move (.pl rfl)) rfl ?_
              refine WD.q (Y.neq (.pl rfl) (.pl rfl)) rfl ?_
              refine WD.q (Y.move (.pl rfl)) rfl ?_
              refine WD.g (.pl rfl rfl rfl) (fun hg => Y.move (.pl rfl)) rfl ?_
              refine WD.g (.pl rfl rfl rfl) (fun hg => Y.move (.pl rfl)) rfl ?_
              refine WD.g (.pl rfl rfl rfl) (fun hg => Y.fieldAddr0 (off := 0) (ft := 3) Try.underlying64 rfl cells3 (.pl rfl)) rfl ?_
              refine WD.g (.pl rfl rfl rfl) (fun hg => Y.loadB (v := .int .i64 x15.who) Try.underlying3 rfl (.gd (hg) rfl) (i := 3) rfl (rfl)) rfl ?_
              obtain ⟨x19, hx19, hF25⟩ := bnd hF25
              refine WD.g (.pl rfl rfl rfl) (fun hg => Y.rowEl Try.underlying99 cells101 (i := 2) rfl (.gd (hg) rfl) rfl (.gd (hg) rfl) (ix_lt (gpos hg hx19))) rfl ?_
              obtain ⟨x20, hx20, hF25⟩ := bnd hF25
              refine WD.g (.pl rfl rfl rfl) (fun hg => Y.arrR Try.underlying101 cells3 (i' := 2) rfl (ix_lt (gpos hg hx19)) (.gd (hg) rfl) (.gd (hg) rfl) (ax_lt (gpos hg hx20))) rfl ?_
              refine WD.g (.pl rfl rfl rfl) (fun hg => Y.loadR (enc := (encA 8 (eI .i64) 0)) (v := .int .i64 x20) (a := x19) (idx := v18) (j := x15.who.toNat * 1 + 0) Try.underlying3 rfl (fun _ => lenA (sz := 1) (fun _ => rfl)) (i := 2) rfl (.gd (hg) rfl) (ix_get (gpos hg hx19)) (by omega) (cellsA0 (a := x19) (enc := (eI .i64)) (d := 0) (n := 8) (sz := 1) (j := 0) (fun _ => rfl) (ax_nat (gpos hg hx20)) (ax_get (gpos hg hx20)) rfl)) rfl ?_
              refine WD.g (.pl rfl rfl rfl) (fun hg => Y.move (.pl rfl)) rfl ?_
              refine WD.g (.pl rfl rfl rfl) (fun hg => Y.move (.pl rfl)) rfl ?_
              refine WD.g (.pl rfl rfl rfl) (fun hg => Y.fieldAddr0 (off := 0) (ft := 3) Try.underlying64 rfl cells3 (.pl rfl)) rfl ?_
              refine WD.g (.pl rfl rfl rfl) (fun hg => Y.loadB (v := .int .i64 x15.who) Try.underlying3 rfl (.gd (hg) rfl) (i := 3) rfl (rfl)) rfl ?_
              obtain ⟨x21, hx21, hF25⟩ := bnd hF25
              refine WD.g (.pl rfl rfl rfl) (fun hg => Y.rowEl Try.underlying99 cells101 (i := 2) rfl (.gd (hg) rfl) rfl (.gd (hg) rfl) (ix_lt (gpos hg hx21))) rfl ?_
              obtain ⟨x22, hx22, hF25⟩ := bnd hF25
              refine WD.g (.pl rfl rfl rfl) (fun hg => Y.arrR Try.underlying101 cells3 (i' := 2) rfl (ix_lt (gpos hg hx21)) (.gd (hg) rfl) (.gd (hg) rfl) (ax_lt (gpos hg hx22))) rfl ?_
              refine WD.g (.pl rfl rfl rfl) (fun hg => Y.loadR (enc := (encA 8 (eI .i64) 0)) (v := .int .i64 x22) (a := x21) (idx := v13) (j := x15.who.toNat * 1 + 0) Try.underlying3 rfl (fun _ => lenA (sz := 1) (fun _ => rfl)) (i := 2) rfl (.gd (hg) rfl) (ix_get (gpos hg hx21)) (by omega) (cellsA0 (a := x21) (enc := (eI .i64)) (d := 0) (n := 8) (sz := 1) (j := 0) (fun _ => rfl) (ax_nat (gpos hg hx22)) (ax_get (gpos hg hx22)) rfl)) rfl ?_
              refine WD.g (.pl rfl rfl rfl) (fun hg => Y.geq (.gd (hg) rfl) (.gd (hg) rfl)) rfl ?_
              refine WD.q (Y.and (.pl rfl) (fun h2 => .gd (eqt h2) rfl)) rfl ?_
              refine WD.next hR32 (.cons (i := 0) rfl (.cons (i := 2) rfl (.cons (i := 6) rfl (.cons (i := 7) rfl (.cons (i := 8) rfl (.cons (i := 9) rfl (.cons (i := 10) rfl (.cons (i := 29) rfl (.cons (i := 30) rfl (.cons (i := 31) rfl (.cons (i := 37) rfl (.cons (i := 38) rfl (.cons (i := 60) rfl (.nil)))))))))))))) ?_
              refine W.cond (.pl rfl) (fun hC33 => ?_) (fun hC33 => ?_)
              · replace hF25 := cpos hC33 hF25
                -- region 15: clocks.go:112
                refine W.reg ?_
                refine WL.q (Y.move (.pl rfl)) rfl ?_
                refine WL.q (Y.fieldAddr0 (off := 1) (ft := 45) Try.underlying47 rfl cells45 (.pl rfl)) rfl ?_
                obtain ⟨x23, hx23, hF25⟩ := bnd hF25
                refine WL.q (Y.arrZ Try.underlying45 cells44 (.pl rfl) (.pl rfl) (ax_lt (hx23))) rfl ?_
                refine WL.q (Y.loadB (v := .int .u16 x23) Try.underlying44 rfl (.pl rfl) (i := 1) rfl (cellsA (pre := (.int .i64 ((l1).length : Int) :: [])) (off := 1) (post := []) (a := After17) (enc := (eI .u16)) (d := 0) (n := 12) (sz := 1) (j := 0) (fun _ => rfl) rfl (ax_nat (hx23)) (ax_get (hx23)) rfl)) rfl ?_
                refine WL.q (Y.move (.pl rfl)) rfl ?_
                refine WL.q (Y.conv Try.underlying3 Try.underlying91 (.pl rfl)) rfl ?_
                refine WL.q (Y.shl (.pl rfl) (.pl rfl) (wrapU_nn rfl _)) rfl ?_
                refine WL.q (Y.bor (.pl rfl) (.pl rfl)) rfl ?_
                refine WL.q (Y.fieldAddr0 (off := 1) (ft := 45) Try.underlying47 rfl cells45 (.pl rfl)) rfl ?_
                obtain ⟨x24, hx24, hF25⟩ := bnd hF25
                refine WL.q (Y.arrZ Try.underlying45 cells44 (.pl rfl) (.pl rfl) (ax_lt (hx24))) rfl ?_
                refine WL.step (WO.storeB (cs' := (encRel (Rel.mk ((l1).length : Int) (setA 12 0 After17 v13 (borI .u16 x23 (shlI .u16 1 (IntKind.u64.wrap v18))))))) cells44 (.pl rfl) (.pl rfl) rfl (i := 1) rfl (ltl (m := 13) (offlt (off := 1) (sz := 1) (j := 0) (ax_nat (hx24)) (by decide)) rfl) (cellsSet (pre := (.int .i64 ((l1).length : Int) :: [])) (off := 1) (post := []) (a := After17) (enc := (eI .u16)) (d := 0) (n := 12) (sz := 1) (j := 0) (x := x24) (x' := (borI .u16 x23 (shlI .u16 1 (IntKind.u64.wrap v18)))) (fun _ => rfl) rfl (ax_lt (hx24)) (ax_get (hx24)) (by decide) rfl rfl) ?_)
                refine WL.nil ?_
                refine W.go hK30 (.cons (i := 0) rfl (.cons (i := 2) rfl (.cons (i := 6) rfl (.cons (i := 7) rfl (.cons (i := 8) rfl (.cons (i := 9) rfl (.cons (i := 29) rfl (.cons (i := 30) rfl (.cons (i := 31) rfl (.cons (i := 37) rfl (.cons (i := 38) rfl (.nil)))))))))))) ?_
                -- region 16: clocks.go:110
                refine W.reg ?_
                obtain ⟨hk25, hF25⟩ := ckh hF25
                refine WL.q (Y.add (.pl rfl) (.pl rfl) (ok64_lt (hk25))) rfl ?_
                refine WL.q (Y.move (.pl rfl)) rfl ?_
                refine WL.nil ?_
                obtain rfl := Option.some.inj hF25
                exact W.again2 hK26 (setA 12 0 After17 v13 (borI .u16 x23 (shlI .u16 1 (IntKind.u64.wrap v18)))) (v18 + 1) k25 hN25 (Nat.lt_succ_self _) (.cons rfl (.nil)) (.cons (i := 0) rfl (.cons (i := 2) rfl (.cons (i := 6) rfl (.cons (i := 7) rfl (.cons (i := 8) rfl (.cons (i := 9) rfl (.cons (i := 29) rfl (.cons (i := 30) rfl (.cons (i := 31) rfl (.cons (i := 37) rfl (.nil))))))))))) (fun w hw => hw.pick [0, 1, 2, 3] rfl)
              · replace hF25 := cneg hC33 hF25
                refine W.skip ?_
                refine W.go hK30 (.cons (i := 0) rfl (.cons (i := 2) rfl (.cons (i := 6) rfl (.cons (i := 7) rfl (.cons (i := 8) rfl (.cons (i := 9) rfl (.cons (i := 29) rfl (.cons (i := 30) rfl (.cons (i := 31) rfl (.cons (i := 37) rfl (.cons (i := 38) rfl (.nil)))))))))))) ?_
                -- region 16: clocks.go:110
                refine W.reg ?_
                obtain ⟨hk26, hF25⟩ := ckh hF25
                refine WL.q (Y.add (.pl rfl) (.pl rfl) (ok64_lt (hk26))) rfl ?_
                refine WL.q (Y.move (.pl rfl)) rfl ?_
                refine WL.nil ?_
                obtain rfl := Option.some.inj hF25
                exact W.again2 hK26 After17 (v18 + 1) k25 hN25 (Nat.lt_succ_self _) (.cons rfl (.nil)) (.cons (i := 0) rfl (.cons (i := 2) rfl (.cons (i := 6) rfl (.cons (i := 7) rfl (.cons (i := 8) rfl (.cons (i := 9) rfl (.cons (i := 29) rfl (.cons (i := 30) rfl (.cons (i := 31) rfl (.cons (i := 37) rfl (.nil))))))))))) (fun w hw => hw.pick [0, 1, 2, 3] rfl)
            · replace hF25 := cneg hC29 hF25
              refine W.exit ?_
              obtain rfl := Option.some.inj hF25
              exact W.joinAt1 hK22 After17 (einr hN25) (.nil) (.cons (i := 0) rfl (.cons (i := 2) rfl (.cons (i := 6) rfl (.cons (i := 7) rfl (.cons (i := 29) rfl (.cons (i := 30) rfl (.cons (i := 31) rfl (.nil)))))))) (fun w hw => hw.pick [0, 1, 2] rfl)
          · -- behind
            rintro After14 rfl
            -- region 17: clocks.go:109
            refine W.reg ?_
            obtain ⟨hk27, hF16⟩ := ckh hF16
            refine WL.q (Y.add (.pl rfl) (.pl rfl) (ok64_lt (hk27))) rfl ?_
            refine WL.q (Y.move (.pl rfl)) rfl ?_
            refine WL.nil ?_
            obtain rfl := Option.some.inj hF16
            exact W.again2 hK17 After14 (v13 + 1) k16 hN16 (Nat.lt_succ_self _) (.cons rfl (.nil)) (.cons (i := 0) rfl (.cons (i := 2) rfl (.cons (i := 6) rfl (.cons (i := 7) rfl (.cons (i := 29) rfl (.cons (i := 30) rfl (.nil))))))) (fun w hw => hw.pick [0, 1, 2] rfl)
        · replace hF16 := cneg hC20 hF16
          refine W.exit ?_
          obtain rfl := Option.some.inj hF16
          exact W.joinAt1 hK14 After12 (einr hN16) (.nil) (.cons (i := 2) rfl (.cons (i := 6) rfl (.nil))) (fun w hw => hw.pick [0, 1] rfl)
      · -- behind
        rintro After11 rfl
        -- region 18: clocks.go:116
        refine W.seqR fun Q38 hQ38 => ?_
        refine WL.q (Y.loadBA (ds := (encRel (Rel.mk ((l1).length : Int) After11))) Try.underlying47 rfl cells47 (.pl rfl) (i := 1) rfl rfl subW) rfl ?_
        refine WL.step (WO.storeBA (ds := (encRel (Rel.mk ((l1).length : Int) After11))) (cs' := (encRel (Rel.mk ((l1).length : Int) After11))) cells47 (.pl rfl) (.pl rfl) rfl (oneRel _) (i := 0) rfl (lel (o := 0) (l := 13) (m := 13) (by decide) rfl rfl) (putW rfl) ?_)
        refine WL.q (Y.assign (.pl rfl)) rfl ?_
        refine WL.next hQ38 (.cons (i := 2) rfl (.cons (i := 3) rfl (.nil))) ?_
        obtain rfl := Option.some.inj hF
        refine W.retV (fn := Try.f33) (vs := [.agg (encRel (Rel.mk ((l1).length : Int) After11)).toArray, .int .i64 0]) Try.results33 ⟨.cellA Try.underlying47 rfl cells47 rfl (i := 0) rfl rfl, ⟨.tmp rfl, trivial⟩⟩ (fun _ _ h => h) (fun w hw => ?_)
        exact hR _ _ ⟨rfl, (hw.pick [] rfl)⟩

def alibkeep_ClocksLamport_L27 (N : Nat) (l1 : (List Mark)) (r9 : (Int × (List Int) × Int)) (v16 : Int) (r6 : ((List Int) × Int)) : Int → Option (Int ⊕ (Unit ⊕ Bool))
  | v17 =>
    cond (decide (v17 < ((l1).length : Int)))
      (bd (ax 12 0 r9.2.1 v16) fun (x18 : Int) =>
      ck (decide (0 ≤ v17)) <|
      bd ((cond ((decide ((bandI .u16 (shrI .u16 x18 v17) 1) = 1)) == true) (ix r6.1 v16) (some 0))) fun (x20 : Int) =>
      bd ((cond ((decide ((bandI .u16 (shrI .u16 x18 v17) 1) = 1)) == true) (ix r6.1 v17) (some 0))) fun (x21 : Int) =>
      cond ((decide ((bandI .u16 (shrI .u16 x18 v17) 1) = 1)) && (decide (x21 ≤ x20)))
        (some (.inr (.inr false)))
        (ck (ok64 (v17 + 1)) <|
        some (.inl (v17 + 1))))
      (some (.inr (.inl ())))

def alibkeep_ClocksLamport_L25 (N : Nat) (l1 : (List Mark)) (r9 : (Int × (List Int) × Int)) (r6 : ((List Int) × Int)) : Int → Option (Int ⊕ (Unit ⊕ Bool))
  | v16 =>
    cond (decide (v16 < ((l1).length : Int)))
      (bd (α := (Unit ⊕ Bool)) (iter (alibkeep_ClocksLamport_L27 N l1 r9 v16 r6) N 0) <|
      Sum.elim (fun _ => 
        ck (ok64 (v16 + 1)) <|
        some (.inl (v16 + 1))) (fun p => some (.inr (.inr p))))
      (some (.inr (.inl ())))

def alibkeep_ClocksLamport (N : Nat) (l1 : (List Mark)) : Option Bool :=
  bd (clocks_Times N l1) fun (r6 : ((List Int) × Int)) =>
  bd (clocks_Before N l1) fun (r9 : (Int × (List Int) × Int)) =>
  bd (α := Bool) (bd (alibkeep_clocksLives N) fun (r12 : Bool) =>
    cond ((!r12) == false)
      (bd (alibkeep_ok N ([r6.2, r9.2.2] : List Int)) fun (r14 : Bool) =>
      some (((!r12) || (!r14)) || (!(decide (((r6.1).length : Int) = ((l1).length : Int))))))
      (some (((!r12) || false) || (!(decide (((r6.1).length : Int) = ((l1).length : Int))))))) <|
  fun (v11 : Bool) => 
    cond v11
      (bd (alibkeep_clocksLives N) fun (r15 : Bool) =>
      some (r15 && ((decide (r6.2 = 0)) || (decide (((r6.1).length : Int) = 0)))))
      (bd (α := (Unit ⊕ Bool)) (iter (alibkeep_ClocksLamport_L25 N l1 r9 r6) N 0) <|
      Sum.elim (fun _ => 
        some true) (fun p => some p))

theorem alibkeep_ClocksLamport_ok {N : Nat} {l1 : (List Mark)} {res : Bool} (hF : alibkeep_ClocksLamport N l1 = some res) (w : World) {v5 : Value} (hs4 : SlIn encMark 3 w v5 l1) :
    Pure Try.prog 9 [v5] w (.bool res) := by
  obtain ⟨A2, c3, rfl, hcc3, hs4⟩ := hs4.form
  refine W.enter (n := 76) Try.func9 rfl rfl Sub.refl (by simp) (St.start w) fun R hR => ?_
  unfold alibkeep_ClocksLamport at hF
  -- region 0: clocks.go:25
  refine W.seqR fun Q1 hQ1 => ?_
  refine WL.q (Y.assign (.pl rfl)) rfl ?_
  refine WL.next hQ1 (.cons (i := 0) rfl (.nil)) ?_
  -- region 1: clocks.go:26
  refine W.seqR fun Q2 hQ2 => ?_
  refine WL.q (Y.move (.pl rfl)) rfl ?_
  obtain ⟨r6, hr6, hF⟩ := bnd hF
  refine WL.step (WO.callM isGo32 (.cons (.pl rfl) (.nil)) rfl (fun w hw => clocks_Times_ok (hr6) w (hs4.mono hw)) ?_)
  rintro ⟨A7, c8⟩ -
  refine WL.q (Y.move (.pl rfl)) rfl ?_
  refine WL.q (Y.extract (.pl rfl) rfl) rfl ?_
  refine WL.q (Y.extract (.pl rfl) rfl) rfl ?_
  refine WL.q (Y.assign (.pl rfl)) rfl ?_
  refine WL.q (Y.assign (.pl rfl)) rfl ?_
  refine WL.next hQ2 (.cons (i := 0) rfl (.cons (i := 3) rfl (.cons (i := 4) rfl (.nil)))) ?_
  -- region 2: clocks.go:27
  refine W.seqR fun Q3 hQ3 => ?_
  refine WL.q (Y.move (.pl rfl)) rfl ?_
  obtain ⟨r9, hr9, hF⟩ := bnd hF
  refine WL.step (WO.callP isGo33 (.cons (.pl rfl) (.nil)) rfl (fun w hw => clocks_Before_ok (hr9) w (hs4.mono hw)) ?_)
  refine WL.q (Y.move (.pl rfl)) rfl ?_
  refine WL.q (Y.extract (.pl rfl) rfl) rfl ?_
  refine WL.q (Y.extract (.pl rfl) rfl) rfl ?_
  refine WL.step (WO.alloc (cs := (encRel (Rel.mk 0 [])).toArray) zero47 rfl rfl fun b10 => ?_)
  refine WL.step (WO.storeBA (ds := (encRel (Rel.mk r9.1 r9.2.1))) (cs' := (encRel (Rel.mk r9.1 r9.2.1))) cells47 (.pl rfl) (.pl rfl) rfl (oneRel _) (i := 0) rfl (lel (o := 0) (l := 13) (m := 13) (by decide) rfl rfl) (putW rfl) ?_)
  refine WL.q (Y.assign (.pl rfl)) rfl ?_
  refine WL.next hQ3 (.cons (i := 0) rfl (.cons (i := 3) rfl (.cons (i := 4) rfl (.cons (i := 5) rfl (.cons (i := 6) rfl (.nil)))))) ?_
  refine W.seq fun K4 hK4 => ?_
  obtain ⟨o5, hF5, hF⟩ := bnd hF
  refine W.join1 (Em := fun (v11 : Bool) => [(34, .bool v11)]) (M := fun v11 => [cR (eI .i64) 1 A7 c8 3 r6.1, cBx b10 47 (encRel (Rel.mk r9.1 r9.2.1))]) (I := fun v11 => v11 = o5) (.cons (i := 0) rfl (.cons (i := 3) rfl (.cons (i := 4) rfl (.cons (i := 5) rfl (.nil))))) (fun K6 hK6 => ?_) ?_
  · -- up to
    -- region 3: clocks.go:28
    refine W.reg ?_
    obtain ⟨r12, hr12, hF5⟩ := bnd hF5
    refine WL.step (WO.callP isGo29 (.nil) rfl (fun w hw => alibkeep_clocksLives_ok (hr12) w ) ?_)
    refine WL.q (Y.not (.pl rfl)) rfl ?_
    refine WL.q (Y.move (.pl rfl)) rfl ?_
    refine WL.g (.pl rfl rfl rfl) (fun hg => Y.move (.pl rfl)) rfl ?_
    refine WL.g (.pl rfl rfl rfl) (fun hg => Y.move (.pl rfl)) rfl ?_
    refine bsplit ((!r12) == false) (fun hg7 => ?_) (fun hg7 => ?_)
    · replace hF5 := cpos hg7 hF5
      refine WL.gd (.pl rfl rfl rfl) (hg7) ?_
      refine WL.step (WO.bsliceC (enc := (eI .i64)) (ys := ([r6.2, r9.2.2] : List Int)) Try.underlying92 bz25 (.cons (.gd (hg7) rfl) (.cons (.gd (hg7) rfl) (.nil))) rfl (fun _ => rfl) rfl rfl (by decide) (by decide) rfl fun b13 => ?_)
      refine WL.gd (.pl rfl rfl rfl) (hg7) ?_
      obtain ⟨r14, hr14, hF5⟩ := bnd hF5
      refine WL.step (WO.callP isGo25 (.cons (.pl rfl) (.nil)) rfl (fun w hw => alibkeep_ok_ok (hr14) w (SlIn.ofRow (fun _ => rfl) hw (i := 0) rfl)) ?_)
      refine WL.gd (.pl rfl rfl rfl) (hg7) ?_
      refine WL.q (Y.not (.pl rfl)) rfl ?_
      refine WL.q (Y.or (.pl rfl) (fun _ => .pl rfl)) rfl ?_
      refine WL.q (Y.move (.pl rfl)) rfl ?_
      refine WL.g (.pl rfl rfl rfl) (fun hg => Y.move (.pl rfl)) rfl ?_
      refine WL.g (.pl rfl rfl rfl) (fun hg => Y.len Try.underlying22 (.gd (hg) rfl)) rfl ?_
      refine WL.g (.pl rfl rfl rfl) (fun hg => Y.move (.pl rfl)) rfl ?_
      refine WL.g (.pl rfl rfl rfl) (fun hg => Y.len Try.underlying57 (.gd (hg) rfl)) rfl ?_
      refine WL.g (.pl rfl rfl rfl) (fun hg => Y.neq (.gd (hg) rfl) (.gd (hg) rfl)) rfl ?_
      refine WL.q (Y.or (.pl rfl) (fun h2 => .gd (eqf h2) rfl)) rfl ?_
      refine WL.nil ?_
      exact W.joinAt1 hK6 (((!r12) || (!r14)) || (!(decide (((r6.1).length : Int) = ((l1).length : Int))))) (Option.some.inj hF5) (.cons rfl (.nil)) (.cons (i := 0) rfl (.cons (i := 3) rfl (.cons (i := 4) rfl (.cons (i := 5) rfl (.nil))))) (fun w hw => hw.pick [2, 1] rfl)
    · replace hF5 := cneg hg7 hF5
      refine WL.gn (.pl rfl rfl rfl) hg7 rfl ?_
      refine WL.gn (.pl rfl rfl rfl) hg7 rfl ?_
      refine WL.gn (.pl rfl rfl rfl) hg7 rfl ?_
      refine WL.q (Y.or (b := false) (.pl rfl) (fun h2 => (gabsO hg7 h2).elim)) rfl ?_
      refine WL.q (Y.move (.pl rfl)) rfl ?_
      refine WL.g (.pl rfl rfl rfl) (fun hg => Y.move (.pl rfl)) rfl ?_
      refine WL.g (.pl rfl rfl rfl) (fun hg => Y.len Try.underlying22 (.gd (hg) rfl)) rfl ?_
      refine WL.g (.pl rfl rfl rfl) (fun hg => Y.move (.pl rfl)) rfl ?_
      refine WL.g (.pl rfl rfl rfl) (fun hg => Y.len Try.underlying57 (.gd (hg) rfl)) rfl ?_
      refine WL.g (.pl rfl rfl rfl) (fun hg => Y.neq (.gd (hg) rfl) (.gd (hg) rfl)) rfl ?_
      refine WL.q (Y.or (.pl rfl) (fun h2 => .gd (eqf h2) rfl)) rfl ?_
      refine WL.nil ?_
      exact W.joinAt1 hK6 (((!r12) || false) || (!(decide (((r6.1).length : Int) = ((l1).length : Int))))) (Option.some.inj hF5) (.cons rfl (.nil)) (.cons (i := 0) rfl (.cons (i := 3) rfl (.cons (i := 4) rfl (.cons (i := 5) rfl (.nil))))) (fun w hw => hw.pick [1, 0] rfl)
  · -- behind
    rintro v11 rfl
    refine W.cond (.pl rfl) (fun hC8 => ?_) (fun hC8 => ?_)
    · replace hF := cpos hC8 hF
      -- region 4: clocks.go:29
      refine W.seqR fun Q9 hQ9 => ?_
      obtain ⟨r15, hr15, hF⟩ := bnd hF
      refine WL.step (WO.callP isGo29 (.nil) rfl (fun w hw => alibkeep_clocksLives_ok (hr15) w ) ?_)
      refine WL.q (Y.move (.pl rfl)) rfl ?_
      refine WL.g (.pl rfl rfl rfl) (fun hg => Y.move (.pl rfl)) rfl ?_
      refine WL.g (.pl rfl rfl rfl) (fun hg => Y.eql (.gd (hg) rfl) (.pl rfl)) rfl ?_
      refine WL.g (.pl rfl rfl rfl) (fun hg => Y.move (.gd (hg) rfl)) rfl ?_
      refine WL.g (.gd rfl rfl rfl) (fun hg => Y.move (.pl rfl)) rfl ?_
      refine WL.g (.gd rfl rfl rfl) (fun hg => Y.len Try.underlying22 (.gd (hg) rfl)) rfl ?_
      refine WL.g (.gd rfl rfl rfl) (fun hg => Y.eql (.gd (hg) rfl) (.pl rfl)) rfl ?_
      refine WL.g (.pl rfl rfl rfl) (fun hg => Y.or (.gd (hg) rfl) (fun h2 => .gd (band hg (eqf h2)) rfl)) rfl ?_
      refine WL.q (Y.and (.pl rfl) (fun h2 => .gd (eqt h2) rfl)) rfl ?_
      refine WL.q (Y.assign (.pl rfl)) rfl ?_
      refine WL.next hQ9 (.cons (i := 2) rfl (.nil)) ?_
      obtain rfl := Option.some.inj hF
      refine W.retV (fn := Try.f9) (vs := [.bool (r15 && ((decide (r6.2 = 0)) || (decide (((r6.1).length : Int) = 0))))]) Try.results9 ⟨.tmp rfl, trivial⟩ (fun _ _ h => h) (fun w hw => ?_)
      exact hR _ _ ⟨rfl, (hw.pick [] rfl)⟩
    · replace hF := cneg hC8 hF
      refine W.skip ?_
      refine W.go hK4 (.cons (i := 0) rfl (.cons (i := 3) rfl (.cons (i := 5) rfl (.nil)))) ?_
      obtain ⟨o10, hF10, hF⟩ := bnd hF
      refine W.join0 (Em := []) (M := []) (I := (.inl ()) = o10) (.nil) (fun K11 hK11 => ?_) ?_
      · -- up to
        -- region 5: clocks.go:31
        refine W.seqR fun Q12 hQ12 => ?_
        refine WL.q (Y.move (.pl rfl)) rfl ?_
        refine WL.q (Y.len Try.underlying57 (.pl rfl)) rfl ?_
        refine WL.q (Y.move (.pl rfl)) rfl ?_
        refine WL.next hQ12 (.cons (i := 0) rfl (.cons (i := 3) rfl (.cons (i := 5) rfl (.cons (i := 46) rfl (.cons (i := 47) rfl (.nil)))))) ?_
        refine W.block ?_
        refine W.loop1 (Em := fun (v16 : Int) => [(47, .int .i64 v16)]) (M := fun v16 => [cR (eI .i64) 1 A7 c8 3 r6.1, cBx b10 47 (encRel (Rel.mk r9.1 r9.2.1))]) (I := fun v16 k13 => iter (alibkeep_ClocksLamport_L25 N l1 r9 r6) k13 v16 = some o10) 0 N (hF10) (.cons rfl (.nil)) (.cons (i := 0) rfl (.cons (i := 3) rfl (.cons (i := 5) rfl (.cons (i := 46) rfl (.nil))))) (fun w hw => hw.pick [0, 1] rfl) (fun v16 k13 hI K14 hK14 => ?_)
        obtain ⟨k13, t13, rfl, hF13, hN13⟩ := iter_step hI
        -- region 6: clocks.go:31
        refine W.seqR fun Q15 hQ15 => ?_
        refine WL.q (Y.lss (.pl rfl) (.pl rfl)) rfl ?_
        refine WL.next hQ15 (.cons (i := 0) rfl (.cons (i := 3) rfl (.cons (i := 5) rfl (.cons (i := 46) rfl (.cons (i := 47) rfl (.cons (i := 48) rfl (.nil))))))) ?_
        refine W.seq fun K16 hK16 => ?_
        refine W.cond (.pl rfl) (fun hC17 => ?_) (fun hC17 => ?_)
        · replace hF13 := cpos hC17 hF13
          refine W.skip ?_
          refine W.go hK16 (.cons (i := 0) rfl (.cons (i := 3) rfl (.cons (i := 5) rfl (.cons (i := 46) rfl (.cons (i := 47) rfl (.nil)))))) ?_
          obtain ⟨o18, hF18, hF13⟩ := bnd hF13
          refine W.join0 (Em := []) (M := [cR (eI .i64) 1 A7 c8 3 r6.1, cBx b10 47 (encRel (Rel.mk r9.1 r9.2.1))]) (I := (.inl ()) = o18) (.cons (i := 0) rfl (.cons (i := 3) rfl (.cons (i := 5) rfl (.cons (i := 46) rfl (.cons (i := 47) rfl (.nil)))))) (fun K19 hK19 => ?_) ?_
          · -- up to
            refine W.block ?_
            -- region 7: clocks.go:31
            refine W.seqR fun Q20 hQ20 => ?_
            refine WL.q (Y.move (.pl rfl)) rfl ?_
            refine WL.q (Y.assign (.pl rfl)) rfl ?_
            refine WL.next hQ20 (.cons (i := 0) rfl (.cons (i := 3) rfl (.cons (i := 5) rfl (.cons (i := 7) rfl (.cons (i := 46) rfl (.cons (i := 47) rfl (.nil))))))) ?_
            -- region 8: clocks.go:32
            refine W.seqR fun Q21 hQ21 => ?_
            refine WL.q (Y.move (.pl rfl)) rfl ?_
            refine WL.q (Y.len Try.underlying57 (.pl rfl)) rfl ?_
            refine WL.q (Y.move (.pl rfl)) rfl ?_
            refine WL.next hQ21 (.cons (i := 0) rfl (.cons (i := 3) rfl (.cons (i := 5) rfl (.cons (i := 7) rfl (.cons (i := 46) rfl (.cons (i := 47) rfl (.cons (i := 51) rfl (.cons (i := 52) rfl (.nil))))))))) ?_
            refine W.block ?_
            refine W.loop1 (Em := fun (v17 : Int) => [(52, .int .i64 v17)]) (M := fun v17 => [cR (eI .i64) 1 A7 c8 3 r6.1, cBx b10 47 (encRel (Rel.mk r9.1 r9.2.1))]) (I := fun v17 k22 => iter (alibkeep_ClocksLamport_L27 N l1 r9 v16 r6) k22 v17 = some o18) 0 N (hF18) (.cons rfl (.nil)) (.cons (i := 0) rfl (.cons (i := 3) rfl (.cons (i := 5) rfl (.cons (i := 7) rfl (.cons (i := 46) rfl (.cons (i := 47) rfl (.cons (i := 51) rfl (.nil)))))))) (fun w hw => hw.pick [0, 1] rfl) (fun v17 k22 hI K23 hK23 => ?_)
            obtain ⟨k22, t22, rfl, hF22, hN22⟩ := iter_step hI
            -- region 9: clocks.go:32
            refine W.seqR fun Q24 hQ24 => ?_
            refine WL.q (Y.lss (.pl rfl) (.pl rfl)) rfl ?_
            refine WL.next hQ24 (.cons (i := 0) rfl (.cons (i := 3) rfl (.cons (i := 5) rfl (.cons (i := 7) rfl (.cons (i := 46) rfl (.cons (i := 47) rfl (.cons (i := 51) rfl (.cons (i := 52) rfl (.cons (i := 53) rfl (.nil)))))))))) ?_
            refine W.seq fun K25 hK25 => ?_
            refine W.cond (.pl rfl) (fun hC26 => ?_) (fun hC26 => ?_)
            · replace hF22 := cpos hC26 hF22
              refine W.skip ?_
              refine W.go hK25 (.cons (i := 0) rfl (.cons (i := 3) rfl (.cons (i := 5) rfl (.cons (i := 7) rfl (.cons (i := 46) rfl (.cons (i := 47) rfl (.cons (i := 51) rfl (.cons (i := 52) rfl (.nil))))))))) ?_
              refine W.seq fun K27 hK27 => ?_
              refine W.block ?_
              -- region 10: clocks.go:32
              refine W.seqR fun Q28 hQ28 => ?_
              refine WL.q (Y.move (.pl rfl)) rfl ?_
              refine WL.q (Y.assign (.pl rfl)) rfl ?_
              refine WL.next hQ28 (.cons (i := 0) rfl (.cons (i := 3) rfl (.cons (i := 5) rfl (.cons (i := 7) rfl (.cons (i := 8) rfl (.cons (i := 46) rfl (.cons (i := 47) rfl (.cons (i := 51) rfl (.cons (i := 52) rfl (.nil)))))))))) ?_
              -- region 11: clocks.go:33
              refine W.seqD (by kernel_rfl) (by kernel_rfl) fun R29 hR29 => ?_
              refine WD.q (Y.move (.pl rfl)) rfl ?_
              refine WD.q (Y.fieldAddr0 (off := 1) (ft := 45) Try.underlying47 rfl cells45 (.pl rfl)) rfl ?_
              obtain ⟨x18, hx18, hF22⟩ := bnd hF22
              refine WD.q (Y.arrZ Try.underlying45 cells44 (.pl rfl) (.pl rfl) (ax_lt (hx18))) rfl ?_
              refine WD.q (Y.loadB (v := .int .u16 x18) Try.underlying44 rfl (.pl rfl) (i := 1) rfl (cellsA (pre := (.int .i64 r9.1 :: [])) (off := 1) (post := []) (a := r9.2.1) (enc := (eI .u16)) (d := 0) (n := 12) (sz := 1) (j := 0) (fun _ => rfl) rfl (ax_nat (hx18)) (ax_get (hx18)) rfl)) rfl ?_
              refine WD.q (Y.move (.pl rfl)) rfl ?_
              obtain ⟨hk19, hF22⟩ := ckh hF22
              refine WD.q (Y.shr (.pl rfl) (.pl rfl) (of_decide_eq_true (hk19))) rfl ?_
              refine WD.q (Y.band (.pl rfl) (.pl rfl)) rfl ?_
              refine WD.q (Y.eql (.pl rfl) (.pl rfl)) rfl ?_
              refine WD.q (Y.move (.pl rfl)) rfl ?_
              refine WD.g (.pl rfl rfl rfl) (fun hg => Y.move (.pl rfl)) rfl ?_
              refine WD.g (.pl rfl rfl rfl) (fun hg => Y.move (.pl rfl)) rfl ?_
              obtain ⟨x20, hx20, hF22⟩ := bnd hF22
              refine WD.g (.pl rfl rfl rfl) (fun hg => Y.rowEl Try.underlying22 cells3 (i := 0) rfl (.gd (hg) rfl) rfl (.gd (hg) rfl) (ix_lt (gpos hg hx20))) rfl ?_
              refine WD.g (.pl rfl rfl rfl) (fun hg => Y.loadR (enc := (eI .i64)) (v := .int .i64 x20) (a := x20) (idx := v16) (j := 0) Try.underlying3 rfl (fun _ => rfl) (i := 0) rfl (.gd (hg) rfl) (ix_get (gpos hg hx20)) rfl rfl) rfl ?_
              refine WD.g (.pl rfl rfl rfl) (fun hg => Y.move (.pl rfl)) rfl ?_
              refine WD.g (.pl rfl rfl rfl) (fun hg => Y.move (.pl rfl)) rfl ?_
              obtain ⟨x21, hx21, hF22⟩ := bnd hF22
              refine WD.g (.pl rfl rfl rfl) (fun hg => Y.rowEl Try.underlying22 cells3 (i := 0) rfl (.gd (hg) rfl) rfl (.gd (hg) rfl) (ix_lt (gpos hg hx21))) rfl ?_
              refine WD.g (.pl rfl rfl rfl) (fun hg => Y.loadR (enc := (eI .i64)) (v := .int .i64 x21) (a := x21) (idx := v17) (j := 0) Try.underlying3 rfl (fun _ => rfl) (i := 0) rfl (.gd (hg) rfl) (ix_get (gpos hg hx21)) rfl rfl) rfl ?_
              refine WD.g (.pl rfl rfl rfl) (fun hg => Y.geq (.gd (hg) rfl) (.gd (hg) rfl)) rfl ?_
              refine WD.q (Y.and (.pl rfl) (fun h2 => .gd (eqt h2) rfl)) rfl ?_
              refine WD.next hR29 (.cons (i := 0) rfl (.cons (i := 3) rfl (.cons (i := 5) rfl (.cons (i := 7) rfl (.cons (i := 46) rfl (.cons (i := 47) rfl (.cons (i := 51) rfl (.cons (i := 52) rfl (.cons (i := 73) rfl (.nil)))))))))) ?_
              refine W.cond (.pl rfl) (fun hC30 => ?_) (fun hC30 => ?_)
              · replace hF22 := cpos hC30 hF22
                -- region 12: clocks.go:34
                refine W.seqR fun Q31 hQ31 => ?_
                refine WL.q (Y.assign (.pl rfl)) rfl ?_
                refine WL.next hQ31 (.cons (i := 2) rfl (.nil)) ?_
                obtain rfl := Option.some.inj hF22
                obtain rfl := einr hN22
                obtain rfl := Option.some.inj hF13
                obtain rfl := einr hN13
                obtain rfl := Option.some.inj hF
                refine W.retV (fn := Try.f9) (vs := [.bool false]) Try.results9 ⟨.tmp rfl, trivial⟩ (fun _ _ h => h) (fun w hw => ?_)
                exact hR _ _ ⟨rfl, (hw.pick [] rfl)⟩
              · replace hF22 := cneg hC30 hF22
                refine W.skip ?_
                refine W.go hK27 (.cons (i := 0) rfl (.cons (i := 3) rfl (.cons (i := 5) rfl (.cons (i := 7) rfl (.cons (i := 46) rfl (.cons (i := 47) rfl (.cons (i := 51) rfl (.cons (i := 52) rfl (.nil))))))))) ?_
                -- region 13: clocks.go:32
                refine W.reg ?_
                obtain ⟨hk22, hF22⟩ := ckh hF22
                refine WL.q (Y.add (.pl rfl) (.pl rfl) (ok64_lt (hk22))) rfl ?_
                refine WL.q (Y.move (.pl rfl)) rfl ?_
                refine WL.nil ?_
                obtain rfl := Option.some.inj hF22
                exact W.again1 hK23 (v17 + 1) k22 hN22 (Nat.lt_succ_self _) (.cons rfl (.nil)) (.cons (i := 0) rfl (.cons (i := 3) rfl (.cons (i := 5) rfl (.cons (i := 7) rfl (.cons (i := 46) rfl (.cons (i := 47) rfl (.cons (i := 51) rfl (.nil)))))))) (fun w hw => hw.pick [0, 1] rfl)
            · replace hF22 := cneg hC26 hF22
              refine W.exit ?_
              obtain rfl := Option.some.inj hF22
              exact W.joinAt0 hK19  (einr hN22) (.nil) (.cons (i := 0) rfl (.cons (i := 3) rfl (.cons (i := 5) rfl (.cons (i := 46) rfl (.cons (i := 47) rfl (.nil)))))) (fun w hw => hw.pick [0, 1] rfl)
          · -- behind
            rintro  rfl
            -- region 14: clocks.go:31
            refine W.reg ?_
            obtain ⟨hk23, hF13⟩ := ckh hF13
            refine WL.q (Y.add (.pl rfl) (.pl rfl) (ok64_lt (hk23))) rfl ?_
            refine WL.q (Y.move (.pl rfl)) rfl ?_
            refine WL.nil ?_
            obtain rfl := Option.some.inj hF13
            exact W.again1 hK14 (v16 + 1) k13 hN13 (Nat.lt_succ_self _) (.cons rfl (.nil)) (.cons (i := 0) rfl (.cons (i := 3) rfl (.cons (i := 5) rfl (.cons (i := 46) rfl (.nil))))) (fun w hw => hw.pick [0, 1] rfl)
        · replace hF13 := cneg hC17 hF13
          refine W.exit ?_
          obtain rfl := Option.some.inj hF13
          exact W.joinAt0 hK11  (einr hN13) (.nil) (.nil) (fun w hw => hw.pick [] rfl)
      · -- behind
        rintro  rfl
        -- region 15: clocks.go:38
        refine W.seqR fun Q34 hQ34 => ?_
        refine WL.q (Y.assign (.pl rfl)) rfl ?_
        refine WL.next hQ34 (.cons (i := 2) rfl (.nil)) ?_
        obtain rfl := Option.some.inj hF
        refine W.retV (fn := Try.f9) (vs := [.bool true]) Try.results9 ⟨.tmp rfl, trivial⟩ (fun _ _ h => h) (fun w hw => ?_)
        exact hR _ _ ⟨rfl, (hw.pick [] rfl)⟩

def alibkeep_ClocksMattern_L315 (N : Nat) (x20 : (List Int)) (r6 : ((List (List Int)) × Int)) (v18 : Int) (v17 : Int) : (Bool × Int) → Option ((Bool × Int) ⊕ Bool)
  | (all21, v22) =>
    cond (decide (v22 < ((x20).length : Int)))
      (bd ((cond (all21 == true) (ix r6.1 v18) (some []))) fun (x23 : (List Int)) =>
      bd ((cond ((all21 && (decide (v22 < ((x23).length : Int)))) == true) (ix r6.1 v17) (some []))) fun (x24 : (List Int)) =>
      bd ((cond ((all21 && (decide (v22 < ((x23).length : Int)))) == true) (ix x24 v22) (some 0))) fun (x25 : Int) =>
      bd ((cond ((all21 && (decide (v22 < ((x23).length : Int)))) == true) (ix r6.1 v18) (some []))) fun (x26 : (List Int)) =>
      bd ((cond ((all21 && (decide (v22 < ((x23).length : Int)))) == true) (ix x26 v22) (some 0))) fun (x27 : Int) =>
      ck (ok64 (v22 + 1)) <|
      some (.inl (((all21 && (decide (v22 < ((x23).length : Int)))) && (decide (x25 ≤ x27))), (v22 + 1))))
      (some (.inr all21))

def alibkeep_ClocksMattern_L311 (N : Nat) (l1 : (List Mark)) (r6 : ((List (List Int)) × Int)) (v17 : Int) (r10 : (Int × (List Int) × Int)) : Int → Option (Int ⊕ (Unit ⊕ Bool))
  | v18 =>
    cond (decide (v18 < ((l1).length : Int)))
      (bd (α := (Unit ⊕ Bool)) (bd (α := Bool) (bd (ix r6.1 v17) fun (x20 : (List Int)) =>
          iter (alibkeep_ClocksMattern_L315 N x20 r6 v18 v17) N ((!(decide (v17 = v18))), 0)) <|
        fun (all19 : Bool) => 
          bd (ax 12 0 r10.2.1 v17) fun (x29 : Int) =>
          ck (decide (0 ≤ v18)) <|
          cond (!(all19 == (decide ((bandI .u16 (shrI .u16 x29 v18) 1) = 1))))
            (some (.inr false))
            (some (.inl ()))) <|
      Sum.elim (fun _ => 
        ck (ok64 (v18 + 1)) <|
        some (.inl (v18 + 1))) (fun p => some (.inr (.inr p))))
      (some (.inr (.inl ())))

def alibkeep_ClocksMattern_L289 (N : Nat) (l1 : (List Mark)) (r6 : ((List (List Int)) × Int)) (r10 : (Int × (List Int) × Int)) : Int → Option (Int ⊕ (Unit ⊕ Bool))
  | v17 =>
    cond (decide (v17 < ((l1).length : Int)))
      (bd (α := (Unit ⊕ Bool)) (iter (alibkeep_ClocksMattern_L311 N l1 r6 v17 r10) N 0) <|
      Sum.elim (fun _ => 
        ck (ok64 (v17 + 1)) <|
        some (.inl (v17 + 1))) (fun p => some (.inr (.inr p))))
      (some (.inr (.inl ())))

def alibkeep_ClocksMattern (N : Nat) (l1 : (List Mark)) : Option Bool :=
  bd (clocks_Knows N l1) fun (r6 : ((List (List Int)) × Int)) =>
  bd (clocks_Before N l1) fun (r10 : (Int × (List Int) × Int)) =>
  bd (α := Bool) (bd (alibkeep_clocksLives N) fun (r13 : Bool) =>
    cond ((!r13) == false)
      (bd (alibkeep_ok N ([r6.2, r10.2.2] : List Int)) fun (r15 : Bool) =>
      some (((!r13) || (!r15)) || (!(decide (((r6.1).length : Int) = ((l1).length : Int))))))
      (some (((!r13) || false) || (!(decide (((r6.1).length : Int) = ((l1).length : Int))))))) <|
  fun (v12 : Bool) => 
    cond v12
      (bd (alibkeep_clocksLives N) fun (r16 : Bool) =>
      some (r16 && ((decide (r6.2 = 0)) || (decide (((r6.1).length : Int) = 0)))))
      (bd (α := (Unit ⊕ Bool)) (iter (alibkeep_ClocksMattern_L289 N l1 r6 r10) N 0) <|
      Sum.elim (fun _ => 
        some true) (fun p => some p))

theorem alibkeep_ClocksMattern_ok {N : Nat} {l1 : (List Mark)} {res : Bool} (hF : alibkeep_ClocksMattern N l1 = some res) (w : World) {v5 : Value} (hs4 : SlIn encMark 3 w v5 l1) :
    Pure Try.prog 10 [v5] w (.bool res) := by
  obtain ⟨A2, c3, rfl, hcc3, hs4⟩ := hs4.form
  refine W.enter (n := 108) Try.func10 rfl rfl Sub.refl (by simp) (St.start w) fun R hR => ?_
  unfold alibkeep_ClocksMattern at hF
  -- region 0: clocks.go:42
  refine W.seqR fun Q1 hQ1 => ?_
  refine WL.q (Y.assign (.pl rfl)) rfl ?_
  refine WL.next hQ1 (.cons (i := 0) rfl (.nil)) ?_
  -- region 1: clocks.go:43
  refine W.seqR fun Q2 hQ2 => ?_
  refine WL.q (Y.move (.pl rfl)) rfl ?_
  obtain ⟨r6, hr6, hF⟩ := bnd hF
  refine WL.step (WO.callM isGo28 (.cons (.pl rfl) (.nil)) rfl (fun w hw => clocks_Knows_ok (hr6) w (hs4.mono hw)) ?_)
  rintro ⟨A7, c8, hd9⟩ -
  refine WL.q (Y.move (.pl rfl)) rfl ?_
  refine WL.q (Y.extract (.pl rfl) rfl) rfl ?_
  refine WL.q (Y.extract (.pl rfl) rfl) rfl ?_
  refine WL.q (Y.assign (.pl rfl)) rfl ?_
  refine WL.q (Y.assign (.pl rfl)) rfl ?_
  refine WL.next hQ2 (.cons (i := 0) rfl (.cons (i := 3) rfl (.cons (i := 4) rfl (.nil)))) ?_
  -- region 2: clocks.go:44
  refine W.seqR fun Q3 hQ3 => ?_
  refine WL.q (Y.move (.pl rfl)) rfl ?_
  obtain ⟨r10, hr10, hF⟩ := bnd hF
  refine WL.step (WO.callP isGo33 (.cons (.pl rfl) (.nil)) rfl (fun w hw => clocks_Before_ok (hr10) w (hs4.mono hw)) ?_)
  refine WL.q (Y.move (.pl rfl)) rfl ?_
  refine WL.q (Y.extract (.pl rfl) rfl) rfl ?_
  refine WL.q (Y.extract (.pl rfl) rfl) rfl ?_
  refine WL.step (WO.alloc (cs := (encRel (Rel.mk 0 [])).toArray) zero47 rfl rfl fun b11 => ?_)
  refine WL.step (WO.storeBA (ds := (encRel (Rel.mk r10.1 r10.2.1))) (cs' := (encRel (Rel.mk r10.1 r10.2.1))) cells47 (.pl rfl) (.pl rfl) rfl (oneRel _) (i := 0) rfl (lel (o := 0) (l := 13) (m := 13) (by decide) rfl rfl) (putW rfl) ?_)
  refine WL.q (Y.assign (.pl rfl)) rfl ?_
  refine WL.next hQ3 (.cons (i := 0) rfl (.cons (i := 3) rfl (.cons (i := 4) rfl (.cons (i := 5) rfl (.cons (i := 6) rfl (.nil)))))) ?_
  refine W.seq fun K4 hK4 => ?_
  obtain ⟨o5, hF5, hF⟩ := bnd hF
  refine W.join1 (Em := fun (v12 : Bool) => [(36, .bool v12)]) (M := fun v12 => [cN encSl (innSl (eI .i64) 1 3) 1 A7 c8 22 hd9 r6.1, cBx b11 47 (encRel (Rel.mk r10.1 r10.2.1))]) (I := fun v12 => v12 = o5) (.cons (i := 0) rfl (.cons (i := 3) rfl (.cons (i := 4) rfl (.cons (i := 5) rfl (.nil))))) (fun K6 hK6 => ?_) ?_
  · -- up to
    -- region 3: clocks.go:45
    refine W.reg ?_
    obtain ⟨r13, hr13, hF5⟩ := bnd hF5
    refine WL.step (WO.callP isGo29 (.nil) rfl (fun w hw => alibkeep_clocksLives_ok (hr13) w ) ?_)
    refine WL.q (Y.not (.pl rfl)) rfl ?_
    refine WL.q (Y.move (.pl rfl)) rfl ?_
    refine WL.g (.pl rfl rfl rfl) (fun hg => Y.move (.pl rfl)) rfl ?_
    refine WL.g (.pl rfl rfl rfl) (fun hg => Y.move (.pl rfl)) rfl ?_
    refine bsplit ((!r13) == false) (fun hg7 => ?_) (fun hg7 => ?_)
    · replace hF5 := cpos hg7 hF5
      refine WL.gd (.pl rfl rfl rfl) (hg7) ?_
      refine WL.step (WO.bsliceC (enc := (eI .i64)) (ys := ([r6.2, r10.2.2] : List Int)) Try.underlying92 bz25 (.cons (.gd (hg7) rfl) (.cons (.gd (hg7) rfl) (.nil))) rfl (fun _ => rfl) rfl rfl (by decide) (by decide) rfl fun b14 => ?_)
      refine WL.gd (.pl rfl rfl rfl) (hg7) ?_
      obtain ⟨r15, hr15, hF5⟩ := bnd hF5
      refine WL.step (WO.callP isGo25 (.cons (.pl rfl) (.nil)) rfl (fun w hw => alibkeep_ok_ok (hr15) w (SlIn.ofRow (fun _ => rfl) hw (i := 0) rfl)) ?_)
      refine WL.gd (.pl rfl rfl rfl) (hg7) ?_
      refine WL.q (Y.not (.pl rfl)) rfl ?_
      refine WL.q (Y.or (.pl rfl) (fun _ => .pl rfl)) rfl ?_
      refine WL.q (Y.move (.pl rfl)) rfl ?_
      refine WL.g (.pl rfl rfl rfl) (fun hg => Y.move (.pl rfl)) rfl ?_
      refine WL.g (.pl rfl rfl rfl) (fun hg => Y.len Try.underlying58 (.gd (hg) rfl)) rfl ?_
      refine WL.g (.pl rfl rfl rfl) (fun hg => Y.move (.pl rfl)) rfl ?_
      refine WL.g (.pl rfl rfl rfl) (fun hg => Y.len Try.underlying57 (.gd (hg) rfl)) rfl ?_
      refine WL.g (.pl rfl rfl rfl) (fun hg => Y.neq (.gd (hg) rfl) (.gd (hg) rfl)) rfl ?_
      refine WL.q (Y.or (.pl rfl) (fun h2 => .gd (eqf h2) rfl)) rfl ?_
      refine WL.nil ?_
      exact W.joinAt1 hK6 (((!r13) || (!r15)) || (!(decide (((r6.1).length : Int) = ((l1).length : Int))))) (Option.some.inj hF5) (.cons rfl (.nil)) (.cons (i := 0) rfl (.cons (i := 3) rfl (.cons (i := 4) rfl (.cons (i := 5) rfl (.nil))))) (fun w hw => hw.pick [2, 1] rfl)
    · replace hF5 := cneg hg7 hF5
      refine WL.gn (.pl rfl rfl rfl) hg7 rfl ?_
      refine WL.gn (.pl rfl rfl rfl) hg7 rfl ?_
      refine WL.gn (.pl rfl rfl rfl) hg7 rfl ?_
      refine WL.q (Y.or (b := false) (.pl rfl) (fun h2 => (gabsO hg7 h2).elim)) rfl ?_
      refine WL.q (Y.move (.pl rfl)) rfl ?_
      refine WL.g (.pl rfl rfl rfl) (fun hg => Y.move (.pl rfl)) rfl ?_
      refine WL.g (.pl rfl rfl rfl) (fun hg => Y.len Try.underlying58 (.gd (hg) rfl)) rfl ?_
      refine WL.g (.pl rfl rfl rfl) (fun hg => Y.move (.pl rfl)) rfl ?_
      refine WL.g (.pl rfl rfl rfl) (fun hg => Y.len Try.underlying57 (.gd (hg) rfl)) rfl ?_
      refine WL.g (.pl rfl rfl rfl) (fun hg => Y.neq (.gd (hg) rfl) (.gd (hg) rfl)) rfl ?_
      refine WL.q (Y.or (.pl rfl) (fun h2 => .gd (eqf h2) rfl)) rfl ?_
      refine WL.nil ?_
      exact W.joinAt1 hK6 (((!r13) || false) || (!(decide (((r6.1).length : Int) = ((l1).length : Int))))) (Option.some.inj hF5) (.cons rfl (.nil)) (.cons (i := 0) rfl (.cons (i := 3) rfl (.cons (i := 4) rfl (.cons (i := 5) rfl (.nil))))) (fun w hw => hw.pick [1, 0] rfl)
  · -- behind
    rintro v12 rfl
    refine W.cond (.pl rfl) (fun hC8 => ?_) (fun hC8 => ?_)
    · replace hF := cpos hC8 hF
      -- region 4: clocks.go:46
      refine W.seqR fun Q9 hQ9 => ?_
      obtain ⟨r16, hr16, hF⟩ := bnd hF
      refine WL.step (WO.callP isGo29 (.nil) rfl (fun w hw => alibkeep_clocksLives_ok (hr16) w ) ?_)
      refine WL.q (Y.move (.pl rfl)) rfl ?_
      refine WL.g (.pl rfl rfl rfl) (fun hg => Y.move (.pl rfl)) rfl ?_
      refine WL.g (.pl rfl rfl rfl) (fun hg => Y.eql (.gd (hg) rfl) (.pl rfl)) rfl ?_
      refine WL.g (.pl rfl rfl rfl) (fun hg => Y.move (.gd (hg) rfl)) rfl ?_
      refine WL.g (.gd rfl rfl rfl) (fun hg => Y.move (.pl rfl)) rfl ?_
      refine WL.g (.gd rfl rfl rfl) (fun hg => Y.len Try.underlying58 (.gd (hg) rfl)) rfl ?_
      refine WL.g (.gd rfl rfl rfl) (fun hg => Y.eql (.gd (hg) rfl) (.pl rfl)) rfl ?_
      refine WL.g (.pl rfl rfl rfl) (fun hg => Y.or (.gd (hg) rfl) (fun h2 => .gd (band hg (eqf h2)) rfl)) rfl ?_
      refine WL.q (Y.and (.pl rfl) (fun h2 => .gd (eqt h2) rfl)) rfl ?_
      refine WL.q (Y.assign (.pl rfl)) rfl ?_
      refine WL.next hQ9 (.cons (i := 2) rfl (.nil)) ?_
      obtain rfl := Option.some.inj hF
      refine W.retV (fn := Try.f10) (vs := [.bool (r16 && ((decide (r6.2 = 0)) || (decide (((r6.1).length : Int) = 0))))]) Try.results10 ⟨.tmp rfl, trivial⟩ (fun _ _ h => h) (fun w hw => ?_)
      exact hR _ _ ⟨rfl, (hw.pick [] rfl)⟩
    · replace hF := cneg hC8 hF
      refine W.skip ?_
      refine W.go hK4 (.cons (i := 0) rfl (.cons (i := 3) rfl (.cons (i := 5) rfl (.nil)))) ?_
      obtain ⟨o10, hF10, hF⟩ := bnd hF
      refine W.join0 (Em := []) (M := []) (I := (.inl ()) = o10) (.nil) (fun K11 hK11 => ?_) ?_
      · -- up to
        -- region 5: clocks.go:48
        refine W.seqR fun Q12 hQ12 => ?_
        refine WL.q (Y.move (.pl rfl)) rfl ?_
        refine WL.q (Y.len Try.underlying57 (.pl rfl)) rfl ?_
        refine WL.q (Y.move (.pl rfl)) rfl ?_
        refine WL.next hQ12 (.cons (i := 0) rfl (.cons (i := 3) rfl (.cons (i := 5) rfl (.cons (i := 48) rfl (.cons (i := 49) rfl (.nil)))))) ?_
        refine W.block ?_
        refine W.loop1 (Em := fun (v17 : Int) => [(49, .int .i64 v17)]) (M := fun v17 => [cN encSl (innSl (eI .i64) 1 3) 1 A7 c8 22 hd9 r6.1, cBx b11 47 (encRel (Rel.mk r10.1 r10.2.1))]) (I := fun v17 k13 => iter (alibkeep_ClocksMattern_L289 N l1 r6 r10) k13 v17 = some o10) 0 N (hF10) (.cons rfl (.nil)) (.cons (i := 0) rfl (.cons (i := 3) rfl (.cons (i := 5) rfl (.cons (i := 48) rfl (.nil))))) (fun w hw => hw.pick [0, 1] rfl) (fun v17 k13 hI K14 hK14 => ?_)
        obtain ⟨k13, t13, rfl, hF13, hN13⟩ := iter_step hI
        -- region 6: clocks.go:48
        refine W.seqR fun Q15 hQ15 => ?_
        refine WL.q (Y.lss (.pl rfl) (.pl rfl)) rfl ?_
        refine WL.next hQ15 (.cons (i := 0) rfl (.cons (i := 3) rfl (.cons (i := 5) rfl (.cons (i := 48) rfl (.cons (i := 49) rfl (.cons (i := 50) rfl (.nil))))))) ?_
        refine W.seq fun K16 hK16 => ?_
        refine W.cond (.pl rfl) (fun hC17 => ?_) (fun hC17 => ?_)
        · replace hF13 := cpos hC17 hF13
          refine W.skip ?_
          refine W.go hK16 (.cons (i := 0) rfl (.cons (i := 3) rfl (.cons (i := 5) rfl (.cons (i := 48) rfl (.cons (i := 49) rfl (.nil)))))) ?_
          obtain ⟨o18, hF18, hF13⟩ := bnd hF13
          refine W.join0 (Em := []) (M := [cN encSl (innSl (eI .i64) 1 3) 1 A7 c8 22 hd9 r6.1, cBx b11 47 (encRel (Rel.mk r10.1 r10.2.1))]) (I := (.inl ()) = o18) (.cons (i := 0) rfl (.cons (i := 3) rfl (.cons (i := 5) rfl (.cons (i := 48) rfl (.cons (i := 49) rfl (.nil)))))) (fun K19 hK19 => ?_) ?_
          · -- up to
            refine W.block ?_
            -- region 7: clocks.go:48
            refine W.seqR fun Q20 hQ20 => ?_
            refine WL.q (Y.move (.pl rfl)) rfl ?_
            refine WL.q (Y.assign (.pl rfl)) rfl ?_
            refine WL.next hQ20 (.cons (i := 0) rfl (.cons (i := 3) rfl (.cons (i := 5) rfl (.cons (i := 7) rfl (.cons (i := 48) rfl (.cons (i := 49) rfl (.nil))))))) ?_
            -- region 8: clocks.go:49
            refine W.seqR fun Q21 hQ21 => ?_
            refine WL.q (Y.move (.pl rfl)) rfl ?_
            refine WL.q (Y.len Try.underlying57 (.pl rfl)) rfl ?_
            refine WL.q (Y.move (.pl rfl)) rfl ?_
            refine WL.next hQ21 (.cons (i := 0) rfl (.cons (i := 3) rfl (.cons (i := 5) rfl (.cons (i := 7) rfl (.cons (i := 48) rfl (.cons (i := 49) rfl (.cons (i := 53) rfl (.cons (i := 54) rfl (.nil))))))))) ?_
            refine W.block ?_
            refine W.loop1 (Em := fun (v18 : Int) => [(54, .int .i64 v18)]) (M := fun v18 => [cN encSl (innSl (eI .i64) 1 3) 1 A7 c8 22 hd9 r6.1, cBx b11 47 (encRel (Rel.mk r10.1 r10.2.1))]) (I := fun v18 k22 => iter (alibkeep_ClocksMattern_L311 N l1 r6 v17 r10) k22 v18 = some o18) 0 N (hF18) (.cons rfl (.nil)) (.cons (i := 0) rfl (.cons (i := 3) rfl (.cons (i := 5) rfl (.cons (i := 7) rfl (.cons (i := 48) rfl (.cons (i := 49) rfl (.cons (i := 53) rfl (.nil)))))))) (fun w hw => hw.pick [0, 1] rfl) (fun v18 k22 hI K23 hK23 => ?_)
            obtain ⟨k22, t22, rfl, hF22, hN22⟩ := iter_step hI
            -- region 9: clocks.go:49
            refine W.seqR fun Q24 hQ24 => ?_
            refine WL.q (Y.lss (.pl rfl) (.pl rfl)) rfl ?_
            refine WL.next hQ24 (.cons (i := 0) rfl (.cons (i := 3) rfl (.cons (i := 5) rfl (.cons (i := 7) rfl (.cons (i := 48) rfl (.cons (i := 49) rfl (.cons (i := 53) rfl (.cons (i := 54) rfl (.cons (i := 55) rfl (.nil)))))))))) ?_
            refine W.seq fun K25 hK25 => ?_
            refine W.cond (.pl rfl) (fun hC26 => ?_) (fun hC26 => ?_)
            · replace hF22 := cpos hC26 hF22
              refine W.skip ?_
              refine W.go hK25 (.cons (i := 0) rfl (.cons (i := 3) rfl (.cons (i := 5) rfl (.cons (i := 7) rfl (.cons (i := 48) rfl (.cons (i := 49) rfl (.cons (i := 53) rfl (.cons (i := 54) rfl (.nil))))))))) ?_
              obtain ⟨o27, hF27, hF22⟩ := bnd hF22
              refine W.join0 (Em := []) (M := [cN encSl (innSl (eI .i64) 1 3) 1 A7 c8 22 hd9 r6.1, cBx b11 47 (encRel (Rel.mk r10.1 r10.2.1))]) (I := (.inl ()) = o27) (.cons (i := 0) rfl (.cons (i := 3) rfl (.cons (i := 5) rfl (.cons (i := 7) rfl (.cons (i := 48) rfl (.cons (i := 49) rfl (.cons (i := 53) rfl (.cons (i := 54) rfl (.nil))))))))) (fun K28 hK28 => ?_) ?_
              · -- up to
                refine W.block ?_
                -- region 10: clocks.go:49
                refine W.seqR fun Q29 hQ29 => ?_
                refine WL.q (Y.move (.pl rfl)) rfl ?_
                refine WL.q (Y.assign (.pl rfl)) rfl ?_
                refine WL.next hQ29 (.cons (i := 0) rfl (.cons (i := 3) rfl (.cons (i := 5) rfl (.cons (i := 7) rfl (.cons (i := 8) rfl (.cons (i := 48) rfl (.cons (i := 49) rfl (.cons (i := 53) rfl (.cons (i := 54) rfl (.nil)))))))))) ?_
                -- region 11: clocks.go:50
                refine W.seqR fun Q30 hQ30 => ?_
                refine WL.q (Y.move (.pl rfl)) rfl ?_
                refine WL.q (Y.move (.pl rfl)) rfl ?_
                refine WL.q (Y.neq (.pl rfl) (.pl rfl)) rfl ?_
                refine WL.q (Y.assign (.pl rfl)) rfl ?_
                refine WL.next hQ30 (.cons (i := 0) rfl (.cons (i := 3) rfl (.cons (i := 5) rfl (.cons (i := 7) rfl (.cons (i := 8) rfl (.cons (i := 9) rfl (.cons (i := 48) rfl (.cons (i := 49) rfl (.cons (i := 53) rfl (.cons (i := 54) rfl (.nil))))))))))) ?_
                obtain ⟨o31, hF31, hF27⟩ := bnd hF27
                refine W.join1 (Em := fun (all19 : Bool) => [(9, .bool all19)]) (M := fun all19 => [cN encSl (innSl (eI .i64) 1 3) 1 A7 c8 22 hd9 r6.1, cBx b11 47 (encRel (Rel.mk r10.1 r10.2.1))]) (I := fun all19 => all19 = o31) (.cons (i := 0) rfl (.cons (i := 3) rfl (.cons (i := 5) rfl (.cons (i := 7) rfl (.cons (i := 8) rfl (.cons (i := 48) rfl (.cons (i := 49) rfl (.cons (i := 53) rfl (.cons (i := 54) rfl (.nil)))))))))) (fun K32 hK32 => ?_) ?_
                · -- up to
                  -- region 12: clocks.go:51
                  refine W.seqR fun Q33 hQ33 => ?_
                  refine WL.q (Y.move (.pl rfl)) rfl ?_
                  refine WL.q (Y.move (.pl rfl)) rfl ?_
                  obtain ⟨x20, hx20, hF31⟩ := bnd hF31
                  refine WL.q (Y.nEl Try.underlying58 cells22 (i := 0) rfl (.pl rfl) rfl (.pl rfl) (ix_lt (hx20))) rfl ?_
                  refine WL.q (Y.loadN (enc := encSl) (h0 := ((none, 0) : Hd)) (v := .slice (hd9.getD v17.toNat ((none, 0) : Hd)).1 (x20).length (hd9.getD v17.toNat ((none, 0) : Hd)).2) (a := x20) (idx := v17) (j := 0) Try.underlying22 rfl lenSl (i := 0) rfl (.pl rfl) (ix_get (hx20)) rfl rfl) rfl ?_
                  refine WL.q (Y.len Try.underlying22 (.pl rfl)) rfl ?_
                  refine WL.q (Y.move (.pl rfl)) rfl ?_
                  refine WL.next hQ33 (.cons (i := 0) rfl (.cons (i := 3) rfl (.cons (i := 5) rfl (.cons (i := 7) rfl (.cons (i := 8) rfl (.cons (i := 9) rfl (.cons (i := 48) rfl (.cons (i := 49) rfl (.cons (i := 53) rfl (.cons (i := 54) rfl (.cons (i := 64) rfl (.cons (i := 65) rfl (.nil))))))))))))) ?_
                  refine W.block ?_
                  refine W.loop2 (Em := fun (all21 : Bool) (v22 : Int) => [(9, .bool all21), (65, .int .i64 v22)]) (M := fun all21 v22 => [cN encSl (innSl (eI .i64) 1 3) 1 A7 c8 22 hd9 r6.1, cBx b11 47 (encRel (Rel.mk r10.1 r10.2.1))]) (I := fun all21 v22 k34 => iter (alibkeep_ClocksMattern_L315 N x20 r6 v18 v17) k34 (all21, v22) = some o31) (!(decide (v17 = v18))) 0 N (hF31) (.cons rfl (.cons rfl (.nil))) (.cons (i := 0) rfl (.cons (i := 3) rfl (.cons (i := 5) rfl (.cons (i := 7) rfl (.cons (i := 8) rfl (.cons (i := 48) rfl (.cons (i := 49) rfl (.cons (i := 53) rfl (.cons (i := 54) rfl (.cons (i := 64) rfl (.nil))))))))))) (fun w hw => hw.pick [0, 1] rfl) (fun all21 v22 k34 hI K35 hK35 => ?_)
                  obtain ⟨k34, t34, rfl, hF34, hN34⟩ := iter_step hI
                  -- region 13: clocks.go:51
                  refine W.seqR fun Q36 hQ36 => ?_
                  refine WL.q (Y.lss (.pl rfl) (.pl rfl)) rfl ?_
                  refine WL.next hQ36 (.cons (i := 0) rfl (.cons (i := 3) rfl (.cons (i := 5) rfl (.cons (i := 7) rfl (.cons (i := 8) rfl (.cons (i := 9) rfl (.cons (i := 48) rfl (.cons (i := 49) rfl (.cons (i := 53) rfl (.cons (i := 54) rfl (.cons (i := 64) rfl (.cons (i := 65) rfl (.cons (i := 66) rfl (.nil)))))))))))))) ?_
                  refine W.seq fun K37 hK37 => ?_
                  refine W.cond (.pl rfl) (fun hC38 => ?_) (fun hC38 => ?_)
                  · replace hF34 := cpos hC38 hF34
                    refine W.skip ?_
                    refine W.go hK37 (.cons (i := 0) rfl (.cons (i := 3) rfl (.cons (i := 5) rfl (.cons (i := 7) rfl (.cons (i := 8) rfl (.cons (i := 9) rfl (.cons (i := 48) rfl (.cons (i := 49) rfl (.cons (i := 53) rfl (.cons (i := 54) rfl (.cons (i := 64) rfl (.cons (i := 65) rfl (.nil))))))))))))) ?_
                    refine W.seq fun K39 hK39 => ?_
                    refine W.block ?_
                    -- region 14: clocks.go:51
                    refine W.seqR fun Q40 hQ40 => ?_
                    refine WL.q (Y.move (.pl rfl)) rfl ?_
                    refine WL.q (Y.assign (.pl rfl)) rfl ?_
                    refine WL.next hQ40 (.cons (i := 0) rfl (.cons (i := 3) rfl (.cons (i := 5) rfl (.cons (i := 7) rfl (.cons (i := 8) rfl (.cons (i := 9) rfl (.cons (i := 10) rfl (.cons (i := 48) rfl (.cons (i := 49) rfl (.cons (i := 53) rfl (.cons (i := 54) rfl (.cons (i := 64) rfl (.cons (i := 65) rfl (.nil)))))))))))))) ?_
                    -- region 15: clocks.go:52
                    refine W.regD (by kernel_rfl) (by kernel_rfl) fun R41 hR41 => ?_
                    refine WD.q (Y.move (.pl rfl)) rfl ?_
                    refine WD.q (Y.move (.pl rfl)) rfl ?_
                    refine WD.g (.pl rfl rfl rfl) (fun hg => Y.move (.pl rfl)) rfl ?_
                    refine WD.g (.pl rfl rfl rfl) (fun hg => Y.move (.pl rfl)) rfl ?_
                    refine WD.g (.pl rfl rfl rfl) (fun hg => Y.move (.pl rfl)) rfl ?_
                    obtain ⟨x23, hx23, hF34⟩ := bnd hF34
                    refine WD.g (.pl rfl rfl rfl) (fun hg => Y.nEl Try.underlying58 cells22 (i := 0) rfl (.gd (hg) rfl) rfl (.gd (hg) rfl) (ix_lt (gpos hg hx23))) rfl ?_
                    refine WD.g (.pl rfl rfl rfl) (fun hg => Y.loadN (enc := encSl) (h0 := ((none, 0) : Hd)) (v := .slice (hd9.getD v18.toNat ((none, 0) : Hd)).1 (x23).length (hd9.getD v18.toNat ((none, 0) : Hd)).2) (a := x23) (idx := v18) (j := 0) Try.underlying22 rfl lenSl (i := 0) rfl (.gd (hg) rfl) (ix_get (gpos hg hx23)) rfl rfl) rfl ?_
                    refine WD.g (.pl rfl rfl rfl) (fun hg => Y.len Try.underlying22 (.gd (hg) rfl)) rfl ?_
                    refine WD.g (.pl rfl rfl rfl) (fun hg => Y.lss (.gd (hg) rfl) (.gd (hg) rfl)) rfl ?_
                    refine WD.q (Y.and (.pl rfl) (fun h2 => .gd (eqt h2) rfl)) rfl ?_
                    refine WD.q (Y.move (.pl rfl)) rfl ?_
                    refine WD.g (.pl rfl rfl rfl) (fun hg => Y.move (.pl rfl)) rfl ?_
                    refine WD.g (.pl rfl rfl rfl) (fun hg => Y.move (.pl rfl)) rfl ?_
                    obtain ⟨x24, hx24, hF34⟩ := bnd hF34
                    refine WD.g (.pl rfl rfl rfl) (fun hg => Y.nEl Try.underlying58 cells22 (i := 0) rfl (.gd (hg) rfl) rfl (.gd (hg) rfl) (ix_lt (gpos hg hx24))) rfl ?_
                    refine WD.g (.pl rfl rfl rfl) (fun hg => Y.loadN (enc := encSl) (h0 := ((none, 0) : Hd)) (v := .slice (hd9.getD v17.toNat ((none, 0) : Hd)).1 (x24).length (hd9.getD v17.toNat ((none, 0) : Hd)).2) (a := x24) (idx := v17) (j := 0) Try.underlying22 rfl lenSl (i := 0) rfl (.gd (hg) rfl) (ix_get (gpos hg hx24)) rfl rfl) rfl ?_
                    refine WD.g (.pl rfl rfl rfl) (fun hg => Y.move (.pl rfl)) rfl ?_
                    obtain ⟨x25, hx25, hF34⟩ := bnd hF34
                    refine WD.g (.pl rfl rfl rfl) (fun hg => Y.wEl (enc := (eI .i64)) (sz := 1) Try.underlying22 cells3 (fun w hw => (SlIn.inN (enc2 := (eI .i64)) (sz2 := 1) (E2 := 3) (h0 := ((none, 0) : Hd)) (fun _ => rfl) hw (i := 0) rfl (gpos hg hx24) (.head _))) (.gd (hg) rfl) (.gd (hg) rfl) (ix_lt (gpos hg hx25))) rfl ?_
                    refine WD.g (.pl rfl rfl rfl) (fun hg => Y.loadW (enc := (eI .i64)) (v := .int .i64 x25) (j := 0) Try.underlying3 rfl (fun w hw => (SlIn.inN (enc2 := (eI .i64)) (sz2 := 1) (E2 := 3) (h0 := ((none, 0) : Hd)) (fun _ => rfl) hw (i := 0) rfl (gpos hg hx24) (.head _))) (.gd (hg) rfl) (gpos hg hx25) rfl rfl) rfl ?_
                    refine WD.g (.pl rfl rfl rfl) (fun hg => Y.move (.pl rfl)) rfl ?_
                    refine WD.g (.pl rfl rfl rfl) (fun hg => Y.move (.pl rfl)) rfl ?_
                    obtain ⟨x26, hx26, hF34⟩ := bnd hF34
                    refine WD.g (.pl rfl rfl rfl) (fun hg => Y.nEl Try.underlying58 cells22 (i := 0) rfl (.gd (hg) rfl) rfl (.gd (hg) rfl) (ix_lt (gpos hg hx26))) rfl ?_
                    refine WD.g (.pl rfl rfl rfl) (fun hg => Y.loadN (enc := encSl) (h0 := ((none, 0) : Hd)) (v := .slice (hd9.getD v18.toNat ((none, 0) : Hd)).1 (x26).length (hd9.getD v18.toNat ((none, 0) : Hd)).2) (a := x26) (idx := v18) (j := 0) Try.underlying22 rfl lenSl (i := 0) rfl (.gd (hg) rfl) (ix_get (gpos hg hx26)) rfl rfl) rfl ?_
                    refine WD.g (.pl rfl rfl rfl) (fun hg => Y.move (.pl rfl)) rfl ?_
                    obtain ⟨x27, hx27, hF34⟩ := bnd hF34
                    refine WD.g (.pl rfl rfl rfl) (fun hg => Y.wEl (enc := (eI .i64)) (sz := 1) Try.underlying22 cells3 (fun w hw => (SlIn.inN (enc2 := (eI .i64)) (sz2 := 1) (E2 := 3) (h0 := ((none, 0) : Hd)) (fun _ => rfl) hw (i := 0) rfl (gpos hg hx26) (.head _))) (.gd (hg) rfl) (.gd (hg) rfl) (ix_lt (gpos hg hx27))) rfl ?_
                    refine WD.g (.pl rfl rfl rfl) (fun hg => Y.loadW (enc := (eI .i64)) (v := .int .i64 x27) (j := 0) Try.underlying3 rfl (fun w hw => (SlIn.inN (enc2 := (eI .i64)) (sz2 := 1) (E2 := 3) (h0 := ((none, 0) : Hd)) (fun _ => rfl) hw (i := 0) rfl (gpos hg hx26) (.head _))) (.gd (hg) rfl) (gpos hg hx27) rfl rfl) rfl ?_
                    refine WD.g (.pl rfl rfl rfl) (fun hg => Y.leq (.gd (hg) rfl) (.gd (hg) rfl)) rfl ?_
                    refine WD.q (Y.and (.pl rfl) (fun h2 => .gd (eqt h2) rfl)) rfl ?_
                    refine WD.q (Y.assign (.pl rfl)) rfl ?_
                    refine WD.fin hR41 ?_
                    refine W.go hK39 (.cons (i := 0) rfl (.cons (i := 3) rfl (.cons (i := 5) rfl (.cons (i := 7) rfl (.cons (i := 8) rfl (.cons (i := 9) rfl (.cons (i := 48) rfl (.cons (i := 49) rfl (.cons (i := 53) rfl (.cons (i := 54) rfl (.cons (i := 64) rfl (.cons (i := 65) rfl (.nil))))))))))))) ?_
                    -- region 16: clocks.go:51
                    refine W.reg ?_
                    obtain ⟨hk28, hF34⟩ := ckh hF34
                    refine WL.q (Y.add (.pl rfl) (.pl rfl) (ok64_lt (hk28))) rfl ?_
                    refine WL.q (Y.move (.pl rfl)) rfl ?_
                    refine WL.nil ?_
                    obtain rfl := Option.some.inj hF34
                    exact W.again2 hK35 ((all21 && (decide (v22 < ((x23).length : Int)))) && (decide (x25 ≤ x27))) (v22 + 1) k34 hN34 (Nat.lt_succ_self _) (.cons rfl (.cons rfl (.nil))) (.cons (i := 0) rfl (.cons (i := 3) rfl (.cons (i := 5) rfl (.cons (i := 7) rfl (.cons (i := 8) rfl (.cons (i := 48) rfl (.cons (i := 49) rfl (.cons (i := 53) rfl (.cons (i := 54) rfl (.cons (i := 64) rfl (.nil))))))))))) (fun w hw => hw.pick [0, 1] rfl)
                  · replace hF34 := cneg hC38 hF34
                    refine W.exit ?_
                    obtain rfl := Option.some.inj hF34
                    exact W.joinAt1 hK32 all21 (einr hN34) (.cons rfl (.nil)) (.cons (i := 0) rfl (.cons (i := 3) rfl (.cons (i := 5) rfl (.cons (i := 7) rfl (.cons (i := 8) rfl (.cons (i := 48) rfl (.cons (i := 49) rfl (.cons (i := 53) rfl (.cons (i := 54) rfl (.nil)))))))))) (fun w hw => hw.pick [0, 1] rfl)
                · -- behind
                  rintro all19 rfl
                  -- region 17: clocks.go:54
                  refine W.seqR fun Q43 hQ43 => ?_
                  refine WL.q (Y.move (.pl rfl)) rfl ?_
                  refine WL.q (Y.move (.pl rfl)) rfl ?_
                  refine WL.q (Y.fieldAddr0 (off := 1) (ft := 45) Try.underlying47 rfl cells45 (.pl rfl)) rfl ?_
                  obtain ⟨x29, hx29, hF27⟩ := bnd hF27
                  refine WL.q (Y.arrZ Try.underlying45 cells44 (.pl rfl) (.pl rfl) (ax_lt (hx29))) rfl ?_
                  refine WL.q (Y.loadB (v := .int .u16 x29) Try.underlying44 rfl (.pl rfl) (i := 1) rfl (cellsA (pre := (.int .i64 r10.1 :: [])) (off := 1) (post := []) (a := r10.2.1) (enc := (eI .u16)) (d := 0) (n := 12) (sz := 1) (j := 0) (fun _ => rfl) rfl (ax_nat (hx29)) (ax_get (hx29)) rfl)) rfl ?_
                  refine WL.q (Y.move (.pl rfl)) rfl ?_
                  obtain ⟨hk30, hF27⟩ := ckh hF27
                  refine WL.q (Y.shr (.pl rfl) (.pl rfl) (of_decide_eq_true (hk30))) rfl ?_
                  refine WL.q (Y.band (.pl rfl) (.pl rfl)) rfl ?_
                  refine WL.q (Y.eql (.pl rfl) (.pl rfl)) rfl ?_
                  refine WL.q (Y.neqB Try.underlying4 (.pl rfl) (.pl rfl)) rfl ?_
                  refine WL.next hQ43 (.cons (i := 0) rfl (.cons (i := 3) rfl (.cons (i := 5) rfl (.cons (i := 7) rfl (.cons (i := 48) rfl (.cons (i := 49) rfl (.cons (i := 53) rfl (.cons (i := 54) rfl (.cons (i := 105) rfl (.nil)))))))))) ?_
                  refine W.cond (.pl rfl) (fun hC44 => ?_) (fun hC44 => ?_)
                  · replace hF27 := cpos hC44 hF27
                    -- region 18: clocks.go:55
                    refine W.seqR fun Q45 hQ45 => ?_
                    refine WL.q (Y.assign (.pl rfl)) rfl ?_
                    refine WL.next hQ45 (.cons (i := 2) rfl (.nil)) ?_
                    obtain rfl := Option.some.inj hF27
                    obtain rfl := Option.some.inj hF22
                    obtain rfl := einr hN22
                    obtain rfl := Option.some.inj hF13
                    obtain rfl := einr hN13
                    obtain rfl := Option.some.inj hF
                    refine W.retV (fn := Try.f10) (vs := [.bool false]) Try.results10 ⟨.tmp rfl, trivial⟩ (fun _ _ h => h) (fun w hw => ?_)
                    exact hR _ _ ⟨rfl, (hw.pick [] rfl)⟩
                  · replace hF27 := cneg hC44 hF27
                    refine W.skip ?_
                    exact W.joinAt0 hK28  (Option.some.inj hF27) (.nil) (.cons (i := 0) rfl (.cons (i := 3) rfl (.cons (i := 5) rfl (.cons (i := 7) rfl (.cons (i := 48) rfl (.cons (i := 49) rfl (.cons (i := 53) rfl (.cons (i := 54) rfl (.nil))))))))) (fun w hw => hw.pick [0, 1] rfl)
              · -- behind
                rintro  rfl
                -- region 19: clocks.go:49
                refine W.reg ?_
                obtain ⟨hk31, hF22⟩ := ckh hF22
                refine WL.q (Y.add (.pl rfl) (.pl rfl) (ok64_lt (hk31))) rfl ?_
                refine WL.q (Y.move (.pl rfl)) rfl ?_
                refine WL.nil ?_
                obtain rfl := Option.some.inj hF22
                exact W.again1 hK23 (v18 + 1) k22 hN22 (Nat.lt_succ_self _) (.cons rfl (.nil)) (.cons (i := 0) rfl (.cons (i := 3) rfl (.cons (i := 5) rfl (.cons (i := 7) rfl (.cons (i := 48) rfl (.cons (i := 49) rfl (.cons (i := 53) rfl (.nil)))))))) (fun w hw => hw.pick [0, 1] rfl)
            · replace hF22 := cneg hC26 hF22
              refine W.exit ?_
              obtain rfl := Option.some.inj hF22
              exact W.joinAt0 hK19  (einr hN22) (.nil) (.cons (i := 0) rfl (.cons (i := 3) rfl (.cons (i := 5) rfl (.cons (i := 48) rfl (.cons (i := 49) rfl (.nil)))))) (fun w hw => hw.pick [0, 1] rfl)
          · -- behind
            rintro  rfl
            -- region 20: clocks.go:48
            refine W.reg ?_
            obtain ⟨hk32, hF13⟩ := ckh hF13
            refine WL.q (Y.add (.pl rfl) (.pl rfl) (ok64_lt (hk32))) rfl ?_
            refine WL.q (Y.move (.pl rfl)) rfl ?_
            refine WL.nil ?_
            obtain rfl := Option.some.inj hF13
            exact W.again1 hK14 (v17 + 1) k13 hN13 (Nat.lt_succ_self _) (.cons rfl (.nil)) (.cons (i := 0) rfl (.cons (i := 3) rfl (.cons (i := 5) rfl (.cons (i := 48) rfl (.nil))))) (fun w hw => hw.pick [0, 1] rfl)
        · replace hF13 := cneg hC17 hF13
          refine W.exit ?_
          obtain rfl := Option.some.inj hF13
          exact W.joinAt0 hK11  (einr hN13) (.nil) (.nil) (fun w hw => hw.pick [] rfl)
      · -- behind
        rintro  rfl
        -- region 21: clocks.go:59
        refine W.seqR fun Q48 hQ48 => ?_
        refine WL.q (Y.assign (.pl rfl)) rfl ?_
        refine WL.next hQ48 (.cons (i := 2) rfl (.nil)) ?_
        obtain rfl := Option.some.inj hF
        refine W.retV (fn := Try.f10) (vs := [.bool true]) Try.results10 ⟨.tmp rfl, trivial⟩ (fun _ _ h => h) (fun w hw => ?_)
        exact hR _ _ ⟨rfl, (hw.pick [] rfl)⟩

def order_Check_L3 (N : Nat) (r1 : Rel) : Int → Option (Int ⊕ (Unit ⊕ Int))
  | v3 =>
    cond (decide (v3 < 12))
      (bd (ax 12 0 r1.after v3) fun (x4 : Int) =>
      cond (((decide (r1.n ≤ v3)) && (!(decide (x4 = 0)))) || (!(decide ((shrI .u16 x4 (IntKind.u64.wrap r1.n)) = 0))))
        (some (.inr (.inr 3)))
        (ck (ok64 (v3 + 1)) <|
        some (.inl (v3 + 1))))
      (some (.inr (.inl ())))

def order_Check (N : Nat) (r1 : Rel) : Option Int :=
  cond ((decide (r1.n < 0)) || (decide (12 < r1.n)))
    (some 1)
    (bd (α := (Unit ⊕ Int)) (iter (order_Check_L3 N r1) N 0) <|
    Sum.elim (fun _ => 
      some 0) (fun p => some p))

theorem order_Check_ok {N : Nat} {r1 : Rel} {res : Int} (hF : order_Check N r1 = some res) (w : World) :
    Pure Try.prog 45 [.agg (encRel r1).toArray] w (.int .i64 res) := by
  refine W.enter (n := 36) Try.func45 rfl rfl Sub.refl (by simp) (St.start w) fun R hR => ?_
  unfold order_Check at hF
  -- region 0: order.go:12
  refine W.seqR fun Q1 hQ1 => ?_
  refine WL.step (WO.boxA (.pl rfl) rfl fun b2 => ?_)
  refine WL.q (Y.assign (.pl rfl)) rfl ?_
  refine WL.next hQ1 (.cons (i := 1) rfl (.nil)) ?_
  refine W.seq fun K2 hK2 => ?_
  -- region 1: order.go:13
  refine W.seqR fun Q3 hQ3 => ?_
  refine WL.q (Y.fieldAddr0 (off := 0) (ft := 3) Try.underlying47 rfl cells3 (.pl rfl)) rfl ?_
  refine WL.q (Y.loadB (v := .int .i64 r1.n) Try.underlying3 rfl (.pl rfl) (i := 0) rfl (rfl)) rfl ?_
  refine WL.q (Y.lss (.pl rfl) (.pl rfl)) rfl ?_
  refine WL.q (Y.move (.pl rfl)) rfl ?_
  refine WL.g (.pl rfl rfl rfl) (fun hg => Y.fieldAddr0 (off := 0) (ft := 3) Try.underlying47 rfl cells3 (.pl rfl)) rfl ?_
  refine WL.g (.pl rfl rfl rfl) (fun hg => Y.loadB (v := .int .i64 r1.n) Try.underlying3 rfl (.gd (hg) rfl) (i := 0) rfl (rfl)) rfl ?_
  refine WL.g (.pl rfl rfl rfl) (fun hg => Y.gtr (.gd (hg) rfl) (.pl rfl)) rfl ?_
  refine WL.q (Y.or (.pl rfl) (fun h2 => .gd (eqf h2) rfl)) rfl ?_
  refine WL.next hQ3 (.cons (i := 1) rfl (.cons (i := 12) rfl (.nil))) ?_
  refine W.cond (.pl rfl) (fun hC4 => ?_) (fun hC4 => ?_)
  · replace hF := cpos hC4 hF
    -- region 2: order.go:14
    refine W.seqR fun Q5 hQ5 => ?_
    refine WL.q (Y.assign (.pl rfl)) rfl ?_
    refine WL.next hQ5 (.cons (i := 2) rfl (.nil)) ?_
    obtain rfl := Option.some.inj hF
    refine W.retV (fn := Try.f45) (vs := [.int .i64 1]) Try.results45 ⟨.tmp rfl, trivial⟩ (fun _ _ h => h) (fun w hw => ?_)
    exact hR _ _ ⟨rfl, (hw.pick [] rfl)⟩
  · replace hF := cneg hC4 hF
    refine W.skip ?_
    refine W.go hK2 (.cons (i := 1) rfl (.nil)) ?_
    obtain ⟨o6, hF6, hF⟩ := bnd hF
    refine W.join0 (Em := []) (M := []) (I := (.inl ()) = o6) (.nil) (fun K7 hK7 => ?_) ?_
    · -- up to
      -- region 3: order.go:16
      refine W.seqR fun Q8 hQ8 => ?_
      refine WL.q (Y.fieldAddr0 (off := 1) (ft := 45) Try.underlying47 rfl cells45 (.pl rfl)) rfl ?_
      refine WL.q (Y.loadBA (ds := ((encA 12 (eI .u16) 0) r1.after)) Try.underlying45 rfl cells45 (.pl rfl) (i := 0) rfl rfl (subM (pre := (.int .i64 r1.n :: [])) (o := 1) rfl)) rfl ?_
      refine WL.q (Y.move (.pl rfl)) rfl ?_
      refine WL.next hQ8 (.cons (i := 1) rfl (.cons (i := 14) rfl (.cons (i := 15) rfl (.nil)))) ?_
      refine W.block ?_
      refine W.loop1 (Em := fun (v3 : Int) => [(15, .int .i64 v3)]) (M := fun v3 => [cBx b2 47 (encRel r1)]) (I := fun v3 k9 => iter (order_Check_L3 N r1) k9 v3 = some o6) 0 N (hF6) (.cons rfl (.nil)) (.cons (i := 1) rfl (.cons (i := 14) rfl (.nil))) (fun w hw => hw.pick [0] rfl) (fun v3 k9 hI K10 hK10 => ?_)
      obtain ⟨k9, t9, rfl, hF9, hN9⟩ := iter_step hI
      -- region 4: order.go:16
      refine W.seqR fun Q11 hQ11 => ?_
      refine WL.q (Y.lss (.pl rfl) (.pl rfl)) rfl ?_
      refine WL.next hQ11 (.cons (i := 1) rfl (.cons (i := 14) rfl (.cons (i := 15) rfl (.cons (i := 16) rfl (.nil))))) ?_
      refine W.seq fun K12 hK12 => ?_
      refine W.cond (.pl rfl) (fun hC13 => ?_) (fun hC13 => ?_)
      · replace hF9 := cpos hC13 hF9
        refine W.skip ?_
        refine W.go hK12 (.cons (i := 1) rfl (.cons (i := 14) rfl (.cons (i := 15) rfl (.nil)))) ?_
        refine W.seq fun K14 hK14 => ?_
        refine W.block ?_
        -- region 5: order.go:16
        refine W.seqR fun Q15 hQ15 => ?_
        refine WL.q (Y.move (.pl rfl)) rfl ?_
        obtain ⟨x4, hx4, hF9⟩ := bnd hF9
        refine WL.q (Y.indexA (enc := (eI .u16)) Try.underlying45 Try.underlying44 rfl cells44 (.pl rfl) (.pl rfl) (hx4) rfl (fun _ => rfl)) rfl ?_
        refine WL.q (Y.assign (.pl rfl)) rfl ?_
        refine WL.q (Y.assign (.pl rfl)) rfl ?_
        refine WL.next hQ15 (.cons (i := 1) rfl (.cons (i := 3) rfl (.cons (i := 4) rfl (.cons (i := 14) rfl (.cons (i := 15) rfl (.nil)))))) ?_
        -- region 6: order.go:17
        refine W.seqR fun Q16 hQ16 => ?_
        refine WL.q (Y.move (.pl rfl)) rfl ?_
        refine WL.q (Y.fieldAddr0 (off := 0) (ft := 3) Try.underlying47 rfl cells3 (.pl rfl)) rfl ?_
        refine WL.q (Y.loadB (v := .int .i64 r1.n) Try.underlying3 rfl (.pl rfl) (i := 0) rfl (rfl)) rfl ?_
        refine WL.q (Y.geq (.pl rfl) (.pl rfl)) rfl ?_
        refine WL.q (Y.move (.pl rfl)) rfl ?_
        refine WL.g (.pl rfl rfl rfl) (fun hg => Y.move (.pl rfl)) rfl ?_
        refine WL.g (.pl rfl rfl rfl) (fun hg => Y.neq (.gd (hg) rfl) (.pl rfl)) rfl ?_
        refine WL.q (Y.and (.pl rfl) (fun h2 => .gd (eqt h2) rfl)) rfl ?_
        refine WL.q (Y.move (.pl rfl)) rfl ?_
        refine WL.g (.pl rfl rfl rfl) (fun hg => Y.move (.pl rfl)) rfl ?_
        refine WL.g (.pl rfl rfl rfl) (fun hg => Y.fieldAddr0 (off := 0) (ft := 3) Try.underlying47 rfl cells3 (.pl rfl)) rfl ?_
        refine WL.g (.pl rfl rfl rfl) (fun hg => Y.loadB (v := .int .i64 r1.n) Try.underlying3 rfl (.gd (hg) rfl) (i := 0) rfl (rfl)) rfl ?_
        refine WL.g (.pl rfl rfl rfl) (fun hg => Y.conv Try.underlying3 Try.underlying91 (.gd (hg) rfl)) rfl ?_
        refine WL.g (.pl rfl rfl rfl) (fun hg => Y.shr (.gd (hg) rfl) (.gd (hg) rfl) (wrapU_nn rfl _)) rfl ?_
        refine WL.g (.pl rfl rfl rfl) (fun hg => Y.neq (.gd (hg) rfl) (.pl rfl)) rfl ?_
        refine WL.q (Y.or (.pl rfl) (fun h2 => .gd (eqf h2) rfl)) rfl ?_
        refine WL.next hQ16 (.cons (i := 1) rfl (.cons (i := 14) rfl (.cons (i := 15) rfl (.cons (i := 34) rfl (.nil))))) ?_
        refine W.cond (.pl rfl) (fun hC17 => ?_) (fun hC17 => ?_)
        · replace hF9 := cpos hC17 hF9
          -- region 7: order.go:18
          refine W.seqR fun Q18 hQ18 => ?_
          refine WL.q (Y.assign (.pl rfl)) rfl ?_
          refine WL.next hQ18 (.cons (i := 2) rfl (.nil)) ?_
          obtain rfl := Option.some.inj hF9
          obtain rfl := einr hN9
          obtain rfl := Option.some.inj hF
          refine W.retV (fn := Try.f45) (vs := [.int .i64 3]) Try.results45 ⟨.tmp rfl, trivial⟩ (fun _ _ h => h) (fun w hw => ?_)
          exact hR _ _ ⟨rfl, (hw.pick [] rfl)⟩
        · replace hF9 := cneg hC17 hF9
          refine W.skip ?_
          refine W.go hK14 (.cons (i := 1) rfl (.cons (i := 14) rfl (.cons (i := 15) rfl (.nil)))) ?_
          -- region 8: order.go:16
          refine W.reg ?_
          obtain ⟨hk5, hF9⟩ := ckh hF9
          refine WL.q (Y.add (.pl rfl) (.pl rfl) (ok64_lt (hk5))) rfl ?_
          refine WL.q (Y.move (.pl rfl)) rfl ?_
          refine WL.nil ?_
          obtain rfl := Option.some.inj hF9
          exact W.again1 hK10 (v3 + 1) k9 hN9 (Nat.lt_succ_self _) (.cons rfl (.nil)) (.cons (i := 1) rfl (.cons (i := 14) rfl (.nil))) (fun w hw => hw.pick [0] rfl)
      · replace hF9 := cneg hC13 hF9
        refine W.exit ?_
        obtain rfl := Option.some.inj hF9
        exact W.joinAt0 hK7  (einr hN9) (.nil) (.nil) (fun w hw => hw.pick [] rfl)
    · -- behind
      rintro  rfl
      -- region 9: order.go:21
      refine W.seqR fun Q20 hQ20 => ?_
      refine WL.q (Y.assign (.pl rfl)) rfl ?_
      refine WL.next hQ20 (.cons (i := 2) rfl (.nil)) ?_
      obtain rfl := Option.some.inj hF
      refine W.retV (fn := Try.f45) (vs := [.int .i64 0]) Try.results45 ⟨.tmp rfl, trivial⟩ (fun _ _ h => h) (fun w hw => ?_)
      exact hR _ _ ⟨rfl, (hw.pick [] rfl)⟩

def order_closed_L27 (N : Nat) (r1 : Rel) (v6 : Int) : ((List Int) × Int) → Option (((List Int) × Int) ⊕ (List Int))
  | (After8, v9) =>
    cond (decide (v9 < r1.n))
      (bd (ax 12 0 After8 v9) fun (x10 : Int) =>
      cond (decide ((bandI .u16 (shrI .u16 x10 (IntKind.u64.wrap v6)) 1) = 1))
        (bd (ax 12 0 After8 v9) fun (x11 : Int) =>
        bd (ax 12 0 After8 v6) fun (x12 : Int) =>
        bd (ax 12 0 After8 v9) fun (x13 : Int) =>
        ck (ok64 (v9 + 1)) <|
        some (.inl ((setA 12 0 After8 v9 (borI .u16 x11 x12)), (v9 + 1))))
        (ck (ok64 (v9 + 1)) <|
        some (.inl (After8, (v9 + 1)))))
      (some (.inr After8))

def order_closed_L25 (N : Nat) (r1 : Rel) : ((List Int) × Int) → Option (((List Int) × Int) ⊕ (List Int))
  | (After5, v6) =>
    cond (decide (v6 < r1.n))
      (bd (α := (List Int)) (iter (order_closed_L27 N r1 v6) N (After5, 0)) <|
      fun (After7 : (List Int)) => 
        ck (ok64 (v6 + 1)) <|
        some (.inl (After7, (v6 + 1))))
      (some (.inr After5))

def order_closed (N : Nat) (r1 : Rel) : Option (List Int) :=
  bd (α := (List Int)) (iter (order_closed_L25 N r1) N (r1.after, 0)) <|
  fun (After4 : (List Int)) => 
    some After4

theorem order_closed_ok {N : Nat} {r1 : Rel} {res : (List Int)} (hF : order_closed N r1 = some res) (w : World) :
    Pure Try.prog 46 [.agg (encRel r1).toArray] w (.agg (encRel (Rel.mk r1.n res)).toArray) := by
  refine W.enter (n := 38) Try.func46 rfl rfl Sub.refl (by simp) (St.start w) fun R hR => ?_
  unfold order_closed at hF
  -- region 0: order.go:25
  refine W.seqR fun Q1 hQ1 => ?_
  refine WL.step (WO.boxA (.pl rfl) rfl fun b2 => ?_)
  refine WL.step (WO.alloc (cs := (encRel (Rel.mk 0 [])).toArray) zero47 rfl rfl fun b3 => ?_)
  refine WL.next hQ1 (.cons (i := 1) rfl (.cons (i := 2) rfl (.nil))) ?_
  obtain ⟨o2, hF2, hF⟩ := bnd hF
  refine W.join1 (Em := fun (After4 : (List Int)) => []) (M := fun After4 => [cBx b2 47 (encRel (Rel.mk r1.n After4)), cBx b3 47 (encRel (Rel.mk 0 []))]) (I := fun After4 => After4 = o2) (.cons (i := 1) rfl (.cons (i := 2) rfl (.nil))) (fun K3 hK3 => ?_) ?_
  · -- up to
    -- region 1: order.go:26
    refine W.seqR fun Q4 hQ4 => ?_
    refine WL.q (Y.fieldAddr0 (off := 0) (ft := 3) Try.underlying47 rfl cells3 (.pl rfl)) rfl ?_
    refine WL.q (Y.loadB (v := .int .i64 r1.n) Try.underlying3 rfl (.pl rfl) (i := 1) rfl (rfl)) rfl ?_
    refine WL.q (Y.move (.pl rfl)) rfl ?_
    refine WL.next hQ4 (.cons (i := 1) rfl (.cons (i := 2) rfl (.cons (i := 6) rfl (.cons (i := 7) rfl (.nil))))) ?_
    refine W.block ?_
    refine W.loop2 (Em := fun (After5 : (List Int)) (v6 : Int) => [(7, .int .i64 v6)]) (M := fun After5 v6 => [cBx b2 47 (encRel (Rel.mk r1.n After5)), cBx b3 47 (encRel (Rel.mk 0 []))]) (I := fun After5 v6 k5 => iter (order_closed_L25 N r1) k5 (After5, v6) = some o2) r1.after 0 N (hF2) (.cons rfl (.nil)) (.cons (i := 1) rfl (.cons (i := 2) rfl (.cons (i := 6) rfl (.nil)))) (fun w hw => hw.pick [1, 0] rfl) (fun After5 v6 k5 hI K6 hK6 => ?_)
    obtain ⟨k5, t5, rfl, hF5, hN5⟩ := iter_step hI
    -- region 2: order.go:26
    refine W.seqR fun Q7 hQ7 => ?_
    refine WL.q (Y.lss (.pl rfl) (.pl rfl)) rfl ?_
    refine WL.next hQ7 (.cons (i := 1) rfl (.cons (i := 2) rfl (.cons (i := 6) rfl (.cons (i := 7) rfl (.cons (i := 8) rfl (.nil)))))) ?_
    refine W.seq fun K8 hK8 => ?_
    refine W.cond (.pl rfl) (fun hC9 => ?_) (fun hC9 => ?_)
    · replace hF5 := cpos hC9 hF5
      refine W.skip ?_
      refine W.go hK8 (.cons (i := 1) rfl (.cons (i := 2) rfl (.cons (i := 6) rfl (.cons (i := 7) rfl (.nil))))) ?_
      obtain ⟨o10, hF10, hF5⟩ := bnd hF5
      refine W.join1 (Em := fun (After7 : (List Int)) => []) (M := fun After7 => [cBx b2 47 (encRel (Rel.mk r1.n After7)), cBx b3 47 (encRel (Rel.mk 0 []))]) (I := fun After7 => After7 = o10) (.cons (i := 1) rfl (.cons (i := 2) rfl (.cons (i := 6) rfl (.cons (i := 7) rfl (.nil))))) (fun K11 hK11 => ?_) ?_
      · -- up to
        refine W.block ?_
        -- region 3: order.go:26
        refine W.seqR fun Q12 hQ12 => ?_
        refine WL.q (Y.move (.pl rfl)) rfl ?_
        refine WL.q (Y.assign (.pl rfl)) rfl ?_
        refine WL.next hQ12 (.cons (i := 1) rfl (.cons (i := 2) rfl (.cons (i := 3) rfl (.cons (i := 6) rfl (.cons (i := 7) rfl (.nil)))))) ?_
        -- region 4: order.go:27
        refine W.seqR fun Q13 hQ13 => ?_
        refine WL.q (Y.fieldAddr0 (off := 0) (ft := 3) Try.underlying47 rfl cells3 (.pl rfl)) rfl ?_
        refine WL.q (Y.loadB (v := .int .i64 r1.n) Try.underlying3 rfl (.pl rfl) (i := 0) rfl (rfl)) rfl ?_
        refine WL.q (Y.move (.pl rfl)) rfl ?_
        refine WL.next hQ13 (.cons (i := 1) rfl (.cons (i := 2) rfl (.cons (i := 3) rfl (.cons (i := 6) rfl (.cons (i := 7) rfl (.cons (i := 11) rfl (.cons (i := 12) rfl (.nil)))))))) ?_
        refine W.block ?_
        refine W.loop2 (Em := fun (After8 : (List Int)) (v9 : Int) => [(12, .int .i64 v9)]) (M := fun After8 v9 => [cBx b2 47 (encRel (Rel.mk r1.n After8)), cBx b3 47 (encRel (Rel.mk 0 []))]) (I := fun After8 v9 k14 => iter (order_closed_L27 N r1 v6) k14 (After8, v9) = some o10) After5 0 N (hF10) (.cons rfl (.nil)) (.cons (i := 1) rfl (.cons (i := 2) rfl (.cons (i := 3) rfl (.cons (i := 6) rfl (.cons (i := 7) rfl (.cons (i := 11) rfl (.nil))))))) (fun w hw => hw.pick [0, 1] rfl) (fun After8 v9 k14 hI K15 hK15 => ?_)
        obtain ⟨k14, t14, rfl, hF14, hN14⟩ := iter_step hI
        -- region 5: order.go:27
        refine W.seqR fun Q16 hQ16 => ?_
        refine WL.q (Y.lss (.pl rfl) (.pl rfl)) rfl ?_
        refine WL.next hQ16 (.cons (i := 1) rfl (.cons (i := 2) rfl (.cons (i := 3) rfl (.cons (i := 6) rfl (.cons (i := 7) rfl (.cons (i := 11) rfl (.cons (i := 12) rfl (.cons (i := 13) rfl (.nil))))))))) ?_
        refine W.seq fun K17 hK17 => ?_
        refine W.cond (.pl rfl) (fun hC18 => ?_) (fun hC18 => ?_)
        · replace hF14 := cpos hC18 hF14
          refine W.skip ?_
          refine W.go hK17 (.cons (i := 1) rfl (.cons (i := 2) rfl (.cons (i := 3) rfl (.cons (i := 6) rfl (.cons (i := 7) rfl (.cons (i := 11) rfl (.cons (i := 12) rfl (.nil)))))))) ?_
          refine W.seq fun K19 hK19 => ?_
          refine W.block ?_
          -- region 6: order.go:27
          refine W.seqR fun Q20 hQ20 => ?_
          refine WL.q (Y.move (.pl rfl)) rfl ?_
          refine WL.q (Y.assign (.pl rfl)) rfl ?_
          refine WL.next hQ20 (.cons (i := 1) rfl (.cons (i := 2) rfl (.cons (i := 3) rfl (.cons (i := 4) rfl (.cons (i := 6) rfl (.cons (i := 7) rfl (.cons (i := 11) rfl (.cons (i := 12) rfl (.nil))))))))) ?_
          -- region 7: order.go:28
          refine W.seqR fun Q21 hQ21 => ?_
          refine WL.q (Y.move (.pl rfl)) rfl ?_
          refine WL.q (Y.fieldAddr0 (off := 1) (ft := 45) Try.underlying47 rfl cells45 (.pl rfl)) rfl ?_
          obtain ⟨x10, hx10, hF14⟩ := bnd hF14
          refine WL.q (Y.arrZ Try.underlying45 cells44 (.pl rfl) (.pl rfl) (ax_lt (hx10))) rfl ?_
          refine WL.q (Y.loadB (v := .int .u16 x10) Try.underlying44 rfl (.pl rfl) (i := 0) rfl (cellsA (pre := (.int .i64 r1.n :: [])) (off := 1) (post := []) (a := After8) (enc := (eI .u16)) (d := 0) (n := 12) (sz := 1) (j := 0) (fun _ => rfl) rfl (ax_nat (hx10)) (ax_get (hx10)) rfl)) rfl ?_
          refine WL.q (Y.move (.pl rfl)) rfl ?_
          refine WL.q (Y.conv Try.underlying3 Try.underlying91 (.pl rfl)) rfl ?_
          refine WL.q (Y.shr (.pl rfl) (.pl rfl) (wrapU_nn rfl _)) rfl ?_
          refine WL.q (Y.band (.pl rfl) (.pl rfl)) rfl ?_
          refine WL.q (Y.eql (.pl rfl) (.pl rfl)) rfl ?_
          refine WL.next hQ21 (.cons (i := 1) rfl (.cons (i := 2) rfl (.cons (i := 3) rfl (.cons (i := 4) rfl (.cons (i := 6) rfl (.cons (i := 7) rfl (.cons (i := 11) rfl (.cons (i := 12) rfl (.cons (i := 23) rfl (.nil)))))))))) ?_
          refine W.cond (.pl rfl) (fun hC22 => ?_) (fun hC22 => ?_)
          · replace hF14 := cpos hC22 hF14
            -- region 8: order.go:29
            refine W.regT 11 (by kernel_rfl) (by kernel_rfl) ?_
            refine WS.q (Y.move (.pl rfl)) rfl ?_
            refine WS.q (Y.fieldAddr0 (off := 1) (ft := 45) Try.underlying47 rfl cells45 (.pl rfl)) rfl ?_
            obtain ⟨x11, hx11, hF14⟩ := bnd hF14
            refine WS.q (Y.arrZ Try.underlying45 cells44 (.pl rfl) (.pl rfl) (ax_lt (hx11))) rfl ?_
            refine WS.q (Y.loadB (v := .int .u16 x11) Try.underlying44 rfl (.pl rfl) (i := 0) rfl (cellsA (pre := (.int .i64 r1.n :: [])) (off := 1) (post := []) (a := After8) (enc := (eI .u16)) (d := 0) (n := 12) (sz := 1) (j := 0) (fun _ => rfl) rfl (ax_nat (hx11)) (ax_get (hx11)) rfl)) rfl ?_
            refine WS.q (Y.move (.pl rfl)) rfl ?_
            refine WS.q (Y.fieldAddr0 (off := 1) (ft := 45) Try.underlying47 rfl cells45 (.pl rfl)) rfl ?_
            obtain ⟨x12, hx12, hF14⟩ := bnd hF14
            refine WS.q (Y.arrZ Try.underlying45 cells44 (.pl rfl) (.pl rfl) (ax_lt (hx12))) rfl ?_
            refine WS.q (Y.loadB (v := .int .u16 x12) Try.underlying44 rfl (.pl rfl) (i := 0) rfl (cellsA (pre := (.int .i64 r1.n :: [])) (off := 1) (post := []) (a := After8) (enc := (eI .u16)) (d := 0) (n := 12) (sz := 1) (j := 0) (fun _ => rfl) rfl (ax_nat (hx12)) (ax_get (hx12)) rfl)) rfl ?_
            refine WS.q (Y.bor (.pl rfl) (.pl rfl)) rfl ?_
            refine WS.q (Y.fieldAddr0 (off := 1) (ft := 45) Try.underlying47 rfl cells45 (.pl rfl)) rfl ?_
            obtain ⟨x13, hx13, hF14⟩ := bnd hF14
            refine WS.q (Y.arrZ Try.underlying45 cells44 (.pl rfl) (.pl rfl) (ax_lt (hx13))) rfl ?_
            refine WS.tail ?_
            refine WL.step (WO.storeB (cs' := (encRel (Rel.mk r1.n (setA 12 0 After8 v9 (borI .u16 x11 x12))))) cells44 (.pl rfl) (.pl rfl) rfl (i := 0) rfl (ltl (m := 13) (offlt (off := 1) (sz := 1) (j := 0) (ax_nat (hx13)) (by decide)) rfl) (cellsSet (pre := (.int .i64 r1.n :: [])) (off := 1) (post := []) (a := After8) (enc := (eI .u16)) (d := 0) (n := 12) (sz := 1) (j := 0) (x := x13) (x' := (borI .u16 x11 x12)) (fun _ => rfl) rfl (ax_lt (hx13)) (ax_get (hx13)) (by decide) rfl rfl) ?_)
            refine WL.nil ?_
            refine W.go hK19 (.cons (i := 1) rfl (.cons (i := 2) rfl (.cons (i := 3) rfl (.cons (i := 6) rfl (.cons (i := 7) rfl (.cons (i := 11) rfl (.cons (i := 12) rfl (.nil)))))))) ?_
            -- region 9: order.go:27
            refine W.reg ?_
            obtain ⟨hk14, hF14⟩ := ckh hF14
            refine WL.q (Y.add (.pl rfl) (.pl rfl) (ok64_lt (hk14))) rfl ?_
            refine WL.q (Y.move (.pl rfl)) rfl ?_
            refine WL.nil ?_
            obtain rfl := Option.some.inj hF14
            exact W.again2 hK15 (setA 12 0 After8 v9 (borI .u16 x11 x12)) (v9 + 1) k14 hN14 (Nat.lt_succ_self _) (.cons rfl (.nil)) (.cons (i := 1) rfl (.cons (i := 2) rfl (.cons (i := 3) rfl (.cons (i := 6) rfl (.cons (i := 7) rfl (.cons (i := 11) rfl (.nil))))))) (fun w hw => hw.pick [0, 1] rfl)
          · replace hF14 := cneg hC22 hF14
            refine W.skip ?_
            refine W.go hK19 (.cons (i := 1) rfl (.cons (i := 2) rfl (.cons (i := 3) rfl (.cons (i := 6) rfl (.cons (i := 7) rfl (.cons (i := 11) rfl (.cons (i := 12) rfl (.nil)))))))) ?_
            -- region 9: order.go:27
            refine W.reg ?_
            obtain ⟨hk15, hF14⟩ := ckh hF14
            refine WL.q (Y.add (.pl rfl) (.pl rfl) (ok64_lt (hk15))) rfl ?_
            refine WL.q (Y.move (.pl rfl)) rfl ?_
            refine WL.nil ?_
            obtain rfl := Option.some.inj hF14
            exact W.again2 hK15 After8 (v9 + 1) k14 hN14 (Nat.lt_succ_self _) (.cons rfl (.nil)) (.cons (i := 1) rfl (.cons (i := 2) rfl (.cons (i := 3) rfl (.cons (i := 6) rfl (.cons (i := 7) rfl (.cons (i := 11) rfl (.nil))))))) (fun w hw => hw.pick [0, 1] rfl)
        · replace hF14 := cneg hC18 hF14
          refine W.exit ?_
          obtain rfl := Option.some.inj hF14
          exact W.joinAt1 hK11 After8 (einr hN14) (.nil) (.cons (i := 1) rfl (.cons (i := 2) rfl (.cons (i := 6) rfl (.cons (i := 7) rfl (.nil))))) (fun w hw => hw.pick [0, 1] rfl)
      · -- behind
        rintro After7 rfl
        -- region 10: order.go:26
        refine W.reg ?_
        obtain ⟨hk16, hF5⟩ := ckh hF5
        refine WL.q (Y.add (.pl rfl) (.pl rfl) (ok64_lt (hk16))) rfl ?_
        refine WL.q (Y.move (.pl rfl)) rfl ?_
        refine WL.nil ?_
        obtain rfl := Option.some.inj hF5
        exact W.again2 hK6 After7 (v6 + 1) k5 hN5 (Nat.lt_succ_self _) (.cons rfl (.nil)) (.cons (i := 1) rfl (.cons (i := 2) rfl (.cons (i := 6) rfl (.nil)))) (fun w hw => hw.pick [0, 1] rfl)
    · replace hF5 := cneg hC9 hF5
      refine W.exit ?_
      obtain rfl := Option.some.inj hF5
      exact W.joinAt1 hK3 After5 (einr hN5) (.nil) (.cons (i := 1) rfl (.cons (i := 2) rfl (.nil))) (fun w hw => hw.pick [0, 1] rfl)
  · -- behind
    rintro After4 rfl
    -- region 11: order.go:33
    refine W.seqR fun Q27 hQ27 => ?_
    refine WL.q (Y.loadBA (ds := (encRel (Rel.mk r1.n After4))) Try.underlying47 rfl cells47 (.pl rfl) (i := 0) rfl rfl subW) rfl ?_
    refine WL.step (WO.storeBA (ds := (encRel (Rel.mk r1.n After4))) (cs' := (encRel (Rel.mk r1.n After4))) cells47 (.pl rfl) (.pl rfl) rfl (oneRel _) (i := 1) rfl (lel (o := 0) (l := 13) (m := 13) (by decide) rfl rfl) (putW rfl) ?_)
    refine WL.next hQ27 (.cons (i := 2) rfl (.nil)) ?_
    obtain rfl := Option.some.inj hF
    refine W.retV (fn := Try.f46) (vs := [.agg (encRel (Rel.mk r1.n After4)).toArray]) Try.results46 ⟨.cellA Try.underlying47 rfl cells47 rfl (i := 1) rfl rfl, trivial⟩ (fun _ _ h => h) (fun w hw => ?_)
    exact hR _ _ ⟨rfl, (hw.pick [] rfl)⟩

def order_Close_L3 (N : Nat) (r1 : Rel) (r5 : (List Int)) : Int → Option (Int ⊕ (Unit ⊕ (Int × (List Int) × Bool × Int)))
  | v7 =>
    cond (decide (v7 < r1.n))
      (bd (ax 12 0 r5 v7) fun (x8 : Int) =>
      cond (decide ((bandI .u16 (shrI .u16 x8 (IntKind.u64.wrap v7)) 1) = 1))
        (some (.inr (.inr (r1.n, r5, true, 0))))
        (ck (ok64 (v7 + 1)) <|
        some (.inl (v7 + 1))))
      (some (.inr (.inl ())))

def order_Close (N : Nat) (r1 : Rel) : Option (Int × (List Int) × Bool × Int) :=
  bd (order_Check N r1) fun (r4 : Int) =>
  cond (!(decide (r4 = 0)))
    (some (0, [], false, r4))
    (bd (order_closed N r1) fun (r5 : (List Int)) =>
    bd (α := (Unit ⊕ (Int × (List Int) × Bool × Int))) (iter (order_Close_L3 N r1 r5) N 0) <|
    Sum.elim (fun _ => 
      some (r1.n, r5, false, 0)) (fun p => some p))

theorem order_Close_ok {N : Nat} {r1 : Rel} {res : (Int × (List Int) × Bool × Int)} (hF : order_Close N r1 = some res) (w : World) :
    Pure Try.prog 27 [.agg (encRel r1).toArray] w (.tuple #[.agg (encRel (Rel.mk res.1 res.2.1)).toArray, .bool res.2.2.1, .int .i64 res.2.2.2]) := by
  refine W.enter (n := 33) Try.func27 rfl rfl Sub.refl (by simp) (St.start w) fun R hR => ?_
  unfold order_Close at hF
  -- region 0: order.go:37
  refine W.seqR fun Q1 hQ1 => ?_
  refine WL.step (WO.boxA (.pl rfl) rfl fun b2 => ?_)
  refine WL.step (WO.alloc (cs := (encRel (Rel.mk 0 [])).toArray) zero47 rfl rfl fun b3 => ?_)
  refine WL.q (Y.assign (.pl rfl)) rfl ?_
  refine WL.q (Y.assign (.pl rfl)) rfl ?_
  refine WL.next hQ1 (.cons (i := 1) rfl (.cons (i := 2) rfl (.nil))) ?_
  refine W.seq fun K2 hK2 => ?_
  -- region 1: order.go:38
  refine W.seqR fun Q3 hQ3 => ?_
  refine WL.q (Y.loadBA (ds := (encRel r1)) Try.underlying47 rfl cells47 (.pl rfl) (i := 1) rfl rfl subW) rfl ?_
  obtain ⟨r4, hr4, hF⟩ := bnd hF
  refine WL.step (WO.callP isGo45 (.cons (.pl rfl) (.nil)) rfl (fun w hw => order_Check_ok (hr4) w ) ?_)
  refine WL.q (Y.assign (.pl rfl)) rfl ?_
  refine WL.next hQ3 (.cons (i := 1) rfl (.cons (i := 2) rfl (.cons (i := 5) rfl (.nil)))) ?_
  -- region 2: order.go:38
  refine W.seqR fun Q4 hQ4 => ?_
  refine WL.q (Y.move (.pl rfl)) rfl ?_
  refine WL.q (Y.neq (.pl rfl) (.pl rfl)) rfl ?_
  refine WL.next hQ4 (.cons (i := 1) rfl (.cons (i := 2) rfl (.cons (i := 5) rfl (.cons (i := 11) rfl (.nil))))) ?_
  refine W.cond (.pl rfl) (fun hC5 => ?_) (fun hC5 => ?_)
  · replace hF := cpos hC5 hF
    -- region 3: order.go:39
    refine W.seqR fun Q6 hQ6 => ?_
    refine WL.q (Y.build (cs := (encRel (Rel.mk 0 [])).toArray) shape47 (.nil) (one_parts trivial) rfl) rfl ?_
    refine WL.q (Y.move (.pl rfl)) rfl ?_
    refine WL.step (WO.storeBA (ds := (encRel (Rel.mk 0 []))) (cs' := (encRel (Rel.mk 0 []))) cells47 (.pl rfl) (.pl rfl) rfl (oneRel _) (i := 0) rfl (lel (o := 0) (l := 13) (m := 13) (by decide) rfl rfl) (putW rfl) ?_)
    refine WL.q (Y.assign (.pl rfl)) rfl ?_
    refine WL.q (Y.assign (.pl rfl)) rfl ?_
    refine WL.next hQ6 (.cons (i := 2) rfl (.cons (i := 3) rfl (.cons (i := 4) rfl (.nil)))) ?_
    obtain rfl := Option.some.inj hF
    refine W.retV (fn := Try.f27) (vs := [.agg (encRel (Rel.mk 0 [])).toArray, .bool false, .int .i64 r4]) Try.results27 ⟨.cellA Try.underlying47 rfl cells47 rfl (i := 0) rfl rfl, ⟨.tmp rfl, ⟨.tmp rfl, trivial⟩⟩⟩ (fun _ _ h => h) (fun w hw => ?_)
    exact hR _ _ ⟨rfl, (hw.pick [] rfl)⟩
  · replace hF := cneg hC5 hF
    refine W.skip ?_
    refine W.go hK2 (.cons (i := 1) rfl (.cons (i := 2) rfl (.nil))) ?_
    -- region 4: order.go:41
    refine W.seqR fun Q7 hQ7 => ?_
    refine WL.q (Y.loadBA (ds := (encRel r1)) Try.underlying47 rfl cells47 (.pl rfl) (i := 1) rfl rfl subW) rfl ?_
    obtain ⟨r5, hr5, hF⟩ := bnd hF
    refine WL.step (WO.callP isGo46 (.cons (.pl rfl) (.nil)) rfl (fun w hw => order_closed_ok (hr5) w ) ?_)
    refine WL.step (WO.alloc (cs := (encRel (Rel.mk 0 [])).toArray) zero47 rfl rfl fun b6 => ?_)
    refine WL.step (WO.storeBA (ds := (encRel (Rel.mk r1.n r5))) (cs' := (encRel (Rel.mk r1.n r5))) cells47 (.pl rfl) (.pl rfl) rfl (oneRel _) (i := 0) rfl (lel (o := 0) (l := 13) (m := 13) (by decide) rfl rfl) (putW rfl) ?_)
    refine WL.next hQ7 (.cons (i := 2) rfl (.cons (i := 6) rfl (.nil))) ?_
    obtain ⟨o8, hF8, hF⟩ := bnd hF
    refine W.join0 (Em := []) (M := [cBx b3 47 (encRel (Rel.mk 0 [])), cBx b6 47 (encRel (Rel.mk r1.n r5))]) (I := (.inl ()) = o8) (.cons (i := 2) rfl (.cons (i := 6) rfl (.nil))) (fun K9 hK9 => ?_) ?_
    · -- up to
      -- region 5: order.go:42
      refine W.seqR fun Q10 hQ10 => ?_
      refine WL.q (Y.fieldAddr0 (off := 0) (ft := 3) Try.underlying47 rfl cells3 (.pl rfl)) rfl ?_
      refine WL.q (Y.loadB (v := .int .i64 r1.n) Try.underlying3 rfl (.pl rfl) (i := 0) rfl (rfl)) rfl ?_
      refine WL.q (Y.move (.pl rfl)) rfl ?_
      refine WL.next hQ10 (.cons (i := 2) rfl (.cons (i := 6) rfl (.cons (i := 17) rfl (.cons (i := 18) rfl (.nil))))) ?_
      refine W.block ?_
      refine W.loop1 (Em := fun (v7 : Int) => [(18, .int .i64 v7)]) (M := fun v7 => [cBx b3 47 (encRel (Rel.mk 0 [])), cBx b6 47 (encRel (Rel.mk r1.n r5))]) (I := fun v7 k11 => iter (order_Close_L3 N r1 r5) k11 v7 = some o8) 0 N (hF8) (.cons rfl (.nil)) (.cons (i := 2) rfl (.cons (i := 6) rfl (.cons (i := 17) rfl (.nil)))) (fun w hw => hw.pick [1, 0] rfl) (fun v7 k11 hI K12 hK12 => ?_)
      obtain ⟨k11, t11, rfl, hF11, hN11⟩ := iter_step hI
      -- region 6: order.go:42
      refine W.seqR fun Q13 hQ13 => ?_
      refine WL.q (Y.lss (.pl rfl) (.pl rfl)) rfl ?_
      refine WL.next hQ13 (.cons (i := 2) rfl (.cons (i := 6) rfl (.cons (i := 17) rfl (.cons (i := 18) rfl (.cons (i := 19) rfl (.nil)))))) ?_
      refine W.seq fun K14 hK14 => ?_
      refine W.cond (.pl rfl) (fun hC15 => ?_) (fun hC15 => ?_)
      · replace hF11 := cpos hC15 hF11
        refine W.skip ?_
        refine W.go hK14 (.cons (i := 2) rfl (.cons (i := 6) rfl (.cons (i := 17) rfl (.cons (i := 18) rfl (.nil))))) ?_
        refine W.seq fun K16 hK16 => ?_
        refine W.block ?_
        -- region 7: order.go:42
        refine W.seqR fun Q17 hQ17 => ?_
        refine WL.q (Y.move (.pl rfl)) rfl ?_
        refine WL.q (Y.assign (.pl rfl)) rfl ?_
        refine WL.next hQ17 (.cons (i := 2) rfl (.cons (i := 6) rfl (.cons (i := 7) rfl (.cons (i := 17) rfl (.cons (i := 18) rfl (.nil)))))) ?_
        -- region 8: order.go:43
        refine W.seqR fun Q18 hQ18 => ?_
        refine WL.q (Y.move (.pl rfl)) rfl ?_
        refine WL.q (Y.fieldAddr0 (off := 1) (ft := 45) Try.underlying47 rfl cells45 (.pl rfl)) rfl ?_
        obtain ⟨x8, hx8, hF11⟩ := bnd hF11
        refine WL.q (Y.arrZ Try.underlying45 cells44 (.pl rfl) (.pl rfl) (ax_lt (hx8))) rfl ?_
        refine WL.q (Y.loadB (v := .int .u16 x8) Try.underlying44 rfl (.pl rfl) (i := 1) rfl (cellsA (pre := (.int .i64 r1.n :: [])) (off := 1) (post := []) (a := r5) (enc := (eI .u16)) (d := 0) (n := 12) (sz := 1) (j := 0) (fun _ => rfl) rfl (ax_nat (hx8)) (ax_get (hx8)) rfl)) rfl ?_
        refine WL.q (Y.move (.pl rfl)) rfl ?_
        refine WL.q (Y.conv Try.underlying3 Try.underlying91 (.pl rfl)) rfl ?_
        refine WL.q (Y.shr (.pl rfl) (.pl rfl) (wrapU_nn rfl _)) rfl ?_
        refine WL.q (Y.band (.pl rfl) (.pl rfl)) rfl ?_
        refine WL.q (Y.eql (.pl rfl) (.pl rfl)) rfl ?_
        refine WL.next hQ18 (.cons (i := 2) rfl (.cons (i := 6) rfl (.cons (i := 17) rfl (.cons (i := 18) rfl (.cons (i := 29) rfl (.nil)))))) ?_
        refine W.cond (.pl rfl) (fun hC19 => ?_) (fun hC19 => ?_)
        · replace hF11 := cpos hC19 hF11
          -- region 9: order.go:44
          refine W.seqR fun Q20 hQ20 => ?_
          refine WL.q (Y.loadBA (ds := (encRel (Rel.mk r1.n r5))) Try.underlying47 rfl cells47 (.pl rfl) (i := 1) rfl rfl subW) rfl ?_
          refine WL.step (WO.storeBA (ds := (encRel (Rel.mk r1.n r5))) (cs' := (encRel (Rel.mk r1.n r5))) cells47 (.pl rfl) (.pl rfl) rfl (oneRel _) (i := 0) rfl (lel (o := 0) (l := 13) (m := 13) (by decide) rfl rfl) (putW rfl) ?_)
          refine WL.q (Y.assign (.pl rfl)) rfl ?_
          refine WL.q (Y.assign (.pl rfl)) rfl ?_
          refine WL.next hQ20 (.cons (i := 2) rfl (.cons (i := 3) rfl (.cons (i := 4) rfl (.nil)))) ?_
          obtain rfl := Option.some.inj hF11
          obtain rfl := einr hN11
          obtain rfl := Option.some.inj hF
          refine W.retV (fn := Try.f27) (vs := [.agg (encRel (Rel.mk r1.n r5)).toArray, .bool true, .int .i64 0]) Try.results27 ⟨.cellA Try.underlying47 rfl cells47 rfl (i := 0) rfl rfl, ⟨.tmp rfl, ⟨.tmp rfl, trivial⟩⟩⟩ (fun _ _ h => h) (fun w hw => ?_)
          exact hR _ _ ⟨rfl, (hw.pick [] rfl)⟩
        · replace hF11 := cneg hC19 hF11
          refine W.skip ?_
          refine W.go hK16 (.cons (i := 2) rfl (.cons (i := 6) rfl (.cons (i := 17) rfl (.cons (i := 18) rfl (.nil))))) ?_
          -- region 10: order.go:42
          refine W.reg ?_
          obtain ⟨hk9, hF11⟩ := ckh hF11
          refine WL.q (Y.add (.pl rfl) (.pl rfl) (ok64_lt (hk9))) rfl ?_
          refine WL.q (Y.move (.pl rfl)) rfl ?_
          refine WL.nil ?_
          obtain rfl := Option.some.inj hF11
          exact W.again1 hK12 (v7 + 1) k11 hN11 (Nat.lt_succ_self _) (.cons rfl (.nil)) (.cons (i := 2) rfl (.cons (i := 6) rfl (.cons (i := 17) rfl (.nil)))) (fun w hw => hw.pick [0, 1] rfl)
      · replace hF11 := cneg hC15 hF11
        refine W.exit ?_
        obtain rfl := Option.some.inj hF11
        exact W.joinAt0 hK9  (einr hN11) (.nil) (.cons (i := 2) rfl (.cons (i := 6) rfl (.nil))) (fun w hw => hw.pick [0, 1] rfl)
    · -- behind
      rintro  rfl
      -- region 11: order.go:47
      refine W.seqR fun Q22 hQ22 => ?_
      refine WL.q (Y.loadBA (ds := (encRel (Rel.mk r1.n r5))) Try.underlying47 rfl cells47 (.pl rfl) (i := 1) rfl rfl subW) rfl ?_
      refine WL.step (WO.storeBA (ds := (encRel (Rel.mk r1.n r5))) (cs' := (encRel (Rel.mk r1.n r5))) cells47 (.pl rfl) (.pl rfl) rfl (oneRel _) (i := 0) rfl (lel (o := 0) (l := 13) (m := 13) (by decide) rfl rfl) (putW rfl) ?_)
      refine WL.q (Y.assign (.pl rfl)) rfl ?_
      refine WL.q (Y.assign (.pl rfl)) rfl ?_
      refine WL.next hQ22 (.cons (i := 2) rfl (.cons (i := 3) rfl (.cons (i := 4) rfl (.nil)))) ?_
      obtain rfl := Option.some.inj hF
      refine W.retV (fn := Try.f27) (vs := [.agg (encRel (Rel.mk r1.n r5)).toArray, .bool false, .int .i64 0]) Try.results27 ⟨.cellA Try.underlying47 rfl cells47 rfl (i := 0) rfl rfl, ⟨.tmp rfl, ⟨.tmp rfl, trivial⟩⟩⟩ (fun _ _ h => h) (fun w hw => ?_)
      exact hR _ _ ⟨rfl, (hw.pick [] rfl)⟩

def alibkeep_ClocksOrder_L3 (N : Nat) (l1 : (List Mark)) (r6 : (Int × (List Int) × Int)) : Int → Option (Int ⊕ (Unit ⊕ Bool))
  | v12 =>
    cond (decide (v12 < ((l1).length : Int)))
      (bd (ax 12 0 r6.2.1 v12) fun (x13 : Int) =>
      ck (decide (0 ≤ v12)) <|
      cond (!(decide ((bandI .u16 x13 (IntKind.u16.wrap ((shlI .u16 2 v12) - 1))) = 0)))
        (some (.inr (.inr false)))
        (ck (ok64 (v12 + 1)) <|
        some (.inl (v12 + 1))))
      (some (.inr (.inl ())))

def alibkeep_ClocksOrder (N : Nat) (l1 : (List Mark)) : Option Bool :=
  bd (clocks_Before N l1) fun (r6 : (Int × (List Int) × Int)) =>
  bd (alibkeep_clocksLives N) fun (r8 : Bool) =>
  cond ((!r8) || (!(decide (r6.2.2 = 0))))
    (bd (alibkeep_clocksLives N) fun (r9 : Bool) =>
    some (r9 && (decide (r6.1 = 0) && eqA 12 r6.2.1 [])))
    (bd (order_Close N (Rel.mk r6.1 r6.2.1)) fun (r10 : (Int × (List Int) × Bool × Int)) =>
    cond ((((!(decide (r10.2.2.2 = 0))) || r10.2.2.1) || (!(decide (r10.1 = r6.1) && eqA 12 r10.2.1 r6.2.1))) || (!(decide (r6.1 = ((l1).length : Int)))))
      (some false)
      (bd (α := (Unit ⊕ Bool)) (iter (alibkeep_ClocksOrder_L3 N l1 r6) N 0) <|
      Sum.elim (fun _ => 
        some true) (fun p => some p)))

theorem alibkeep_ClocksOrder_ok {N : Nat} {l1 : (List Mark)} {res : Bool} (hF : alibkeep_ClocksOrder N l1 = some res) (w : World) {v5 : Value} (hs4 : SlIn encMark 3 w v5 l1) :
    Pure Try.prog 11 [v5] w (.bool res) := by
  obtain ⟨A2, c3, rfl, hcc3, hs4⟩ := hs4.form
  refine W.enter (n := 64) Try.func11 rfl rfl Sub.refl (by simp) (St.start w) fun R hR => ?_
  unfold alibkeep_ClocksOrder at hF
  -- region 0: clocks.go:63
  refine W.seqR fun Q1 hQ1 => ?_
  refine WL.q (Y.assign (.pl rfl)) rfl ?_
  refine WL.next hQ1 (.cons (i := 0) rfl (.nil)) ?_
  -- region 1: clocks.go:64
  refine W.seqR fun Q2 hQ2 => ?_
  refine WL.q (Y.move (.pl rfl)) rfl ?_
  obtain ⟨r6, hr6, hF⟩ := bnd hF
  refine WL.step (WO.callP isGo33 (.cons (.pl rfl) (.nil)) rfl (fun w hw => clocks_Before_ok (hr6) w (hs4.mono hw)) ?_)
  refine WL.q (Y.move (.pl rfl)) rfl ?_
  refine WL.q (Y.extract (.pl rfl) rfl) rfl ?_
  refine WL.q (Y.extract (.pl rfl) rfl) rfl ?_
  refine WL.step (WO.alloc (cs := (encRel (Rel.mk 0 [])).toArray) zero47 rfl rfl fun b7 => ?_)
  refine WL.step (WO.storeBA (ds := (encRel (Rel.mk r6.1 r6.2.1))) (cs' := (encRel (Rel.mk r6.1 r6.2.1))) cells47 (.pl rfl) (.pl rfl) rfl (oneRel _) (i := 0) rfl (lel (o := 0) (l := 13) (m := 13) (by decide) rfl rfl) (putW rfl) ?_)
  refine WL.q (Y.assign (.pl rfl)) rfl ?_
  refine WL.next hQ2 (.cons (i := 0) rfl (.cons (i := 3) rfl (.cons (i := 4) rfl (.nil)))) ?_
  refine W.seq fun K3 hK3 => ?_
  -- region 2: clocks.go:65
  refine W.seqR fun Q4 hQ4 => ?_
  obtain ⟨r8, hr8, hF⟩ := bnd hF
  refine WL.step (WO.callP isGo29 (.nil) rfl (fun w hw => alibkeep_clocksLives_ok (hr8) w ) ?_)
  refine WL.q (Y.not (.pl rfl)) rfl ?_
  refine WL.q (Y.move (.pl rfl)) rfl ?_
  refine WL.g (.pl rfl rfl rfl) (fun hg => Y.move (.pl rfl)) rfl ?_
  refine WL.g (.pl rfl rfl rfl) (fun hg => Y.neq (.gd (hg) rfl) (.pl rfl)) rfl ?_
  refine WL.q (Y.or (.pl rfl) (fun h2 => .gd (eqf h2) rfl)) rfl ?_
  refine WL.next hQ4 (.cons (i := 0) rfl (.cons (i := 3) rfl (.cons (i := 19) rfl (.nil)))) ?_
  refine W.cond (.pl rfl) (fun hC5 => ?_) (fun hC5 => ?_)
  · replace hF := cpos hC5 hF
    -- region 3: clocks.go:66
    refine W.seqR fun Q6 hQ6 => ?_
    obtain ⟨r9, hr9, hF⟩ := bnd hF
    refine WL.step (WO.callP isGo29 (.nil) rfl (fun w hw => alibkeep_clocksLives_ok (hr9) w ) ?_)
    refine WL.q (Y.move (.pl rfl)) rfl ?_
    refine WL.g (.pl rfl rfl rfl) (fun hg => Y.loadBA (ds := (encRel (Rel.mk r6.1 r6.2.1))) Try.underlying47 rfl cells47 (.pl rfl) (i := 0) rfl rfl subW) rfl ?_
    refine WL.g (.pl rfl rfl rfl) (fun hg => Y.build (cs := (encRel (Rel.mk 0 [])).toArray) shape47 (.nil) (one_parts trivial) rfl) rfl ?_
    refine WL.g (.pl rfl rfl rfl) (fun hg => Y.eqlG eqg47 (.gd (hg) rfl) (.gd (hg) rfl)) rfl ?_
    refine WL.q (Y.and (.pl rfl) (fun h2 => .gd (eqt h2) rfl)) rfl ?_
    refine WL.q (Y.assign (.pl rfl)) rfl ?_
    refine WL.next hQ6 (.cons (i := 2) rfl (.nil)) ?_
    obtain rfl := Option.some.inj hF
    refine W.retV (fn := Try.f11) (vs := [.bool (r9 && (decide (r6.1 = 0) && eqA 12 r6.2.1 []))]) Try.results11 ⟨.tmp rfl, trivial⟩ (fun _ _ h => h) (fun w hw => ?_)
    exact hR _ _ ⟨rfl, (hw.pick [] rfl)⟩
  · replace hF := cneg hC5 hF
    refine W.skip ?_
    refine W.go hK3 (.cons (i := 0) rfl (.cons (i := 3) rfl (.nil))) ?_
    -- region 4: clocks.go:68
    refine W.seqR fun Q7 hQ7 => ?_
    refine WL.q (Y.loadBA (ds := (encRel (Rel.mk r6.1 r6.2.1))) Try.underlying47 rfl cells47 (.pl rfl) (i := 0) rfl rfl subW) rfl ?_
    obtain ⟨r10, hr10, hF⟩ := bnd hF
    refine WL.step (WO.callP isGo27 (.cons (.pl rfl) (.nil)) rfl (fun w hw => order_Close_ok (hr10) w ) ?_)
    refine WL.q (Y.move (.pl rfl)) rfl ?_
    refine WL.q (Y.extract (.pl rfl) rfl) rfl ?_
    refine WL.q (Y.extract (.pl rfl) rfl) rfl ?_
    refine WL.q (Y.extract (.pl rfl) rfl) rfl ?_
    refine WL.step (WO.alloc (cs := (encRel (Rel.mk 0 [])).toArray) zero47 rfl rfl fun b11 => ?_)
    refine WL.step (WO.storeBA (ds := (encRel (Rel.mk r10.1 r10.2.1))) (cs' := (encRel (Rel.mk r10.1 r10.2.1))) cells47 (.pl rfl) (.pl rfl) rfl (oneRel _) (i := 0) rfl (lel (o := 0) (l := 13) (m := 13) (by decide) rfl rfl) (putW rfl) ?_)
    refine WL.q (Y.assign (.pl rfl)) rfl ?_
    refine WL.q (Y.assign (.pl rfl)) rfl ?_
    refine WL.next hQ7 (.cons (i := 0) rfl (.cons (i := 3) rfl (.cons (i := 5) rfl (.cons (i := 6) rfl (.cons (i := 7) rfl (.nil)))))) ?_
    refine W.seq fun K8 hK8 => ?_
    -- region 5: clocks.go:69
    refine W.seqR fun Q9 hQ9 => ?_
    refine WL.q (Y.move (.pl rfl)) rfl ?_
    refine WL.q (Y.neq (.pl rfl) (.pl rfl)) rfl ?_
    refine WL.q (Y.move (.pl rfl)) rfl ?_
    refine WL.g (.pl rfl rfl rfl) (fun hg => Y.move (.pl rfl)) rfl ?_
    refine WL.q (Y.or (.pl rfl) (fun h2 => .gd (eqf h2) rfl)) rfl ?_
    refine WL.q (Y.move (.pl rfl)) rfl ?_
    refine WL.g (.pl rfl rfl rfl) (fun hg => Y.loadBA (ds := (encRel (Rel.mk r10.1 r10.2.1))) Try.underlying47 rfl cells47 (.pl rfl) (i := 0) rfl rfl subW) rfl ?_
    refine WL.g (.pl rfl rfl rfl) (fun hg => Y.loadBA (ds := (encRel (Rel.mk r6.1 r6.2.1))) Try.underlying47 rfl cells47 (.pl rfl) (i := 1) rfl rfl subW) rfl ?_
    refine WL.g (.pl rfl rfl rfl) (fun hg => Y.neqG eqg47 (.gd (hg) rfl) (.gd (hg) rfl)) rfl ?_
    refine WL.q (Y.or (.pl rfl) (fun h2 => .gd (eqf h2) rfl)) rfl ?_
    refine WL.q (Y.move (.pl rfl)) rfl ?_
    refine WL.g (.pl rfl rfl rfl) (fun hg => Y.fieldAddr0 (off := 0) (ft := 3) Try.underlying47 rfl cells3 (.pl rfl)) rfl ?_
    refine WL.g (.pl rfl rfl rfl) (fun hg => Y.loadB (v := .int .i64 r6.1) Try.underlying3 rfl (.gd (hg) rfl) (i := 1) rfl (rfl)) rfl ?_
    refine WL.g (.pl rfl rfl rfl) (fun hg => Y.move (.pl rfl)) rfl ?_
    refine WL.g (.pl rfl rfl rfl) (fun hg => Y.len Try.underlying57 (.gd (hg) rfl)) rfl ?_
    refine WL.g (.pl rfl rfl rfl) (fun hg => Y.neq (.gd (hg) rfl) (.gd (hg) rfl)) rfl ?_
    refine WL.q (Y.or (.pl rfl) (fun h2 => .gd (eqf h2) rfl)) rfl ?_
    refine WL.next hQ9 (.cons (i := 0) rfl (.cons (i := 3) rfl (.cons (i := 48) rfl (.nil)))) ?_
    refine W.cond (.pl rfl) (fun hC10 => ?_) (fun hC10 => ?_)
    · replace hF := cpos hC10 hF
      -- region 6: clocks.go:70
      refine W.seqR fun Q11 hQ11 => ?_
      refine WL.q (Y.assign (.pl rfl)) rfl ?_
      refine WL.next hQ11 (.cons (i := 2) rfl (.nil)) ?_
      obtain rfl := Option.some.inj hF
      refine W.retV (fn := Try.f11) (vs := [.bool false]) Try.results11 ⟨.tmp rfl, trivial⟩ (fun _ _ h => h) (fun w hw => ?_)
      exact hR _ _ ⟨rfl, (hw.pick [] rfl)⟩
    · replace hF := cneg hC10 hF
      refine W.skip ?_
      refine W.go hK8 (.cons (i := 0) rfl (.cons (i := 3) rfl (.nil))) ?_
      obtain ⟨o12, hF12, hF⟩ := bnd hF
      refine W.join0 (Em := []) (M := []) (I := (.inl ()) = o12) (.nil) (fun K13 hK13 => ?_) ?_
      · -- up to
        -- region 7: clocks.go:72
        refine W.seqR fun Q14 hQ14 => ?_
        refine WL.q (Y.move (.pl rfl)) rfl ?_
        refine WL.q (Y.len Try.underlying57 (.pl rfl)) rfl ?_
        refine WL.q (Y.move (.pl rfl)) rfl ?_
        refine WL.next hQ14 (.cons (i := 3) rfl (.cons (i := 50) rfl (.cons (i := 51) rfl (.nil)))) ?_
        refine W.block ?_
        refine W.loop1 (Em := fun (v12 : Int) => [(51, .int .i64 v12)]) (M := fun v12 => [cBx b7 47 (encRel (Rel.mk r6.1 r6.2.1))]) (I := fun v12 k15 => iter (alibkeep_ClocksOrder_L3 N l1 r6) k15 v12 = some o12) 0 N (hF12) (.cons rfl (.nil)) (.cons (i := 3) rfl (.cons (i := 50) rfl (.nil))) (fun w hw => hw.pick [1] rfl) (fun v12 k15 hI K16 hK16 => ?_)
        obtain ⟨k15, t15, rfl, hF15, hN15⟩ := iter_step hI
        -- region 8: clocks.go:72
        refine W.seqR fun Q17 hQ17 => ?_
        refine WL.q (Y.lss (.pl rfl) (.pl rfl)) rfl ?_
        refine WL.next hQ17 (.cons (i := 3) rfl (.cons (i := 50) rfl (.cons (i := 51) rfl (.cons (i := 52) rfl (.nil))))) ?_
        refine W.seq fun K18 hK18 => ?_
        refine W.cond (.pl rfl) (fun hC19 => ?_) (fun hC19 => ?_)
        · replace hF15 := cpos hC19 hF15
          refine W.skip ?_
          refine W.go hK18 (.cons (i := 3) rfl (.cons (i := 50) rfl (.cons (i := 51) rfl (.nil)))) ?_
          refine W.seq fun K20 hK20 => ?_
          refine W.block ?_
          -- region 9: clocks.go:72
          refine W.seqR fun Q21 hQ21 => ?_
          refine WL.q (Y.move (.pl rfl)) rfl ?_
          refine WL.q (Y.assign (.pl rfl)) rfl ?_
          refine WL.next hQ21 (.cons (i := 3) rfl (.cons (i := 8) rfl (.cons (i := 50) rfl (.cons (i := 51) rfl (.nil))))) ?_
          -- region 10: clocks.go:73
          refine W.seqD (by kernel_rfl) (by kernel_rfl) fun R22 hR22 => ?_
          refine WD.q (Y.move (.pl rfl)) rfl ?_
          refine WD.q (Y.fieldAddr0 (off := 1) (ft := 45) Try.underlying47 rfl cells45 (.pl rfl)) rfl ?_
          obtain ⟨x13, hx13, hF15⟩ := bnd hF15
          refine WD.q (Y.arrZ Try.underlying45 cells44 (.pl rfl) (.pl rfl) (ax_lt (hx13))) rfl ?_
          refine WD.q (Y.loadB (v := .int .u16 x13) Try.underlying44 rfl (.pl rfl) (i := 0) rfl (cellsA (pre := (.int .i64 r6.1 :: [])) (off := 1) (post := []) (a := r6.2.1) (enc := (eI .u16)) (d := 0) (n := 12) (sz := 1) (j := 0) (fun _ => rfl) rfl (ax_nat (hx13)) (ax_get (hx13)) rfl)) rfl ?_
          refine WD.q (Y.move (.pl rfl)) rfl ?_
          obtain ⟨hk14, hF15⟩ := ckh hF15
          refine WD.q (Y.shl (.pl rfl) (.pl rfl) (of_decide_eq_true (hk14))) rfl ?_
          refine WD.q (Y.subW (.pl rfl) (.pl rfl)) rfl ?_
          refine WD.q (Y.band (.pl rfl) (.pl rfl)) rfl ?_
          refine WD.q (Y.neq (.pl rfl) (.pl rfl)) rfl ?_
          refine WD.next hR22 (.cons (i := 3) rfl (.cons (i := 50) rfl (.cons (i := 51) rfl (.cons (i := 62) rfl (.nil))))) ?_
          refine W.cond (.pl rfl) (fun hC23 => ?_) (fun hC23 => ?_)
          · replace hF15 := cpos hC23 hF15
            -- region 11: clocks.go:74
            refine W.seqR fun Q24 hQ24 => ?_
            refine WL.q (Y.assign (.pl rfl)) rfl ?_
            refine WL.next hQ24 (.cons (i := 2) rfl (.nil)) ?_
            obtain rfl := Option.some.inj hF15
            obtain rfl := einr hN15
            obtain rfl := Option.some.inj hF
            refine W.retV (fn := Try.f11) (vs := [.bool false]) Try.results11 ⟨.tmp rfl, trivial⟩ (fun _ _ h => h) (fun w hw => ?_)
            exact hR _ _ ⟨rfl, (hw.pick [] rfl)⟩
          · replace hF15 := cneg hC23 hF15
            refine W.skip ?_
            refine W.go hK20 (.cons (i := 3) rfl (.cons (i := 50) rfl (.cons (i := 51) rfl (.nil)))) ?_
            -- region 12: clocks.go:72
            refine W.reg ?_
            obtain ⟨hk15, hF15⟩ := ckh hF15
            refine WL.q (Y.add (.pl rfl) (.pl rfl) (ok64_lt (hk15))) rfl ?_
            refine WL.q (Y.move (.pl rfl)) rfl ?_
            refine WL.nil ?_
            obtain rfl := Option.some.inj hF15
            exact W.again1 hK16 (v12 + 1) k15 hN15 (Nat.lt_succ_self _) (.cons rfl (.nil)) (.cons (i := 3) rfl (.cons (i := 50) rfl (.nil))) (fun w hw => hw.pick [0] rfl)
        · replace hF15 := cneg hC19 hF15
          refine W.exit ?_
          obtain rfl := Option.some.inj hF15
          exact W.joinAt0 hK13  (einr hN15) (.nil) (.nil) (fun w hw => hw.pick [] rfl)
      · -- behind
        rintro  rfl
        -- region 13: clocks.go:77
        refine W.seqR fun Q26 hQ26 => ?_
        refine WL.q (Y.assign (.pl rfl)) rfl ?_
        refine WL.next hQ26 (.cons (i := 2) rfl (.nil)) ?_
        obtain rfl := Option.some.inj hF
        refine W.retV (fn := Try.f11) (vs := [.bool true]) Try.results11 ⟨.tmp rfl, trivial⟩ (fun _ _ h => h) (fun w hw => ?_)
        exact hR _ _ ⟨rfl, (hw.pick [] rfl)⟩

end Go.Proofs.Ytooaoekfnmakhaa
