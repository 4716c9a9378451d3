/- Orders: what their code computes, and the walks. -/
import Derived.Test.YtemckhkicfpgeaaProg
import Derived.Test.YtemckhkicfpgeaaView
set_option linter.unusedVariables false
set_option linter.unusedSimpArgs false
set_option linter.unusedSectionVars false
set_option maxRecDepth 100000
namespace Go.Proofs.Ytemckhkicfpgeaa
open Go.RowKit
structure Rel where
  n : Int
  after : List Int
deriving DecidableEq
def Rel.z : Rel := ⟨0, []⟩
def encRel (x : Rel) : List Value := (Value.int .i64 x.n :: ((encA 12 (eI .u16) 0) x.after ++ []))
theorem lenRel (x : Rel) : (encRel x).length = 13 := rfl
theorem oneRel : ∀ x, ∀ v ∈ encRel x, v.oneCell' = true := fun x => (one_cons rfl (one_app ((oneA oneI) _) one_nil))
theorem cells3 : Try.prog.cellsOf 3 = 0 + 1 := by kernel_rfl
theorem cells22 : Try.prog.cellsOf 22 = 0 + 1 := by kernel_rfl
theorem cells23 : Try.prog.cellsOf 23 = 11 + 1 := by kernel_rfl
theorem cells25 : Try.prog.cellsOf 25 = 12 + 1 := by kernel_rfl
theorem cells26 : Try.prog.cellsOf 26 = 0 + 1 := by kernel_rfl
theorem cells34 : Try.prog.cellsOf 34 = 0 + 1 := by kernel_rfl
theorem cells65 : Try.prog.cellsOf 65 = 1 + 1 := by kernel_rfl
theorem cells71 : Try.prog.cellsOf 71 = 0 + 1 := by kernel_rfl
theorem isGo15 : IsGo Try.prog 15 := ⟨_, Try.func15, by kernel_rfl, rfl⟩
theorem isGo17 : IsGo Try.prog 17 := ⟨_, Try.func17, by kernel_rfl, rfl⟩
theorem isGo18 : IsGo Try.prog 18 := ⟨_, Try.func18, by kernel_rfl, rfl⟩
theorem isGo19 : IsGo Try.prog 19 := ⟨_, Try.func19, by kernel_rfl, rfl⟩
theorem isGo20 : IsGo Try.prog 20 := ⟨_, Try.func20, by kernel_rfl, rfl⟩
theorem isGo24 : IsGo Try.prog 24 := ⟨_, Try.func24, by kernel_rfl, rfl⟩
theorem isGo29 : IsGo Try.prog 29 := ⟨_, Try.func29, by kernel_rfl, rfl⟩
theorem isGo37 : IsGo Try.prog 37 := ⟨_, Try.func37, by kernel_rfl, rfl⟩
theorem isGo38 : IsGo Try.prog 38 := ⟨_, Try.func38, by kernel_rfl, rfl⟩
theorem isGo39 : IsGo Try.prog 39 := ⟨_, Try.func39, by kernel_rfl, rfl⟩
theorem isGo40 : IsGo Try.prog 40 := ⟨_, Try.func40, by kernel_rfl, rfl⟩
theorem isGo41 : IsGo Try.prog 41 := ⟨_, Try.func41, by kernel_rfl, rfl⟩
theorem isGo42 : IsGo Try.prog 42 := ⟨_, Try.func42, by kernel_rfl, rfl⟩
theorem isGo43 : IsGo Try.prog 43 := ⟨_, Try.func43, by kernel_rfl, rfl⟩
theorem isGo45 : IsGo Try.prog 45 := ⟨_, Try.func45, by kernel_rfl, rfl⟩
theorem isGo51 : IsGo Try.prog 51 := ⟨_, Try.func51, by kernel_rfl, rfl⟩
theorem isGo58 : IsGo Try.prog 58 := ⟨_, Try.func58, by kernel_rfl, rfl⟩
theorem isGo59 : IsGo Try.prog 59 := ⟨_, Try.func59, by kernel_rfl, rfl⟩
theorem isGo60 : IsGo Try.prog 60 := ⟨_, Try.func60, by kernel_rfl, rfl⟩
theorem isGo61 : IsGo Try.prog 61 := ⟨_, Try.func61, by kernel_rfl, rfl⟩
theorem isGo68 : IsGo Try.prog 68 := ⟨_, Try.func68, by kernel_rfl, rfl⟩
theorem isGo81 : IsGo Try.prog 81 := ⟨_, Try.func81, by kernel_rfl, rfl⟩
theorem zero25 : ∃ i, Try.prog.info? 25 = some i ∧ i.zero = some (Value.agg #[(Value.int .i64 0), (Value.int .u16 0), (Value.int .u16 0), (Value.int .u16 0), (Value.int .u16 0), (Value.int .u16 0), (Value.int .u16 0), (Value.int .u16 0), (Value.int .u16 0), (Value.int .u16 0), (Value.int .u16 0), (Value.int .u16 0), (Value.int .u16 0)]) := ⟨_, rfl, by kernel_rfl⟩
theorem zero65 : ∃ i, Try.prog.info? 65 = some i ∧ i.zero = some (Value.agg #[(Value.int .i64 0), (Value.int .i64 0)]) := ⟨_, rfl, by kernel_rfl⟩
theorem bz3 : ∃ i, Try.prog.info? 3 = some i ∧ i.zero = some (Value.int .i64 0) ∧ i.size = 1 := ⟨_, rfl, by kernel_rfl, by kernel_rfl⟩
theorem bz22 : ∃ i, Try.prog.info? 22 = some i ∧ i.zero = some (Value.int .u16 0) ∧ i.size = 1 := ⟨_, rfl, by kernel_rfl, by kernel_rfl⟩
theorem bz26 : ∃ i, Try.prog.info? 26 = some i ∧ i.zero = some (Value.int .i64 0) ∧ i.size = 1 := ⟨_, rfl, by kernel_rfl, by kernel_rfl⟩
theorem bz65 : ∃ i, Try.prog.info? 65 = some i ∧ i.zero = some (Value.agg #[(Value.int .i64 0), (Value.int .i64 0)]) ∧ i.size = 2 := ⟨_, rfl, by kernel_rfl, by kernel_rfl⟩
theorem mka3 : ∃ i z, Try.prog.info? 3 = some i ∧ i.zero = some z ∧ i.size = 1 ∧ i.bytes = 8 ∧ z.cells = ([(Value.int .i64 0)] : List Value).toArray ∧ ([(Value.int .i64 0)] : List Value).length = 1 ∧ 0 < 1 := ⟨_, (Value.int .i64 0), rfl, by kernel_rfl, by kernel_rfl, by kernel_rfl, rfl, rfl, by decide⟩
theorem ap3 : ∃ i z, Try.prog.info? 3 = some i ∧ i.zero = some z ∧ i.size = 1 ∧ i.bytes = 8 ∧ z.cells.size = 1 ∧ 0 < 1 := ⟨_, (Value.int .i64 0), rfl, by kernel_rfl, by kernel_rfl, by kernel_rfl, by kernel_rfl, by decide⟩
theorem ap22 : ∃ i z, Try.prog.info? 22 = some i ∧ i.zero = some z ∧ i.size = 1 ∧ i.bytes = 2 ∧ z.cells.size = 1 ∧ 0 < 1 := ⟨_, (Value.int .u16 0), rfl, by kernel_rfl, by kernel_rfl, by kernel_rfl, by kernel_rfl, by decide⟩
theorem shape25 : Shape Try.prog 25 [(0, 1), (1, 12)] #[(Value.int .i64 0), (Value.int .u16 0), (Value.int .u16 0), (Value.int .u16 0), (Value.int .u16 0), (Value.int .u16 0), (Value.int .u16 0), (Value.int .u16 0), (Value.int .u16 0), (Value.int .u16 0), (Value.int .u16 0), (Value.int .u16 0), (Value.int .u16 0)] := ⟨_, _, Value.agg #[(Value.int .i64 0), (Value.int .u16 0), (Value.int .u16 0), (Value.int .u16 0), (Value.int .u16 0), (Value.int .u16 0), (Value.int .u16 0), (Value.int .u16 0), (Value.int .u16 0), (Value.int .u16 0), (Value.int .u16 0), (Value.int .u16 0), (Value.int .u16 0)], Try.underlying25, rfl, by kernel_rfl, rfl, by kernel_rfl, by decide⟩
theorem shape73 : Shape Try.prog 73 [(0, 13), (13, 1), (14, 1), (15, 1)] #[(Value.int .i64 0), (Value.int .u16 0), (Value.int .u16 0), (Value.int .u16 0), (Value.int .u16 0), (Value.int .u16 0), (Value.int .u16 0), (Value.int .u16 0), (Value.int .u16 0), (Value.int .u16 0), (Value.int .u16 0), (Value.int .u16 0), (Value.int .u16 0), (Value.int .i64 0), (Value.slice none 0 0), (Value.slice none 0 0)] := ⟨_, _, Value.agg #[(Value.int .i64 0), (Value.int .u16 0), (Value.int .u16 0), (Value.int .u16 0), (Value.int .u16 0), (Value.int .u16 0), (Value.int .u16 0), (Value.int .u16 0), (Value.int .u16 0), (Value.int .u16 0), (Value.int .u16 0), (Value.int .u16 0), (Value.int .u16 0), (Value.int .i64 0), (Value.slice none 0 0), (Value.slice none 0 0)], Try.underlying73, rfl, by kernel_rfl, rfl, by kernel_rfl, by decide⟩
theorem azero65 : ∃ i zv, Try.prog.info? 65 = some i ∧ i.zero = some zv ∧ zv.cells = #[(Value.int .i64 0), (Value.int .i64 0)] := ⟨_, (Value.agg #[(Value.int .i64 0), (Value.int .i64 0)]), rfl, by kernel_rfl, rfl⟩
def alibkeep_rel_L3 (N : Nat) (l2 : (List (List Int))) : ((List Int) × Int) → Option (((List Int) × Int) ⊕ (List Int))
  | (After10, v11) =>
    cond (decide (v11 < ((l2).length : Int)))
      (bd (ix l2 v11) fun (x12 : (List Int)) =>
      bd (ax 2 0 x12 0) fun (x14 : Int) =>
      bd (ax 12 0 After10 x14) fun (x15 : Int) =>
      bd (ax 2 0 x12 1) fun (x16 : Int) =>
      ck (decide (0 ≤ x16)) <|
      bd (ax 12 0 After10 x14) fun (x18 : Int) =>
      ck (ok64 (v11 + 1)) <|
      some (.inl ((setA 12 0 After10 x14 (borI .u16 x15 (shlI .u16 1 x16))), (v11 + 1))))
      (some (.inr After10))

def alibkeep_rel (N : Nat) (n1 : Int) (l2 : (List (List Int))) : Option (List Int) :=
  bd (α := (List Int)) (iter (alibkeep_rel_L3 N l2) N ([], 0)) <|
  fun (After9 : (List Int)) => 
    some After9

theorem alibkeep_rel_ok {N : Nat} {n1 : Int} {l2 : (List (List Int))} {res : (List Int)} (hF : alibkeep_rel N n1 l2 = some res) (w : World) {v6 : Value} (hs5 : SlIn (encA 2 (eI .i64) 0) 2 w v6 l2) :
    Pure Try.prog 38 [.int .i64 n1, v6] w (.agg (encRel (Rel.mk n1 res)).toArray) := by
  obtain ⟨A3, c4, rfl, hcc4, hs5⟩ := hs5.form
  refine W.enter (n := 29) Try.func38 rfl rfl Sub.refl (by simp) (St.start w) fun R hR => ?_
  unfold alibkeep_rel at hF
  -- region 0: order.go:13
  refine W.seqR fun Q1 hQ1 => ?_
  refine WL.step (WO.alloc (cs := (encRel (Rel.mk 0 [])).toArray) zero25 rfl rfl fun b7 => ?_)
  refine WL.next hQ1 (.cons (i := 0) rfl (.cons (i := 1) rfl (.cons (i := 4) rfl (.nil)))) ?_
  -- region 1: order.go:14
  refine W.seqR fun Q2 hQ2 => ?_
  refine WL.q (Y.move (.pl rfl)) rfl ?_
  refine WL.q (Y.build (cs := (encRel (Rel.mk n1 [])).toArray) shape25 (.cons (.pl rfl) (.nil)) (one_parts ⟨rfl, trivial⟩) rfl) rfl ?_
  refine WL.step (WO.alloc (cs := (encRel (Rel.mk 0 [])).toArray) zero25 rfl rfl fun b8 => ?_)
  refine WL.step (WO.storeBA (ds := (encRel (Rel.mk n1 []))) (cs' := (encRel (Rel.mk n1 []))) cells25 (.pl rfl) (.pl rfl) rfl (oneRel _) (i := 0) rfl (lel (o := 0) (l := 13) (m := 13) (by decide) rfl rfl) (putW rfl) ?_)
  refine WL.next hQ2 (.cons (i := 1) rfl (.cons (i := 4) rfl (.cons (i := 5) rfl (.nil)))) ?_
  obtain ⟨o3, hF3, hF⟩ := bnd hF
  refine W.join1 (Em := fun (After9 : (List Int)) => []) (M := fun After9 => [cBx b7 25 (encRel (Rel.mk 0 [])), cBx b8 25 (encRel (Rel.mk n1 After9))]) (I := fun After9 => After9 = o3) (.cons (i := 4) rfl (.cons (i := 5) rfl (.nil))) (fun K4 hK4 => ?_) ?_
  · -- up to
    -- region 2: order.go:15
    refine W.seqR fun Q5 hQ5 => ?_
    refine WL.q (Y.move (.pl rfl)) rfl ?_
    refine WL.q (Y.len Try.underlying92 (.pl rfl)) rfl ?_
    refine WL.q (Y.move (.pl rfl)) rfl ?_
    refine WL.next hQ5 (.cons (i := 4) rfl (.cons (i := 5) rfl (.cons (i := 10) rfl (.cons (i := 11) rfl (.cons (i := 12) rfl (.nil)))))) ?_
    refine W.block ?_
    refine W.loop2 (Em := fun (After10 : (List Int)) (v11 : Int) => [(12, .int .i64 v11)]) (M := fun After10 v11 => [cBx b7 25 (encRel (Rel.mk 0 [])), cBx b8 25 (encRel (Rel.mk n1 After10))]) (I := fun After10 v11 k6 => iter (alibkeep_rel_L3 N l2) k6 (After10, v11) = some o3) [] 0 N (hF3) (.cons rfl (.nil)) (.cons (i := 4) rfl (.cons (i := 5) rfl (.cons (i := 10) rfl (.cons (i := 11) rfl (.nil))))) (fun w hw => hw.pick [1, 0] rfl) (fun After10 v11 k6 hI K7 hK7 => ?_)
    obtain ⟨k6, t6, rfl, hF6, hN6⟩ := iter_step hI
    -- region 3: order.go:15
    refine W.seqR fun Q8 hQ8 => ?_
    refine WL.q (Y.lss (.pl rfl) (.pl rfl)) rfl ?_
    refine WL.next hQ8 (.cons (i := 4) rfl (.cons (i := 5) rfl (.cons (i := 10) rfl (.cons (i := 11) rfl (.cons (i := 12) rfl (.cons (i := 13) rfl (.nil))))))) ?_
    refine W.seq fun K9 hK9 => ?_
    refine W.cond (.pl rfl) (fun hC10 => ?_) (fun hC10 => ?_)
    · replace hF6 := cpos hC10 hF6
      refine W.skip ?_
      refine W.go hK9 (.cons (i := 4) rfl (.cons (i := 5) rfl (.cons (i := 10) rfl (.cons (i := 11) rfl (.cons (i := 12) rfl (.nil)))))) ?_
      refine W.seq fun K11 hK11 => ?_
      refine W.block ?_
      -- region 4: order.go:15
      refine W.seqR fun Q12 hQ12 => ?_
      obtain ⟨x12, hx12, hF6⟩ := bnd hF6
      refine WL.q (Y.slEl Try.underlying92 cells65 hs5 (.pl rfl) (.pl rfl) (ix_lt (hx12))) rfl ?_
      refine WL.q (Y.loadSA (enc := (encA 2 (eI .i64) 0)) (ds := ((encA 2 (eI .i64) 0) x12)) (j := 0) Try.underlying65 rfl cells65 hs5 (.pl rfl) (hx12) rfl rfl subW) rfl ?_
      refine WL.step (WO.alloc (cs := ((encA 2 (eI .i64) 0) []).toArray) zero65 rfl rfl fun b13 => ?_)
      refine WL.step (WO.storeBA (ds := ((encA 2 (eI .i64) 0) x12)) (cs' := ((encA 2 (eI .i64) 0) x12)) cells65 (.pl rfl) (.pl rfl) rfl ((oneA oneI) _) (i := 0) rfl (lel (o := 0) (l := 2) (m := 2) (by decide) rfl rfl) (putW rfl) ?_)
      refine WL.next hQ12 (.cons (i := 4) rfl (.cons (i := 5) rfl (.cons (i := 7) rfl (.cons (i := 10) rfl (.cons (i := 11) rfl (.cons (i := 12) rfl (.nil))))))) ?_
      -- region 5: order.go:16
      refine W.regT 11 (by kernel_rfl) (by kernel_rfl) ?_
      obtain ⟨x14, hx14, hF6⟩ := bnd hF6
      refine WS.q (Y.arrZ Try.underlying65 cells3 (.pl rfl) (.pl rfl) (ax_lt (hx14))) rfl ?_
      refine WS.q (Y.loadB (v := .int .i64 x14) Try.underlying3 rfl (.pl rfl) (i := 0) rfl (cellsA (pre := []) (off := 0) (post := []) (a := x12) (enc := (eI .i64)) (d := 0) (n := 2) (sz := 1) (j := 0) (fun _ => rfl) rfl (ax_nat (hx14)) (ax_get (hx14)) rfl)) rfl ?_
      refine WS.q (Y.fieldAddr0 (off := 1) (ft := 23) Try.underlying25 rfl cells23 (.pl rfl)) rfl ?_
      obtain ⟨x15, hx15, hF6⟩ := bnd hF6
      refine WS.q (Y.arrZ Try.underlying23 cells22 (.pl rfl) (.pl rfl) (ax_lt (hx15))) rfl ?_
      refine WS.q (Y.loadB (v := .int .u16 x15) Try.underlying22 rfl (.pl rfl) (i := 2) rfl (cellsA (pre := (Value.int .i64 n1 :: [])) (off := 1) (post := []) (a := After10) (enc := (eI .u16)) (d := 0) (n := 12) (sz := 1) (j := 0) (fun _ => rfl) rfl (ax_nat (hx15)) (ax_get (hx15)) rfl)) rfl ?_
      obtain ⟨x16, hx16, hF6⟩ := bnd hF6
      refine WS.q (Y.arrZ Try.underlying65 cells3 (.pl rfl) (.pl rfl) (ax_lt (hx16))) rfl ?_
      refine WS.q (Y.loadB (v := .int .i64 x16) Try.underlying3 rfl (.pl rfl) (i := 0) rfl (cellsA (pre := []) (off := 0) (post := []) (a := x12) (enc := (eI .i64)) (d := 0) (n := 2) (sz := 1) (j := 0) (fun _ => rfl) rfl (ax_nat (hx16)) (ax_get (hx16)) rfl)) rfl ?_
      obtain ⟨hk17, hF6⟩ := ckh hF6
      refine WS.q (Y.shl (.pl rfl) (.pl rfl) (of_decide_eq_true (hk17))) rfl ?_
      refine WS.q (Y.bor (.pl rfl) (.pl rfl)) rfl ?_
      refine WS.q (Y.fieldAddr0 (off := 1) (ft := 23) Try.underlying25 rfl cells23 (.pl rfl)) rfl ?_
      obtain ⟨x18, hx18, hF6⟩ := bnd hF6
      refine WS.q (Y.arrZ Try.underlying23 cells22 (.pl rfl) (.pl rfl) (ax_lt (hx18))) rfl ?_
      refine WS.tail ?_
      refine WL.step (WO.storeB (cs' := (encRel (Rel.mk n1 (setA 12 0 After10 x14 (borI .u16 x15 (shlI .u16 1 x16)))))) cells22 (.pl rfl) (.pl rfl) rfl (i := 2) rfl (ltl (m := 13) (offlt (off := 1) (sz := 1) (j := 0) (ax_nat (hx18)) (by decide)) rfl) (cellsSet (pre := (Value.int .i64 n1 :: [])) (off := 1) (post := []) (a := After10) (enc := (eI .u16)) (d := 0) (n := 12) (sz := 1) (j := 0) (x := x18) (x' := (borI .u16 x15 (shlI .u16 1 x16))) (fun _ => rfl) rfl (ax_lt (hx18)) (ax_get (hx18)) (by decide) rfl rfl) ?_)
      refine WL.nil ?_
      refine W.go hK11 (.cons (i := 4) rfl (.cons (i := 5) rfl (.cons (i := 10) rfl (.cons (i := 11) rfl (.cons (i := 12) rfl (.nil)))))) ?_
      -- region 6: order.go:15
      refine W.reg ?_
      obtain ⟨hk19, hF6⟩ := ckh hF6
      refine WL.q (Y.add (.pl rfl) (.pl rfl) (ok64_lt (hk19))) rfl ?_
      refine WL.q (Y.move (.pl rfl)) rfl ?_
      refine WL.nil ?_
      obtain rfl := Option.some.inj hF6
      exact W.again2 hK7 (setA 12 0 After10 x14 (borI .u16 x15 (shlI .u16 1 x16))) (v11 + 1) k6 hN6 (Nat.lt_succ_self _) (.cons rfl (.nil)) (.cons (i := 4) rfl (.cons (i := 5) rfl (.cons (i := 10) rfl (.cons (i := 11) rfl (.nil))))) (fun w hw => hw.pick [1, 2] rfl)
    · replace hF6 := cneg hC10 hF6
      refine W.exit ?_
      obtain rfl := Option.some.inj hF6
      exact W.joinAt1 hK4 After10 (einr hN6) (.nil) (.cons (i := 4) rfl (.cons (i := 5) rfl (.nil))) (fun w hw => hw.pick [0, 1] rfl)
  · -- behind
    rintro After9 rfl
    -- region 7: order.go:18
    refine W.seqR fun Q15 hQ15 => ?_
    refine WL.q (Y.loadBA (ds := (encRel (Rel.mk n1 After9))) Try.underlying25 rfl cells25 (.pl rfl) (i := 1) rfl rfl subW) rfl ?_
    refine WL.step (WO.storeBA (ds := (encRel (Rel.mk n1 After9))) (cs' := (encRel (Rel.mk n1 After9))) cells25 (.pl rfl) (.pl rfl) rfl (oneRel _) (i := 0) rfl (lel (o := 0) (l := 13) (m := 13) (by decide) rfl rfl) (putW rfl) ?_)
    refine WL.next hQ15 (.cons (i := 4) rfl (.nil)) ?_
    obtain rfl := Option.some.inj hF
    refine W.retV (fn := Try.f38) (vs := [.agg (encRel (Rel.mk n1 After9)).toArray]) Try.results38 ⟨.cellA Try.underlying25 rfl cells25 rfl (i := 0) rfl rfl, trivial⟩ (fun _ _ h => h) (fun w hw => ?_)
    exact hR _ _ ⟨rfl, (hw.pick [] rfl)⟩

def order_Check_L3 (N : Nat) (r1 : Rel) : Int → Option (Int ⊕ (Unit ⊕ Int))
  | v3 =>
    cond (decide (v3 < 12))
      (bd (ax 12 0 r1.after v3) fun (x4 : Int) =>
      cond (((decide (r1.n ≤ v3)) && (!(decide (x4 = 0)))) || (!(decide ((shrI .u16 x4 (IntKind.u64.wrap r1.n)) = 0))))
        (some (.inr (.inr 3)))
        (ck (ok64 (v3 + 1)) <|
        some (.inl (v3 + 1))))
      (some (.inr (.inl ())))

def order_Check (N : Nat) (r1 : Rel) : Option Int :=
  cond ((decide (r1.n < 0)) || (decide (12 < r1.n)))
    (some 1)
    (bd (α := (Unit ⊕ Int)) (iter (order_Check_L3 N r1) N 0) <|
    Sum.elim (fun _ => 
      some 0) (fun p => some p))

theorem order_Check_ok {N : Nat} {r1 : Rel} {res : Int} (hF : order_Check N r1 = some res) (w : World) :
    Pure Try.prog 29 [.agg (encRel r1).toArray] w (.int .i64 res) := by
  refine W.enter (n := 36) Try.func29 rfl rfl Sub.refl (by simp) (St.start w) fun R hR => ?_
  unfold order_Check at hF
  -- region 0: order.go:12
  refine W.seqR fun Q1 hQ1 => ?_
  refine WL.step (WO.boxA (.pl rfl) rfl fun b2 => ?_)
  refine WL.q (Y.assign (.pl rfl)) rfl ?_
  refine WL.next hQ1 (.cons (i := 1) rfl (.nil)) ?_
  refine W.seq fun K2 hK2 => ?_
  -- region 1: order.go:13
  refine W.seqR fun Q3 hQ3 => ?_
  refine WL.q (Y.fieldAddr0 (off := 0) (ft := 3) Try.underlying25 rfl cells3 (.pl rfl)) rfl ?_
  refine WL.q (Y.loadB (v := .int .i64 r1.n) Try.underlying3 rfl (.pl rfl) (i := 0) rfl (rfl)) rfl ?_
  refine WL.q (Y.lss (.pl rfl) (.pl rfl)) rfl ?_
  refine WL.q (Y.move (.pl rfl)) rfl ?_
  refine WL.g (.pl rfl rfl rfl) (fun hg => Y.fieldAddr0 (off := 0) (ft := 3) Try.underlying25 rfl cells3 (.pl rfl)) rfl ?_
  refine WL.g (.pl rfl rfl rfl) (fun hg => Y.loadB (v := .int .i64 r1.n) Try.underlying3 rfl (.gd (hg) rfl) (i := 0) rfl (rfl)) rfl ?_
  refine WL.g (.pl rfl rfl rfl) (fun hg => Y.gtr (.gd (hg) rfl) (.pl rfl)) rfl ?_
  refine WL.q (Y.or (.pl rfl) (fun h2 => .gd (eqf h2) rfl)) rfl ?_
  refine WL.next hQ3 (.cons (i := 1) rfl (.cons (i := 12) rfl (.nil))) ?_
  refine W.cond (.pl rfl) (fun hC4 => ?_) (fun hC4 => ?_)
  · replace hF := cpos hC4 hF
    -- region 2: order.go:14
    refine W.seqR fun Q5 hQ5 => ?_
    refine WL.q (Y.assign (.pl rfl)) rfl ?_
    refine WL.next hQ5 (.cons (i := 2) rfl (.nil)) ?_
    obtain rfl := Option.some.inj hF
    refine W.retV (fn := Try.f29) (vs := [.int .i64 1]) Try.results29 ⟨.tmp rfl, trivial⟩ (fun _ _ h => h) (fun w hw => ?_)
    exact hR _ _ ⟨rfl, (hw.pick [] rfl)⟩
  · replace hF := cneg hC4 hF
    refine W.skip ?_
    refine W.go hK2 (.cons (i := 1) rfl (.nil)) ?_
    obtain ⟨o6, hF6, hF⟩ := bnd hF
    refine W.join0 (Em := []) (M := []) (I := (.inl ()) = o6) (.nil) (fun K7 hK7 => ?_) ?_
    · -- up to
      -- region 3: order.go:16
      refine W.seqR fun Q8 hQ8 => ?_
      refine WL.q (Y.fieldAddr0 (off := 1) (ft := 23) Try.underlying25 rfl cells23 (.pl rfl)) rfl ?_
      refine WL.q (Y.loadBA (ds := ((encA 12 (eI .u16) 0) r1.after)) Try.underlying23 rfl cells23 (.pl rfl) (i := 0) rfl rfl (subM (pre := (Value.int .i64 r1.n :: [])) (o := 1) rfl)) rfl ?_
      refine WL.q (Y.move (.pl rfl)) rfl ?_
      refine WL.next hQ8 (.cons (i := 1) rfl (.cons (i := 14) rfl (.cons (i := 15) rfl (.nil)))) ?_
      refine W.block ?_
      refine W.loop1 (Em := fun (v3 : Int) => [(15, .int .i64 v3)]) (M := fun v3 => [cBx b2 25 (encRel r1)]) (I := fun v3 k9 => iter (order_Check_L3 N r1) k9 v3 = some o6) 0 N (hF6) (.cons rfl (.nil)) (.cons (i := 1) rfl (.cons (i := 14) rfl (.nil))) (fun w hw => hw.pick [0] rfl) (fun v3 k9 hI K10 hK10 => ?_)
      obtain ⟨k9, t9, rfl, hF9, hN9⟩ := iter_step hI
      -- region 4: order.go:16
      refine W.seqR fun Q11 hQ11 => ?_
      refine WL.q (Y.lss (.pl rfl) (.pl rfl)) rfl ?_
      refine WL.next hQ11 (.cons (i := 1) rfl (.cons (i := 14) rfl (.cons (i := 15) rfl (.cons (i := 16) rfl (.nil))))) ?_
      refine W.seq fun K12 hK12 => ?_
      refine W.cond (.pl rfl) (fun hC13 => ?_) (fun hC13 => ?_)
      · replace hF9 := cpos hC13 hF9
        refine W.skip ?_
        refine W.go hK12 (.cons (i := 1) rfl (.cons (i := 14) rfl (.cons (i := 15) rfl (.nil)))) ?_
        refine W.seq fun K14 hK14 => ?_
        refine W.block ?_
        -- region 5: order.go:16
        refine W.seqR fun Q15 hQ15 => ?_
        refine WL.q (Y.move (.pl rfl)) rfl ?_
        obtain ⟨x4, hx4, hF9⟩ := bnd hF9
        refine WL.q (Y.indexA (enc := (eI .u16)) Try.underlying23 Try.underlying22 rfl cells22 (.pl rfl) (.pl rfl) (hx4) rfl (fun _ => rfl)) rfl ?_
        refine WL.q (Y.assign (.pl rfl)) rfl ?_
        refine WL.q (Y.assign (.pl rfl)) rfl ?_
        refine WL.next hQ15 (.cons (i := 1) rfl (.cons (i := 3) rfl (.cons (i := 4) rfl (.cons (i := 14) rfl (.cons (i := 15) rfl (.nil)))))) ?_
        -- region 6: order.go:17
        refine W.seqR fun Q16 hQ16 => ?_
        refine WL.q (Y.move (.pl rfl)) rfl ?_
        refine WL.q (Y.fieldAddr0 (off := 0) (ft := 3) Try.underlying25 rfl cells3 (.pl rfl)) rfl ?_
        refine WL.q (Y.loadB (v := .int .i64 r1.n) Try.underlying3 rfl (.pl rfl) (i := 0) rfl (rfl)) rfl ?_
        refine WL.q (Y.geq (.pl rfl) (.pl rfl)) rfl ?_
        refine WL.q (Y.move (.pl rfl)) rfl ?_
        refine WL.g (.pl rfl rfl rfl) (fun hg => Y.move (.pl rfl)) rfl ?_
        refine WL.g (.pl rfl rfl rfl) (fun hg => Y.neq (.gd (hg) rfl) (.pl rfl)) rfl ?_
        refine WL.q (Y.and (.pl rfl) (fun h2 => .gd (eqt h2) rfl)) rfl ?_
        refine WL.q (Y.move (.pl rfl)) rfl ?_
        refine WL.g (.pl rfl rfl rfl) (fun hg => Y.move (.pl rfl)) rfl ?_
        refine WL.g (.pl rfl rfl rfl) (fun hg => Y.fieldAddr0 (off := 0) (ft := 3) Try.underlying25 rfl cells3 (.pl rfl)) rfl ?_
        refine WL.g (.pl rfl rfl rfl) (fun hg => Y.loadB (v := .int .i64 r1.n) Try.underlying3 rfl (.gd (hg) rfl) (i := 0) rfl (rfl)) rfl ?_
        refine WL.g (.pl rfl rfl rfl) (fun hg => Y.conv Try.underlying3 Try.underlying63 (.gd (hg) rfl)) rfl ?_
        refine WL.g (.pl rfl rfl rfl) (fun hg => Y.shr (.gd (hg) rfl) (.gd (hg) rfl) (wrapU_nn rfl _)) rfl ?_
        refine WL.g (.pl rfl rfl rfl) (fun hg => Y.neq (.gd (hg) rfl) (.pl rfl)) rfl ?_
        refine WL.q (Y.or (.pl rfl) (fun h2 => .gd (eqf h2) rfl)) rfl ?_
        refine WL.next hQ16 (.cons (i := 1) rfl (.cons (i := 14) rfl (.cons (i := 15) rfl (.cons (i := 34) rfl (.nil))))) ?_
        refine W.cond (.pl rfl) (fun hC17 => ?_) (fun hC17 => ?_)
        · replace hF9 := cpos hC17 hF9
          -- region 7: order.go:18
          refine W.seqR fun Q18 hQ18 => ?_
          refine WL.q (Y.assign (.pl rfl)) rfl ?_
          refine WL.next hQ18 (.cons (i := 2) rfl (.nil)) ?_
          obtain rfl := Option.some.inj hF9
          obtain rfl := einr hN9
          obtain rfl := Option.some.inj hF
          refine W.retV (fn := Try.f29) (vs := [.int .i64 3]) Try.results29 ⟨.tmp rfl, trivial⟩ (fun _ _ h => h) (fun w hw => ?_)
          exact hR _ _ ⟨rfl, (hw.pick [] rfl)⟩
        · replace hF9 := cneg hC17 hF9
          refine W.skip ?_
          refine W.go hK14 (.cons (i := 1) rfl (.cons (i := 14) rfl (.cons (i := 15) rfl (.nil)))) ?_
          -- region 8: order.go:16
          refine W.reg ?_
          obtain ⟨hk5, hF9⟩ := ckh hF9
          refine WL.q (Y.add (.pl rfl) (.pl rfl) (ok64_lt (hk5))) rfl ?_
          refine WL.q (Y.move (.pl rfl)) rfl ?_
          refine WL.nil ?_
          obtain rfl := Option.some.inj hF9
          exact W.again1 hK10 (v3 + 1) k9 hN9 (Nat.lt_succ_self _) (.cons rfl (.nil)) (.cons (i := 1) rfl (.cons (i := 14) rfl (.nil))) (fun w hw => hw.pick [0] rfl)
      · replace hF9 := cneg hC13 hF9
        refine W.exit ?_
        obtain rfl := Option.some.inj hF9
        exact W.joinAt0 hK7  (einr hN9) (.nil) (.nil) (fun w hw => hw.pick [] rfl)
    · -- behind
      rintro  rfl
      -- region 9: order.go:21
      refine W.seqR fun Q20 hQ20 => ?_
      refine WL.q (Y.assign (.pl rfl)) rfl ?_
      refine WL.next hQ20 (.cons (i := 2) rfl (.nil)) ?_
      obtain rfl := Option.some.inj hF
      refine W.retV (fn := Try.f29) (vs := [.int .i64 0]) Try.results29 ⟨.tmp rfl, trivial⟩ (fun _ _ h => h) (fun w hw => ?_)
      exact hR _ _ ⟨rfl, (hw.pick [] rfl)⟩

def order_closed_L27 (N : Nat) (r1 : Rel) (v6 : Int) : ((List Int) × Int) → Option (((List Int) × Int) ⊕ (List Int))
  | (After8, v9) =>
    cond (decide (v9 < r1.n))
      (bd (ax 12 0 After8 v9) fun (x10 : Int) =>
      cond (decide ((bandI .u16 (shrI .u16 x10 (IntKind.u64.wrap v6)) 1) = 1))
        (bd (ax 12 0 After8 v9) fun (x11 : Int) =>
        bd (ax 12 0 After8 v6) fun (x12 : Int) =>
        bd (ax 12 0 After8 v9) fun (x13 : Int) =>
        ck (ok64 (v9 + 1)) <|
        some (.inl ((setA 12 0 After8 v9 (borI .u16 x11 x12)), (v9 + 1))))
        (ck (ok64 (v9 + 1)) <|
        some (.inl (After8, (v9 + 1)))))
      (some (.inr After8))

def order_closed_L25 (N : Nat) (r1 : Rel) : ((List Int) × Int) → Option (((List Int) × Int) ⊕ (List Int))
  | (After5, v6) =>
    cond (decide (v6 < r1.n))
      (bd (α := (List Int)) (iter (order_closed_L27 N r1 v6) N (After5, 0)) <|
      fun (After7 : (List Int)) => 
        ck (ok64 (v6 + 1)) <|
        some (.inl (After7, (v6 + 1))))
      (some (.inr After5))

def order_closed (N : Nat) (r1 : Rel) : Option (List Int) :=
  bd (α := (List Int)) (iter (order_closed_L25 N r1) N (r1.after, 0)) <|
  fun (After4 : (List Int)) => 
    some After4

theorem order_closed_ok {N : Nat} {r1 : Rel} {res : (List Int)} (hF : order_closed N r1 = some res) (w : World) :
    Pure Try.prog 37 [.agg (encRel r1).toArray] w (.agg (encRel (Rel.mk r1.n res)).toArray) := by
  refine W.enter (n := 38) Try.func37 rfl rfl Sub.refl (by simp) (St.start w) fun R hR => ?_
  unfold order_closed at hF
  -- region 0: order.go:25
  refine W.seqR fun Q1 hQ1 => ?_
  refine WL.step (WO.boxA (.pl rfl) rfl fun b2 => ?_)
  refine WL.step (WO.alloc (cs := (encRel (Rel.mk 0 [])).toArray) zero25 rfl rfl fun b3 => ?_)
  refine WL.next hQ1 (.cons (i := 1) rfl (.cons (i := 2) rfl (.nil))) ?_
  obtain ⟨o2, hF2, hF⟩ := bnd hF
  refine W.join1 (Em := fun (After4 : (List Int)) => []) (M := fun After4 => [cBx b2 25 (encRel (Rel.mk r1.n After4)), cBx b3 25 (encRel (Rel.mk 0 []))]) (I := fun After4 => After4 = o2) (.cons (i := 1) rfl (.cons (i := 2) rfl (.nil))) (fun K3 hK3 => ?_) ?_
  · -- up to
    -- region 1: order.go:26
    refine W.seqR fun Q4 hQ4 => ?_
    refine WL.q (Y.fieldAddr0 (off := 0) (ft := 3) Try.underlying25 rfl cells3 (.pl rfl)) rfl ?_
    refine WL.q (Y.loadB (v := .int .i64 r1.n) Try.underlying3 rfl (.pl rfl) (i := 1) rfl (rfl)) rfl ?_
    refine WL.q (Y.move (.pl rfl)) rfl ?_
    refine WL.next hQ4 (.cons (i := 1) rfl (.cons (i := 2) rfl (.cons (i := 6) rfl (.cons (i := 7) rfl (.nil))))) ?_
    refine W.block ?_
    refine W.loop2 (Em := fun (After5 : (List Int)) (v6 : Int) => [(7, .int .i64 v6)]) (M := fun After5 v6 => [cBx b2 25 (encRel (Rel.mk r1.n After5)), cBx b3 25 (encRel (Rel.mk 0 []))]) (I := fun After5 v6 k5 => iter (order_closed_L25 N r1) k5 (After5, v6) = some o2) r1.after 0 N (hF2) (.cons rfl (.nil)) (.cons (i := 1) rfl (.cons (i := 2) rfl (.cons (i := 6) rfl (.nil)))) (fun w hw => hw.pick [1, 0] rfl) (fun After5 v6 k5 hI K6 hK6 => ?_)
    obtain ⟨k5, t5, rfl, hF5, hN5⟩ := iter_step hI
    -- region 2: order.go:26
    refine W.seqR fun Q7 hQ7 => ?_
    refine WL.q (Y.lss (.pl rfl) (.pl rfl)) rfl ?_
    refine WL.next hQ7 (.cons (i := 1) rfl (.cons (i := 2) rfl (.cons (i := 6) rfl (.cons (i := 7) rfl (.cons (i := 8) rfl (.nil)))))) ?_
    refine W.seq fun K8 hK8 => ?_
    refine W.cond (.pl rfl) (fun hC9 => ?_) (fun hC9 => ?_)
    · replace hF5 := cpos hC9 hF5
      refine W.skip ?_
      refine W.go hK8 (.cons (i := 1) rfl (.cons (i := 2) rfl (.cons (i := 6) rfl (.cons (i := 7) rfl (.nil))))) ?_
      obtain ⟨o10, hF10, hF5⟩ := bnd hF5
      refine W.join1 (Em := fun (After7 : (List Int)) => []) (M := fun After7 => [cBx b2 25 (encRel (Rel.mk r1.n After7)), cBx b3 25 (encRel (Rel.mk 0 []))]) (I := fun After7 => After7 = o10) (.cons (i := 1) rfl (.cons (i := 2) rfl (.cons (i := 6) rfl (.cons (i := 7) rfl (.nil))))) (fun K11 hK11 => ?_) ?_
      · -- up to
        refine W.block ?_
        -- region 3: order.go:26
        refine W.seqR fun Q12 hQ12 => ?_
        refine WL.q (Y.move (.pl rfl)) rfl ?_
        refine WL.q (Y.assign (.pl rfl)) rfl ?_
        refine WL.next hQ12 (.cons (i := 1) rfl (.cons (i := 2) rfl (.cons (i := 3) rfl (.cons (i := 6) rfl (.cons (i := 7) rfl (.nil)))))) ?_
        -- region 4: order.go:27
        refine W.seqR fun Q13 hQ13 => ?_
        refine WL.q (Y.fieldAddr0 (off := 0) (ft := 3) Try.underlying25 rfl cells3 (.pl rfl)) rfl ?_
        refine WL.q (Y.loadB (v := .int .i64 r1.n) Try.underlying3 rfl (.pl rfl) (i := 0) rfl (rfl)) rfl ?_
        refine WL.q (Y.move (.pl rfl)) rfl ?_
        refine WL.next hQ13 (.cons (i := 1) rfl (.cons (i := 2) rfl (.cons (i := 3) rfl (.cons (i := 6) rfl (.cons (i := 7) rfl (.cons (i := 11) rfl (.cons (i := 12) rfl (.nil)))))))) ?_
        refine W.block ?_
        refine W.loop2 (Em := fun (After8 : (List Int)) (v9 : Int) => [(12, .int .i64 v9)]) (M := fun After8 v9 => [cBx b2 25 (encRel (Rel.mk r1.n After8)), cBx b3 25 (encRel (Rel.mk 0 []))]) (I := fun After8 v9 k14 => iter (order_closed_L27 N r1 v6) k14 (After8, v9) = some o10) After5 0 N (hF10) (.cons rfl (.nil)) (.cons (i := 1) rfl (.cons (i := 2) rfl (.cons (i := 3) rfl (.cons (i := 6) rfl (.cons (i := 7) rfl (.cons (i := 11) rfl (.nil))))))) (fun w hw => hw.pick [0, 1] rfl) (fun After8 v9 k14 hI K15 hK15 => ?_)
        obtain ⟨k14, t14, rfl, hF14, hN14⟩ := iter_step hI
        -- region 5: order.go:27
        refine W.seqR fun Q16 hQ16 => ?_
        refine WL.q (Y.lss (.pl rfl) (.pl rfl)) rfl ?_
        refine WL.next hQ16 (.cons (i := 1) rfl (.cons (i := 2) rfl (.cons (i := 3) rfl (.cons (i := 6) rfl (.cons (i := 7) rfl (.cons (i := 11) rfl (.cons (i := 12) rfl (.cons (i := 13) rfl (.nil))))))))) ?_
        refine W.seq fun K17 hK17 => ?_
        refine W.cond (.pl rfl) (fun hC18 => ?_) (fun hC18 => ?_)
        · replace hF14 := cpos hC18 hF14
          refine W.skip ?_
          refine W.go hK17 (.cons (i := 1) rfl (.cons (i := 2) rfl (.cons (i := 3) rfl (.cons (i := 6) rfl (.cons (i := 7) rfl (.cons (i := 11) rfl (.cons (i := 12) rfl (.nil)))))))) ?_
          refine W.seq fun K19 hK19 => ?_
          refine W.block ?_
          -- region 6: order.go:27
          refine W.seqR fun Q20 hQ20 => ?_
          refine WL.q (Y.move (.pl rfl)) rfl ?_
          refine WL.q (Y.assign (.pl rfl)) rfl ?_
          refine WL.next hQ20 (.cons (i := 1) rfl (.cons (i := 2) rfl (.cons (i := 3) rfl (.cons (i := 4) rfl (.cons (i := 6) rfl (.cons (i := 7) rfl (.cons (i := 11) rfl (.cons (i := 12) rfl (.nil))))))))) ?_
          -- region 7: order.go:28
          refine W.seqR fun Q21 hQ21 => ?_
          refine WL.q (Y.move (.pl rfl)) rfl ?_
          refine WL.q (Y.fieldAddr0 (off := 1) (ft := 23) Try.underlying25 rfl cells23 (.pl rfl)) rfl ?_
          obtain ⟨x10, hx10, hF14⟩ := bnd hF14
          refine WL.q (Y.arrZ Try.underlying23 cells22 (.pl rfl) (.pl rfl) (ax_lt (hx10))) rfl ?_
          refine WL.q (Y.loadB (v := .int .u16 x10) Try.underlying22 rfl (.pl rfl) (i := 0) rfl (cellsA (pre := (Value.int .i64 r1.n :: [])) (off := 1) (post := []) (a := After8) (enc := (eI .u16)) (d := 0) (n := 12) (sz := 1) (j := 0) (fun _ => rfl) rfl (ax_nat (hx10)) (ax_get (hx10)) rfl)) rfl ?_
          refine WL.q (Y.move (.pl rfl)) rfl ?_
          refine WL.q (Y.conv Try.underlying3 Try.underlying63 (.pl rfl)) rfl ?_
          refine WL.q (Y.shr (.pl rfl) (.pl rfl) (wrapU_nn rfl _)) rfl ?_
          refine WL.q (Y.band (.pl rfl) (.pl rfl)) rfl ?_
          refine WL.q (Y.eql (.pl rfl) (.pl rfl)) rfl ?_
          refine WL.next hQ21 (.cons (i := 1) rfl (.cons (i := 2) rfl (.cons (i := 3) rfl (.cons (i := 4) rfl (.cons (i := 6) rfl (.cons (i := 7) rfl (.cons (i := 11) rfl (.cons (i := 12) rfl (.cons (i := 23) rfl (.nil)))))))))) ?_
          refine W.cond (.pl rfl) (fun hC22 => ?_) (fun hC22 => ?_)
          · replace hF14 := cpos hC22 hF14
            -- region 8: order.go:29
            refine W.regT 11 (by kernel_rfl) (by kernel_rfl) ?_
            refine WS.q (Y.move (.pl rfl)) rfl ?_
            refine WS.q (Y.fieldAddr0 (off := 1) (ft := 23) Try.underlying25 rfl cells23 (.pl rfl)) rfl ?_
            obtain ⟨x11, hx11, hF14⟩ := bnd hF14
            refine WS.q (Y.arrZ Try.underlying23 cells22 (.pl rfl) (.pl rfl) (ax_lt (hx11))) rfl ?_
            refine WS.q (Y.loadB (v := .int .u16 x11) Try.underlying22 rfl (.pl rfl) (i := 0) rfl (cellsA (pre := (Value.int .i64 r1.n :: [])) (off := 1) (post := []) (a := After8) (enc := (eI .u16)) (d := 0) (n := 12) (sz := 1) (j := 0) (fun _ => rfl) rfl (ax_nat (hx11)) (ax_get (hx11)) rfl)) rfl ?_
            refine WS.q (Y.move (.pl rfl)) rfl ?_
            refine WS.q (Y.fieldAddr0 (off := 1) (ft := 23) Try.underlying25 rfl cells23 (.pl rfl)) rfl ?_
            obtain ⟨x12, hx12, hF14⟩ := bnd hF14
            refine WS.q (Y.arrZ Try.underlying23 cells22 (.pl rfl) (.pl rfl) (ax_lt (hx12))) rfl ?_
            refine WS.q (Y.loadB (v := .int .u16 x12) Try.underlying22 rfl (.pl rfl) (i := 0) rfl (cellsA (pre := (Value.int .i64 r1.n :: [])) (off := 1) (post := []) (a := After8) (enc := (eI .u16)) (d := 0) (n := 12) (sz := 1) (j := 0) (fun _ => rfl) rfl (ax_nat (hx12)) (ax_get (hx12)) rfl)) rfl ?_
            refine WS.q (Y.bor (.pl rfl) (.pl rfl)) rfl ?_
            refine WS.q (Y.fieldAddr0 (off := 1) (ft := 23) Try.underlying25 rfl cells23 (.pl rfl)) rfl ?_
            obtain ⟨x13, hx13, hF14⟩ := bnd hF14
            refine WS.q (Y.arrZ Try.underlying23 cells22 (.pl rfl) (.pl rfl) (ax_lt (hx13))) rfl ?_
            refine WS.tail ?_
            refine WL.step (WO.storeB (cs' := (encRel (Rel.mk r1.n (setA 12 0 After8 v9 (borI .u16 x11 x12))))) cells22 (.pl rfl) (.pl rfl) rfl (i := 0) rfl (ltl (m := 13) (offlt (off := 1) (sz := 1) (j := 0) (ax_nat (hx13)) (by decide)) rfl) (cellsSet (pre := (Value.int .i64 r1.n :: [])) (off := 1) (post := []) (a := After8) (enc := (eI .u16)) (d := 0) (n := 12) (sz := 1) (j := 0) (x := x13) (x' := (borI .u16 x11 x12)) (fun _ => rfl) rfl (ax_lt (hx13)) (ax_get (hx13)) (by decide) rfl rfl) ?_)
            refine WL.nil ?_
            refine W.go hK19 (.cons (i := 1) rfl (.cons (i := 2) rfl (.cons (i := 3) rfl (.cons (i := 6) rfl (.cons (i := 7) rfl (.cons (i := 11) rfl (.cons (i := 12) rfl (.nil)))))))) ?_
            -- region 9: order.go:27
            refine W.reg ?_
            obtain ⟨hk14, hF14⟩ := ckh hF14
            refine WL.q (Y.add (.pl rfl) (.pl rfl) (ok64_lt (hk14))) rfl ?_
            refine WL.q (Y.move (.pl rfl)) rfl ?_
            refine WL.nil ?_
            obtain rfl := Option.some.inj hF14
            exact W.again2 hK15 (setA 12 0 After8 v9 (borI .u16 x11 x12)) (v9 + 1) k14 hN14 (Nat.lt_succ_self _) (.cons rfl (.nil)) (.cons (i := 1) rfl (.cons (i := 2) rfl (.cons (i := 3) rfl (.cons (i := 6) rfl (.cons (i := 7) rfl (.cons (i := 11) rfl (.nil))))))) (fun w hw => hw.pick [0, 1] rfl)
          · replace hF14 := cneg hC22 hF14
            refine W.skip ?_
            refine W.go hK19 (.cons (i := 1) rfl (.cons (i := 2) rfl (.cons (i := 3) rfl (.cons (i := 6) rfl (.cons (i := 7) rfl (.cons (i := 11) rfl (.cons (i := 12) rfl (.nil)))))))) ?_
            -- region 9: order.go:27
            refine W.reg ?_
            obtain ⟨hk15, hF14⟩ := ckh hF14
            refine WL.q (Y.add (.pl rfl) (.pl rfl) (ok64_lt (hk15))) rfl ?_
            refine WL.q (Y.move (.pl rfl)) rfl ?_
            refine WL.nil ?_
            obtain rfl := Option.some.inj hF14
            exact W.again2 hK15 After8 (v9 + 1) k14 hN14 (Nat.lt_succ_self _) (.cons rfl (.nil)) (.cons (i := 1) rfl (.cons (i := 2) rfl (.cons (i := 3) rfl (.cons (i := 6) rfl (.cons (i := 7) rfl (.cons (i := 11) rfl (.nil))))))) (fun w hw => hw.pick [0, 1] rfl)
        · replace hF14 := cneg hC18 hF14
          refine W.exit ?_
          obtain rfl := Option.some.inj hF14
          exact W.joinAt1 hK11 After8 (einr hN14) (.nil) (.cons (i := 1) rfl (.cons (i := 2) rfl (.cons (i := 6) rfl (.cons (i := 7) rfl (.nil))))) (fun w hw => hw.pick [0, 1] rfl)
      · -- behind
        rintro After7 rfl
        -- region 10: order.go:26
        refine W.reg ?_
        obtain ⟨hk16, hF5⟩ := ckh hF5
        refine WL.q (Y.add (.pl rfl) (.pl rfl) (ok64_lt (hk16))) rfl ?_
        refine WL.q (Y.move (.pl rfl)) rfl ?_
        refine WL.nil ?_
        obtain rfl := Option.some.inj hF5
        exact W.again2 hK6 After7 (v6 + 1) k5 hN5 (Nat.lt_succ_self _) (.cons rfl (.nil)) (.cons (i := 1) rfl (.cons (i := 2) rfl (.cons (i := 6) rfl (.nil)))) (fun w hw => hw.pick [0, 1] rfl)
    · replace hF5 := cneg hC9 hF5
      refine W.exit ?_
      obtain rfl := Option.some.inj hF5
      exact W.joinAt1 hK3 After5 (einr hN5) (.nil) (.cons (i := 1) rfl (.cons (i := 2) rfl (.nil))) (fun w hw => hw.pick [0, 1] rfl)
  · -- behind
    rintro After4 rfl
    -- region 11: order.go:33
    refine W.seqR fun Q27 hQ27 => ?_
    refine WL.q (Y.loadBA (ds := (encRel (Rel.mk r1.n After4))) Try.underlying25 rfl cells25 (.pl rfl) (i := 0) rfl rfl subW) rfl ?_
    refine WL.step (WO.storeBA (ds := (encRel (Rel.mk r1.n After4))) (cs' := (encRel (Rel.mk r1.n After4))) cells25 (.pl rfl) (.pl rfl) rfl (oneRel _) (i := 1) rfl (lel (o := 0) (l := 13) (m := 13) (by decide) rfl rfl) (putW rfl) ?_)
    refine WL.next hQ27 (.cons (i := 2) rfl (.nil)) ?_
    obtain rfl := Option.some.inj hF
    refine W.retV (fn := Try.f37) (vs := [.agg (encRel (Rel.mk r1.n After4)).toArray]) Try.results37 ⟨.cellA Try.underlying25 rfl cells25 rfl (i := 1) rfl rfl, trivial⟩ (fun _ _ h => h) (fun w hw => ?_)
    exact hR _ _ ⟨rfl, (hw.pick [] rfl)⟩

def order_Close_L3 (N : Nat) (r1 : Rel) (r5 : (List Int)) : Int → Option (Int ⊕ (Unit ⊕ (Int × (List Int) × Bool × Int)))
  | v7 =>
    cond (decide (v7 < r1.n))
      (bd (ax 12 0 r5 v7) fun (x8 : Int) =>
      cond (decide ((bandI .u16 (shrI .u16 x8 (IntKind.u64.wrap v7)) 1) = 1))
        (some (.inr (.inr (r1.n, r5, true, 0))))
        (ck (ok64 (v7 + 1)) <|
        some (.inl (v7 + 1))))
      (some (.inr (.inl ())))

def order_Close (N : Nat) (r1 : Rel) : Option (Int × (List Int) × Bool × Int) :=
  bd (order_Check N r1) fun (r4 : Int) =>
  cond (!(decide (r4 = 0)))
    (some (0, [], false, r4))
    (bd (order_closed N r1) fun (r5 : (List Int)) =>
    bd (α := (Unit ⊕ (Int × (List Int) × Bool × Int))) (iter (order_Close_L3 N r1 r5) N 0) <|
    Sum.elim (fun _ => 
      some (r1.n, r5, false, 0)) (fun p => some p))

theorem order_Close_ok {N : Nat} {r1 : Rel} {res : (Int × (List Int) × Bool × Int)} (hF : order_Close N r1 = some res) (w : World) :
    Pure Try.prog 15 [.agg (encRel r1).toArray] w (.tuple #[.agg (encRel (Rel.mk res.1 res.2.1)).toArray, .bool res.2.2.1, .int .i64 res.2.2.2]) := by
  refine W.enter (n := 33) Try.func15 rfl rfl Sub.refl (by simp) (St.start w) fun R hR => ?_
  unfold order_Close at hF
  -- region 0: order.go:37
  refine W.seqR fun Q1 hQ1 => ?_
  refine WL.step (WO.boxA (.pl rfl) rfl fun b2 => ?_)
  refine WL.step (WO.alloc (cs := (encRel (Rel.mk 0 [])).toArray) zero25 rfl rfl fun b3 => ?_)
  refine WL.q (Y.assign (.pl rfl)) rfl ?_
  refine WL.q (Y.assign (.pl rfl)) rfl ?_
  refine WL.next hQ1 (.cons (i := 1) rfl (.cons (i := 2) rfl (.nil))) ?_
  refine W.seq fun K2 hK2 => ?_
  -- region 1: order.go:38
  refine W.seqR fun Q3 hQ3 => ?_
  refine WL.q (Y.loadBA (ds := (encRel r1)) Try.underlying25 rfl cells25 (.pl rfl) (i := 1) rfl rfl subW) rfl ?_
  obtain ⟨r4, hr4, hF⟩ := bnd hF
  refine WL.step (WO.callP isGo29 (.cons (.pl rfl) (.nil)) rfl (fun w hw => order_Check_ok (hr4) w ) ?_)
  refine WL.q (Y.assign (.pl rfl)) rfl ?_
  refine WL.next hQ3 (.cons (i := 1) rfl (.cons (i := 2) rfl (.cons (i := 5) rfl (.nil)))) ?_
  -- region 2: order.go:38
  refine W.seqR fun Q4 hQ4 => ?_
  refine WL.q (Y.move (.pl rfl)) rfl ?_
  refine WL.q (Y.neq (.pl rfl) (.pl rfl)) rfl ?_
  refine WL.next hQ4 (.cons (i := 1) rfl (.cons (i := 2) rfl (.cons (i := 5) rfl (.cons (i := 11) rfl (.nil))))) ?_
  refine W.cond (.pl rfl) (fun hC5 => ?_) (fun hC5 => ?_)
  · replace hF := cpos hC5 hF
    -- region 3: order.go:39
    refine W.seqR fun Q6 hQ6 => ?_
    refine WL.q (Y.build (cs := (encRel (Rel.mk 0 [])).toArray) shape25 (.nil) (one_parts trivial) rfl) rfl ?_
    refine WL.q (Y.move (.pl rfl)) rfl ?_
    refine WL.step (WO.storeBA (ds := (encRel (Rel.mk 0 []))) (cs' := (encRel (Rel.mk 0 []))) cells25 (.pl rfl) (.pl rfl) rfl (oneRel _) (i := 0) rfl (lel (o := 0) (l := 13) (m := 13) (by decide) rfl rfl) (putW rfl) ?_)
    refine WL.q (Y.assign (.pl rfl)) rfl ?_
    refine WL.q (Y.assign (.pl rfl)) rfl ?_
    refine WL.next hQ6 (.cons (i := 2) rfl (.cons (i := 3) rfl (.cons (i := 4) rfl (.nil)))) ?_
    obtain rfl := Option.some.inj hF
    refine W.retV (fn := Try.f15) (vs := [.agg (encRel (Rel.mk 0 [])).toArray, .bool false, .int .i64 r4]) Try.results15 ⟨.cellA Try.underlying25 rfl cells25 rfl (i := 0) rfl rfl, ⟨.tmp rfl, ⟨.tmp rfl, trivial⟩⟩⟩ (fun _ _ h => h) (fun w hw => ?_)
    exact hR _ _ ⟨rfl, (hw.pick [] rfl)⟩
  · replace hF := cneg hC5 hF
    refine W.skip ?_
    refine W.go hK2 (.cons (i := 1) rfl (.cons (i := 2) rfl (.nil))) ?_
    -- region 4: order.go:41
    refine W.seqR fun Q7 hQ7 => ?_
    refine WL.q (Y.loadBA (ds := (encRel r1)) Try.underlying25 rfl cells25 (.pl rfl) (i := 1) rfl rfl subW) rfl ?_
    obtain ⟨r5, hr5, hF⟩ := bnd hF
    refine WL.step (WO.callP isGo37 (.cons (.pl rfl) (.nil)) rfl (fun w hw => order_closed_ok (hr5) w ) ?_)
    refine WL.step (WO.alloc (cs := (encRel (Rel.mk 0 [])).toArray) zero25 rfl rfl fun b6 => ?_)
    refine WL.step (WO.storeBA (ds := (encRel (Rel.mk r1.n r5))) (cs' := (encRel (Rel.mk r1.n r5))) cells25 (.pl rfl) (.pl rfl) rfl (oneRel _) (i := 0) rfl (lel (o := 0) (l := 13) (m := 13) (by decide) rfl rfl) (putW rfl) ?_)
    refine WL.next hQ7 (.cons (i := 2) rfl (.cons (i := 6) rfl (.nil))) ?_
    obtain ⟨o8, hF8, hF⟩ := bnd hF
    refine W.join0 (Em := []) (M := [cBx b3 25 (encRel (Rel.mk 0 [])), cBx b6 25 (encRel (Rel.mk r1.n r5))]) (I := (.inl ()) = o8) (.cons (i := 2) rfl (.cons (i := 6) rfl (.nil))) (fun K9 hK9 => ?_) ?_
    · -- up to
      -- region 5: order.go:42
      refine W.seqR fun Q10 hQ10 => ?_
      refine WL.q (Y.fieldAddr0 (off := 0) (ft := 3) Try.underlying25 rfl cells3 (.pl rfl)) rfl ?_
      refine WL.q (Y.loadB (v := .int .i64 r1.n) Try.underlying3 rfl (.pl rfl) (i := 0) rfl (rfl)) rfl ?_
      refine WL.q (Y.move (.pl rfl)) rfl ?_
      refine WL.next hQ10 (.cons (i := 2) rfl (.cons (i := 6) rfl (.cons (i := 17) rfl (.cons (i := 18) rfl (.nil))))) ?_
      refine W.block ?_
      refine W.loop1 (Em := fun (v7 : Int) => [(18, .int .i64 v7)]) (M := fun v7 => [cBx b3 25 (encRel (Rel.mk 0 [])), cBx b6 25 (encRel (Rel.mk r1.n r5))]) (I := fun v7 k11 => iter (order_Close_L3 N r1 r5) k11 v7 = some o8) 0 N (hF8) (.cons rfl (.nil)) (.cons (i := 2) rfl (.cons (i := 6) rfl (.cons (i := 17) rfl (.nil)))) (fun w hw => hw.pick [1, 0] rfl) (fun v7 k11 hI K12 hK12 => ?_)
      obtain ⟨k11, t11, rfl, hF11, hN11⟩ := iter_step hI
      -- region 6: order.go:42
      refine W.seqR fun Q13 hQ13 => ?_
      refine WL.q (Y.lss (.pl rfl) (.pl rfl)) rfl ?_
      refine WL.next hQ13 (.cons (i := 2) rfl (.cons (i := 6) rfl (.cons (i := 17) rfl (.cons (i := 18) rfl (.cons (i := 19) rfl (.nil)))))) ?_
      refine W.seq fun K14 hK14 => ?_
      refine W.cond (.pl rfl) (fun hC15 => ?_) (fun hC15 => ?_)
      · replace hF11 := cpos hC15 hF11
        refine W.skip ?_
        refine W.go hK14 (.cons (i := 2) rfl (.cons (i := 6) rfl (.cons (i := 17) rfl (.cons (i := 18) rfl (.nil))))) ?_
        refine W.seq fun K16 hK16 => ?_
        refine W.block ?_
        -- region 7: order.go:42
        refine W.seqR fun Q17 hQ17 => ?_
        refine WL.q (Y.move (.pl rfl)) rfl ?_
        refine WL.q (Y.assign (.pl rfl)) rfl ?_
        refine WL.next hQ17 (.cons (i := 2) rfl (.cons (i := 6) rfl (.cons (i := 7) rfl (.cons (i := 17) rfl (.cons (i := 18) rfl (.nil)))))) ?_
        -- region 8: order.go:43
        refine W.seqR fun Q18 hQ18 => ?_
        refine WL.q (Y.move (.pl rfl)) rfl ?_
        refine WL.q (Y.fieldAddr0 (off := 1) (ft := 23) Try.underlying25 rfl cells23 (.pl rfl)) rfl ?_
        obtain ⟨x8, hx8, hF11⟩ := bnd hF11
        refine WL.q (Y.arrZ Try.underlying23 cells22 (.pl rfl) (.pl rfl) (ax_lt (hx8))) rfl ?_
        refine WL.q (Y.loadB (v := .int .u16 x8) Try.underlying22 rfl (.pl rfl) (i := 1) rfl (cellsA (pre := (Value.int .i64 r1.n :: [])) (off := 1) (post := []) (a := r5) (enc := (eI .u16)) (d := 0) (n := 12) (sz := 1) (j := 0) (fun _ => rfl) rfl (ax_nat (hx8)) (ax_get (hx8)) rfl)) rfl ?_
        refine WL.q (Y.move (.pl rfl)) rfl ?_
        refine WL.q (Y.conv Try.underlying3 Try.underlying63 (.pl rfl)) rfl ?_
        refine WL.q (Y.shr (.pl rfl) (.pl rfl) (wrapU_nn rfl _)) rfl ?_
        refine WL.q (Y.band (.pl rfl) (.pl rfl)) rfl ?_
        refine WL.q (Y.eql (.pl rfl) (.pl rfl)) rfl ?_
        refine WL.next hQ18 (.cons (i := 2) rfl (.cons (i := 6) rfl (.cons (i := 17) rfl (.cons (i := 18) rfl (.cons (i := 29) rfl (.nil)))))) ?_
        refine W.cond (.pl rfl) (fun hC19 => ?_) (fun hC19 => ?_)
        · replace hF11 := cpos hC19 hF11
          -- region 9: order.go:44
          refine W.seqR fun Q20 hQ20 => ?_
          refine WL.q (Y.loadBA (ds := (encRel (Rel.mk r1.n r5))) Try.underlying25 rfl cells25 (.pl rfl) (i := 1) rfl rfl subW) rfl ?_
          refine WL.step (WO.storeBA (ds := (encRel (Rel.mk r1.n r5))) (cs' := (encRel (Rel.mk r1.n r5))) cells25 (.pl rfl) (.pl rfl) rfl (oneRel _) (i := 0) rfl (lel (o := 0) (l := 13) (m := 13) (by decide) rfl rfl) (putW rfl) ?_)
          refine WL.q (Y.assign (.pl rfl)) rfl ?_
          refine WL.q (Y.assign (.pl rfl)) rfl ?_
          refine WL.next hQ20 (.cons (i := 2) rfl (.cons (i := 3) rfl (.cons (i := 4) rfl (.nil)))) ?_
          obtain rfl := Option.some.inj hF11
          obtain rfl := einr hN11
          obtain rfl := Option.some.inj hF
          refine W.retV (fn := Try.f15) (vs := [.agg (encRel (Rel.mk r1.n r5)).toArray, .bool true, .int .i64 0]) Try.results15 ⟨.cellA Try.underlying25 rfl cells25 rfl (i := 0) rfl rfl, ⟨.tmp rfl, ⟨.tmp rfl, trivial⟩⟩⟩ (fun _ _ h => h) (fun w hw => ?_)
          exact hR _ _ ⟨rfl, (hw.pick [] rfl)⟩
        · replace hF11 := cneg hC19 hF11
          refine W.skip ?_
          refine W.go hK16 (.cons (i := 2) rfl (.cons (i := 6) rfl (.cons (i := 17) rfl (.cons (i := 18) rfl (.nil))))) ?_
          -- region 10: order.go:42
          refine W.reg ?_
          obtain ⟨hk9, hF11⟩ := ckh hF11
          refine WL.q (Y.add (.pl rfl) (.pl rfl) (ok64_lt (hk9))) rfl ?_
          refine WL.q (Y.move (.pl rfl)) rfl ?_
          refine WL.nil ?_
          obtain rfl := Option.some.inj hF11
          exact W.again1 hK12 (v7 + 1) k11 hN11 (Nat.lt_succ_self _) (.cons rfl (.nil)) (.cons (i := 2) rfl (.cons (i := 6) rfl (.cons (i := 17) rfl (.nil)))) (fun w hw => hw.pick [0, 1] rfl)
      · replace hF11 := cneg hC15 hF11
        refine W.exit ?_
        obtain rfl := Option.some.inj hF11
        exact W.joinAt0 hK9  (einr hN11) (.nil) (.cons (i := 2) rfl (.cons (i := 6) rfl (.nil))) (fun w hw => hw.pick [0, 1] rfl)
    · -- behind
      rintro  rfl
      -- region 11: order.go:47
      refine W.seqR fun Q22 hQ22 => ?_
      refine WL.q (Y.loadBA (ds := (encRel (Rel.mk r1.n r5))) Try.underlying25 rfl cells25 (.pl rfl) (i := 1) rfl rfl subW) rfl ?_
      refine WL.step (WO.storeBA (ds := (encRel (Rel.mk r1.n r5))) (cs' := (encRel (Rel.mk r1.n r5))) cells25 (.pl rfl) (.pl rfl) rfl (oneRel _) (i := 0) rfl (lel (o := 0) (l := 13) (m := 13) (by decide) rfl rfl) (putW rfl) ?_)
      refine WL.q (Y.assign (.pl rfl)) rfl ?_
      refine WL.q (Y.assign (.pl rfl)) rfl ?_
      refine WL.next hQ22 (.cons (i := 2) rfl (.cons (i := 3) rfl (.cons (i := 4) rfl (.nil)))) ?_
      obtain rfl := Option.some.inj hF
      refine W.retV (fn := Try.f15) (vs := [.agg (encRel (Rel.mk r1.n r5)).toArray, .bool false, .int .i64 0]) Try.results15 ⟨.cellA Try.underlying25 rfl cells25 rfl (i := 0) rfl rfl, ⟨.tmp rfl, ⟨.tmp rfl, trivial⟩⟩⟩ (fun _ _ h => h) (fun w hw => ?_)
      exact hR _ _ ⟨rfl, (hw.pick [] rfl)⟩

def order_acyclic (N : Nat) (r1 : Rel) : Option (Int × (List Int) × Int) :=
  bd (order_Close N r1) fun (r4 : (Int × (List Int) × Bool × Int)) =>
  cond (!(decide (r4.2.2.2 = 0)))
    (some (0, [], r4.2.2.2))
    (cond r4.2.2.1
      (some (0, [], 4))
      (some (r4.1, r4.2.1, 0)))

theorem order_acyclic_ok {N : Nat} {r1 : Rel} {res : (Int × (List Int) × Int)} (hF : order_acyclic N r1 = some res) (w : World) :
    Pure Try.prog 40 [.agg (encRel r1).toArray] w (.tuple #[.agg (encRel (Rel.mk res.1 res.2.1)).toArray, .int .i64 res.2.2]) := by
  refine W.enter (n := 22) Try.func40 rfl rfl Sub.refl (by simp) (St.start w) fun R hR => ?_
  unfold order_acyclic at hF
  -- region 0: order.go:51
  refine W.seqR fun Q1 hQ1 => ?_
  refine WL.step (WO.boxA (.pl rfl) rfl fun b2 => ?_)
  refine WL.step (WO.alloc (cs := (encRel (Rel.mk 0 [])).toArray) zero25 rfl rfl fun b3 => ?_)
  refine WL.q (Y.assign (.pl rfl)) rfl ?_
  refine WL.next hQ1 (.cons (i := 1) rfl (.cons (i := 2) rfl (.nil))) ?_
  -- region 1: order.go:52
  refine W.seqR fun Q2 hQ2 => ?_
  refine WL.q (Y.loadBA (ds := (encRel r1)) Try.underlying25 rfl cells25 (.pl rfl) (i := 1) rfl rfl subW) rfl ?_
  obtain ⟨r4, hr4, hF⟩ := bnd hF
  refine WL.step (WO.callP isGo15 (.cons (.pl rfl) (.nil)) rfl (fun w hw => order_Close_ok (hr4) w ) ?_)
  refine WL.q (Y.move (.pl rfl)) rfl ?_
  refine WL.q (Y.extract (.pl rfl) rfl) rfl ?_
  refine WL.q (Y.extract (.pl rfl) rfl) rfl ?_
  refine WL.q (Y.extract (.pl rfl) rfl) rfl ?_
  refine WL.step (WO.alloc (cs := (encRel (Rel.mk 0 [])).toArray) zero25 rfl rfl fun b5 => ?_)
  refine WL.step (WO.storeBA (ds := (encRel (Rel.mk r4.1 r4.2.1))) (cs' := (encRel (Rel.mk r4.1 r4.2.1))) cells25 (.pl rfl) (.pl rfl) rfl (oneRel _) (i := 0) rfl (lel (o := 0) (l := 13) (m := 13) (by decide) rfl rfl) (putW rfl) ?_)
  refine WL.q (Y.assign (.pl rfl)) rfl ?_
  refine WL.q (Y.assign (.pl rfl)) rfl ?_
  refine WL.next hQ2 (.cons (i := 2) rfl (.cons (i := 4) rfl (.cons (i := 5) rfl (.cons (i := 6) rfl (.nil))))) ?_
  refine W.seq fun K3 hK3 => ?_
  refine W.block ?_
  -- region 2: order.go:54
  refine W.seqR fun Q4 hQ4 => ?_
  refine WL.q (Y.move (.pl rfl)) rfl ?_
  refine WL.q (Y.neq (.pl rfl) (.pl rfl)) rfl ?_
  refine WL.q (Y.assign (.pl rfl)) rfl ?_
  refine WL.next hQ4 (.cons (i := 2) rfl (.cons (i := 4) rfl (.cons (i := 5) rfl (.cons (i := 6) rfl (.cons (i := 13) rfl (.nil)))))) ?_
  refine W.cond (.pl rfl) (fun hC5 => ?_) (fun hC5 => ?_)
  · replace hF := cpos hC5 hF
    -- region 3: order.go:55
    refine W.seqR fun Q6 hQ6 => ?_
    refine WL.q (Y.build (cs := (encRel (Rel.mk 0 [])).toArray) shape25 (.nil) (one_parts trivial) rfl) rfl ?_
    refine WL.q (Y.move (.pl rfl)) rfl ?_
    refine WL.step (WO.storeBA (ds := (encRel (Rel.mk 0 []))) (cs' := (encRel (Rel.mk 0 []))) cells25 (.pl rfl) (.pl rfl) rfl (oneRel _) (i := 1) rfl (lel (o := 0) (l := 13) (m := 13) (by decide) rfl rfl) (putW rfl) ?_)
    refine WL.q (Y.assign (.pl rfl)) rfl ?_
    refine WL.next hQ6 (.cons (i := 2) rfl (.cons (i := 3) rfl (.nil))) ?_
    obtain rfl := Option.some.inj hF
    refine W.retV (fn := Try.f40) (vs := [.agg (encRel (Rel.mk 0 [])).toArray, .int .i64 r4.2.2.2]) Try.results40 ⟨.cellA Try.underlying25 rfl cells25 rfl (i := 1) rfl rfl, ⟨.tmp rfl, trivial⟩⟩ (fun _ _ h => h) (fun w hw => ?_)
    exact hR _ _ ⟨rfl, (hw.pick [] rfl)⟩
  · replace hF := cneg hC5 hF
    -- region 4: order.go:56
    refine W.seqR fun Q7 hQ7 => ?_
    refine WL.q (Y.move (.pl rfl)) rfl ?_
    refine WL.q (Y.assign (.pl rfl)) rfl ?_
    refine WL.next hQ7 (.cons (i := 2) rfl (.cons (i := 4) rfl (.cons (i := 18) rfl (.nil)))) ?_
    refine W.cond (.pl rfl) (fun hC8 => ?_) (fun hC8 => ?_)
    · replace hF := cpos hC8 hF
      -- region 5: order.go:57
      refine W.seqR fun Q9 hQ9 => ?_
      refine WL.q (Y.build (cs := (encRel (Rel.mk 0 [])).toArray) shape25 (.nil) (one_parts trivial) rfl) rfl ?_
      refine WL.step (WO.storeBA (ds := (encRel (Rel.mk 0 []))) (cs' := (encRel (Rel.mk 0 []))) cells25 (.pl rfl) (.pl rfl) rfl (oneRel _) (i := 1) rfl (lel (o := 0) (l := 13) (m := 13) (by decide) rfl rfl) (putW rfl) ?_)
      refine WL.q (Y.assign (.pl rfl)) rfl ?_
      refine WL.next hQ9 (.cons (i := 2) rfl (.cons (i := 3) rfl (.nil))) ?_
      obtain rfl := Option.some.inj hF
      refine W.retV (fn := Try.f40) (vs := [.agg (encRel (Rel.mk 0 [])).toArray, .int .i64 4]) Try.results40 ⟨.cellA Try.underlying25 rfl cells25 rfl (i := 1) rfl rfl, ⟨.tmp rfl, trivial⟩⟩ (fun _ _ h => h) (fun w hw => ?_)
      exact hR _ _ ⟨rfl, (hw.pick [] rfl)⟩
    · replace hF := cneg hC8 hF
      refine W.skip ?_
      refine W.go hK3 (.cons (i := 2) rfl (.cons (i := 4) rfl (.nil))) ?_
      -- region 6: order.go:59
      refine W.seqR fun Q10 hQ10 => ?_
      refine WL.q (Y.loadBA (ds := (encRel (Rel.mk r4.1 r4.2.1))) Try.underlying25 rfl cells25 (.pl rfl) (i := 0) rfl rfl subW) rfl ?_
      refine WL.step (WO.storeBA (ds := (encRel (Rel.mk r4.1 r4.2.1))) (cs' := (encRel (Rel.mk r4.1 r4.2.1))) cells25 (.pl rfl) (.pl rfl) rfl (oneRel _) (i := 1) rfl (lel (o := 0) (l := 13) (m := 13) (by decide) rfl rfl) (putW rfl) ?_)
      refine WL.q (Y.assign (.pl rfl)) rfl ?_
      refine WL.next hQ10 (.cons (i := 2) rfl (.cons (i := 3) rfl (.nil))) ?_
      obtain rfl := Option.some.inj hF
      refine W.retV (fn := Try.f40) (vs := [.agg (encRel (Rel.mk r4.1 r4.2.1)).toArray, .int .i64 0]) Try.results40 ⟨.cellA Try.underlying25 rfl cells25 rfl (i := 1) rfl rfl, ⟨.tmp rfl, trivial⟩⟩ (fun _ _ h => h) (fun w hw => ?_)
      exact hR _ _ ⟨rfl, (hw.pick [] rfl)⟩

def order_has (N : Nat) (c1 : Rel) (i2 : Int) (j3 : Int) : Option Bool :=
  bd (ax 12 0 c1.after i2) fun (x5 : Int) =>
  some (decide ((bandI .u16 (shrI .u16 x5 (IntKind.u64.wrap j3)) 1) = 1))

theorem order_has_ok {N : Nat} {c1 : Rel} {i2 : Int} {j3 : Int} {res : Bool} (hF : order_has N c1 i2 j3 = some res) (w : World) :
    Pure Try.prog 45 [.agg (encRel c1).toArray, .int .i64 i2, .int .i64 j3] w (.bool res) := by
  refine W.enter (n := 16) Try.func45 rfl rfl Sub.refl (by simp) (St.start w) fun R hR => ?_
  unfold order_has at hF
  -- region 0: order.go:62
  refine W.seqR fun Q1 hQ1 => ?_
  refine WL.step (WO.boxA (.pl rfl) rfl fun b4 => ?_)
  refine WL.q (Y.assign (.pl rfl)) rfl ?_
  refine WL.next hQ1 (.cons (i := 1) rfl (.cons (i := 2) rfl (.cons (i := 3) rfl (.nil)))) ?_
  -- region 1: order.go:62
  refine W.seqR fun Q2 hQ2 => ?_
  refine WL.q (Y.move (.pl rfl)) rfl ?_
  refine WL.q (Y.fieldAddr0 (off := 1) (ft := 23) Try.underlying25 rfl cells23 (.pl rfl)) rfl ?_
  obtain ⟨x5, hx5, hF⟩ := bnd hF
  refine WL.q (Y.arrZ Try.underlying23 cells22 (.pl rfl) (.pl rfl) (ax_lt (hx5))) rfl ?_
  refine WL.q (Y.loadB (v := .int .u16 x5) Try.underlying22 rfl (.pl rfl) (i := 0) rfl (cellsA (pre := (Value.int .i64 c1.n :: [])) (off := 1) (post := []) (a := c1.after) (enc := (eI .u16)) (d := 0) (n := 12) (sz := 1) (j := 0) (fun _ => rfl) rfl (ax_nat (hx5)) (ax_get (hx5)) rfl)) rfl ?_
  refine WL.q (Y.move (.pl rfl)) rfl ?_
  refine WL.q (Y.conv Try.underlying3 Try.underlying63 (.pl rfl)) rfl ?_
  refine WL.q (Y.shr (.pl rfl) (.pl rfl) (wrapU_nn rfl _)) rfl ?_
  refine WL.q (Y.band (.pl rfl) (.pl rfl)) rfl ?_
  refine WL.q (Y.eql (.pl rfl) (.pl rfl)) rfl ?_
  refine WL.q (Y.assign (.pl rfl)) rfl ?_
  refine WL.next hQ2 (.cons (i := 6) rfl (.nil)) ?_
  obtain rfl := Option.some.inj hF
  refine W.retV (fn := Try.f45) (vs := [.bool (decide ((bandI .u16 (shrI .u16 x5 (IntKind.u64.wrap j3)) 1) = 1))]) Try.results45 ⟨.tmp rfl, trivial⟩ (fun _ _ h => h) (fun w hw => ?_)
  exact hR _ _ ⟨rfl, (hw.pick [] rfl)⟩

def order_before_L3 (N : Nat) (c1 : Rel) (j2 : Int) : (Int × Int) → Option ((Int × Int) ⊕ Int)
  | (out5, v6) =>
    cond (decide (v6 < c1.n))
      (bd (order_has N c1 v6 j2) fun (r7 : Bool) =>
      cond r7
        (ck (ok64 (v6 + 1)) <|
        some (.inl ((borI .u16 out5 (shlI .u16 1 (IntKind.u64.wrap v6))), (v6 + 1))))
        (ck (ok64 (v6 + 1)) <|
        some (.inl (out5, (v6 + 1)))))
      (some (.inr out5))

def order_before (N : Nat) (c1 : Rel) (j2 : Int) : Option Int :=
  bd (α := Int) (iter (order_before_L3 N c1 j2) N (0, 0)) <|
  fun (out4 : Int) => 
    some out4

theorem order_before_ok {N : Nat} {c1 : Rel} {j2 : Int} {res : Int} (hF : order_before N c1 j2 = some res) (w : World) :
    Pure Try.prog 41 [.agg (encRel c1).toArray, .int .i64 j2] w (.int .u16 res) := by
  refine W.enter (n := 23) Try.func41 rfl rfl Sub.refl (by simp) (St.start w) fun R hR => ?_
  unfold order_before at hF
  -- region 0: order.go:65
  refine W.seqR fun Q1 hQ1 => ?_
  refine WL.step (WO.boxA (.pl rfl) rfl fun b3 => ?_)
  refine WL.q (Y.assign (.pl rfl)) rfl ?_
  refine WL.next hQ1 (.cons (i := 1) rfl (.cons (i := 2) rfl (.nil))) ?_
  -- region 1: order.go:66
  refine W.seqR fun Q2 hQ2 => ?_
  refine WL.q (Y.assign (.pl rfl)) rfl ?_
  refine WL.next hQ2 (.cons (i := 1) rfl (.cons (i := 2) rfl (.cons (i := 5) rfl (.nil)))) ?_
  obtain ⟨o3, hF3, hF⟩ := bnd hF
  refine W.join1 (Em := fun (out4 : Int) => [(5, .int .u16 out4)]) (M := fun out4 => []) (I := fun out4 => out4 = o3) (.nil) (fun K4 hK4 => ?_) ?_
  · -- up to
    -- region 2: order.go:67
    refine W.seqR fun Q5 hQ5 => ?_
    refine WL.q (Y.fieldAddr0 (off := 0) (ft := 3) Try.underlying25 rfl cells3 (.pl rfl)) rfl ?_
    refine WL.q (Y.loadB (v := .int .i64 c1.n) Try.underlying3 rfl (.pl rfl) (i := 0) rfl (rfl)) rfl ?_
    refine WL.q (Y.move (.pl rfl)) rfl ?_
    refine WL.next hQ5 (.cons (i := 1) rfl (.cons (i := 2) rfl (.cons (i := 5) rfl (.cons (i := 8) rfl (.cons (i := 9) rfl (.nil)))))) ?_
    refine W.block ?_
    refine W.loop2 (Em := fun (out5 : Int) (v6 : Int) => [(5, .int .u16 out5), (9, .int .i64 v6)]) (M := fun out5 v6 => [cBx b3 25 (encRel c1)]) (I := fun out5 v6 k6 => iter (order_before_L3 N c1 j2) k6 (out5, v6) = some o3) 0 0 N (hF3) (.cons rfl (.cons rfl (.nil))) (.cons (i := 1) rfl (.cons (i := 2) rfl (.cons (i := 8) rfl (.nil)))) (fun w hw => hw.pick [0] rfl) (fun out5 v6 k6 hI K7 hK7 => ?_)
    obtain ⟨k6, t6, rfl, hF6, hN6⟩ := iter_step hI
    -- region 3: order.go:67
    refine W.seqR fun Q8 hQ8 => ?_
    refine WL.q (Y.lss (.pl rfl) (.pl rfl)) rfl ?_
    refine WL.next hQ8 (.cons (i := 1) rfl (.cons (i := 2) rfl (.cons (i := 5) rfl (.cons (i := 8) rfl (.cons (i := 9) rfl (.cons (i := 10) rfl (.nil))))))) ?_
    refine W.seq fun K9 hK9 => ?_
    refine W.cond (.pl rfl) (fun hC10 => ?_) (fun hC10 => ?_)
    · replace hF6 := cpos hC10 hF6
      refine W.skip ?_
      refine W.go hK9 (.cons (i := 1) rfl (.cons (i := 2) rfl (.cons (i := 5) rfl (.cons (i := 8) rfl (.cons (i := 9) rfl (.nil)))))) ?_
      refine W.seq fun K11 hK11 => ?_
      refine W.block ?_
      -- region 4: order.go:67
      refine W.seqR fun Q12 hQ12 => ?_
      refine WL.q (Y.move (.pl rfl)) rfl ?_
      refine WL.q (Y.assign (.pl rfl)) rfl ?_
      refine WL.next hQ12 (.cons (i := 1) rfl (.cons (i := 2) rfl (.cons (i := 5) rfl (.cons (i := 6) rfl (.cons (i := 8) rfl (.cons (i := 9) rfl (.nil))))))) ?_
      -- region 5: order.go:68
      refine W.seqR fun Q13 hQ13 => ?_
      refine WL.q (Y.loadBA (ds := (encRel c1)) Try.underlying25 rfl cells25 (.pl rfl) (i := 0) rfl rfl subW) rfl ?_
      refine WL.q (Y.move (.pl rfl)) rfl ?_
      refine WL.q (Y.move (.pl rfl)) rfl ?_
      obtain ⟨r7, hr7, hF6⟩ := bnd hF6
      refine WL.step (WO.callP isGo45 (.cons (.pl rfl) (.cons (.pl rfl) (.cons (.pl rfl) (.nil)))) rfl (fun w hw => order_has_ok (hr7) w ) ?_)
      refine WL.next hQ13 (.cons (i := 1) rfl (.cons (i := 2) rfl (.cons (i := 5) rfl (.cons (i := 6) rfl (.cons (i := 8) rfl (.cons (i := 9) rfl (.cons (i := 15) rfl (.nil)))))))) ?_
      refine W.cond (.pl rfl) (fun hC14 => ?_) (fun hC14 => ?_)
      · replace hF6 := cpos hC14 hF6
        -- region 6: order.go:69
        refine W.reg ?_
        refine WL.q (Y.move (.pl rfl)) rfl ?_
        refine WL.q (Y.move (.pl rfl)) rfl ?_
        refine WL.q (Y.conv Try.underlying3 Try.underlying63 (.pl rfl)) rfl ?_
        refine WL.q (Y.shl (.pl rfl) (.pl rfl) (wrapU_nn rfl _)) rfl ?_
        refine WL.q (Y.bor (.pl rfl) (.pl rfl)) rfl ?_
        refine WL.q (Y.assign (.pl rfl)) rfl ?_
        refine WL.nil ?_
        refine W.go hK11 (.cons (i := 1) rfl (.cons (i := 2) rfl (.cons (i := 5) rfl (.cons (i := 8) rfl (.cons (i := 9) rfl (.nil)))))) ?_
        -- region 7: order.go:67
        refine W.reg ?_
        obtain ⟨hk8, hF6⟩ := ckh hF6
        refine WL.q (Y.add (.pl rfl) (.pl rfl) (ok64_lt (hk8))) rfl ?_
        refine WL.q (Y.move (.pl rfl)) rfl ?_
        refine WL.nil ?_
        obtain rfl := Option.some.inj hF6
        exact W.again2 hK7 (borI .u16 out5 (shlI .u16 1 (IntKind.u64.wrap v6))) (v6 + 1) k6 hN6 (Nat.lt_succ_self _) (.cons rfl (.cons rfl (.nil))) (.cons (i := 1) rfl (.cons (i := 2) rfl (.cons (i := 8) rfl (.nil)))) (fun w hw => hw.pick [0] rfl)
      · replace hF6 := cneg hC14 hF6
        refine W.skip ?_
        refine W.go hK11 (.cons (i := 1) rfl (.cons (i := 2) rfl (.cons (i := 5) rfl (.cons (i := 8) rfl (.cons (i := 9) rfl (.nil)))))) ?_
        -- region 7: order.go:67
        refine W.reg ?_
        obtain ⟨hk9, hF6⟩ := ckh hF6
        refine WL.q (Y.add (.pl rfl) (.pl rfl) (ok64_lt (hk9))) rfl ?_
        refine WL.q (Y.move (.pl rfl)) rfl ?_
        refine WL.nil ?_
        obtain rfl := Option.some.inj hF6
        exact W.again2 hK7 out5 (v6 + 1) k6 hN6 (Nat.lt_succ_self _) (.cons rfl (.cons rfl (.nil))) (.cons (i := 1) rfl (.cons (i := 2) rfl (.cons (i := 8) rfl (.nil)))) (fun w hw => hw.pick [0] rfl)
    · replace hF6 := cneg hC10 hF6
      refine W.exit ?_
      obtain rfl := Option.some.inj hF6
      exact W.joinAt1 hK4 out5 (einr hN6) (.cons rfl (.nil)) (.nil) (fun w hw => hw.pick [] rfl)
  · -- behind
    rintro out4 rfl
    -- region 8: order.go:72
    refine W.seqR fun Q18 hQ18 => ?_
    refine WL.q (Y.move (.pl rfl)) rfl ?_
    refine WL.q (Y.assign (.pl rfl)) rfl ?_
    refine WL.next hQ18 (.cons (i := 4) rfl (.nil)) ?_
    obtain rfl := Option.some.inj hF
    refine W.retV (fn := Try.f41) (vs := [.int .u16 out4]) Try.results41 ⟨.tmp rfl, trivial⟩ (fun _ _ h => h) (fun w hw => ?_)
    exact hR _ _ ⟨rfl, (hw.pick [] rfl)⟩

def order_Least_L15 (N : Nat) (r3 : (Int × (List Int) × Int)) (done11 : Int) (out10 : (List Int)) : Int → Option (Int ⊕ ((List Int) × Int))
  | v12 =>
    cond (decide (v12 < r3.1))
      (bd ((cond ((decide ((bandI .u16 (shrI .u16 done11 (IntKind.u64.wrap v12)) 1) = 0)) == true) (order_before N (Rel.mk r3.1 r3.2.1) v12) (some 0))) fun (r13 : Int) =>
      cond ((decide ((bandI .u16 (shrI .u16 done11 (IntKind.u64.wrap v12)) 1) = 0)) && (decide ((bclrI .u16 r13 done11) = 0)))
        (ck (limB 8 ((out10).length + (([v12] : List Int)).length)) <|
        some (.inr ((out10 ++ ([v12] : List Int)), (borI .u16 done11 (shlI .u16 1 (IntKind.u64.wrap v12))))))
        (ck (ok64 (v12 + 1)) <|
        some (.inl (v12 + 1))))
      (some (.inr (out10, done11)))

def order_Least_L14 (N : Nat) (r3 : (Int × (List Int) × Int)) : ((List Int) × Int) → Option (((List Int) × Int) ⊕ (List Int))
  | (out10, done11) =>
    cond (decide (((out10).length : Int) < r3.1))
      (bd (α := ((List Int) × Int)) (iter (order_Least_L15 N r3 done11 out10) N 0) <| fun p => some (.inl p))
      (some (.inr out10))

def order_Least (N : Nat) (r1 : Rel) : Option ((List Int) × Int) :=
  bd (order_acyclic N r1) fun (r3 : (Int × (List Int) × Int)) =>
  cond (!(decide (r3.2.2 = 0)))
    (some ([], r3.2.2))
    (bd (α := (List Int)) (iter (order_Least_L14 N r3) N ([], 0)) <|
    fun (out7 : (List Int)) => 
      some (out7, 0))

theorem order_Least_ok {N : Nat} {r1 : Rel} {res : ((List Int) × Int)} (hF : order_Least N r1 = some res) (w : World) :
    Made Try.prog 24 [.agg (encRel r1).toArray] w (fun g : (Option Addr × Nat) => .tuple #[.slice g.1 (res.1).length g.2, .int .i64 res.2]) (fun g => [cR (eI .i64) 1 g.1 g.2 3 res.1]) (fun _ => True) := by
  refine W.enter (n := 52) Try.func24 rfl rfl Sub.refl (by simp) (St.start w) fun R hR => ?_
  unfold order_Least at hF
  -- region 0: order.go:76
  refine W.seqR fun Q1 hQ1 => ?_
  refine WL.step (WO.boxA (.pl rfl) rfl fun b2 => ?_)
  refine WL.q (Y.assign (.pl rfl)) rfl ?_
  refine WL.q (Y.assign (.pl rfl)) rfl ?_
  refine WL.next hQ1 (.cons (i := 1) rfl (.nil)) ?_
  -- region 1: order.go:77
  refine W.seqR fun Q2 hQ2 => ?_
  refine WL.q (Y.loadBA (ds := (encRel r1)) Try.underlying25 rfl cells25 (.pl rfl) (i := 0) rfl rfl subW) rfl ?_
  obtain ⟨r3, hr3, hF⟩ := bnd hF
  refine WL.step (WO.callP isGo40 (.cons (.pl rfl) (.nil)) rfl (fun w hw => order_acyclic_ok (hr3) w ) ?_)
  refine WL.q (Y.move (.pl rfl)) rfl ?_
  refine WL.q (Y.extract (.pl rfl) rfl) rfl ?_
  refine WL.q (Y.extract (.pl rfl) rfl) rfl ?_
  refine WL.step (WO.alloc (cs := (encRel (Rel.mk 0 [])).toArray) zero25 rfl rfl fun b4 => ?_)
  refine WL.step (WO.storeBA (ds := (encRel (Rel.mk r3.1 r3.2.1))) (cs' := (encRel (Rel.mk r3.1 r3.2.1))) cells25 (.pl rfl) (.pl rfl) rfl (oneRel _) (i := 0) rfl (lel (o := 0) (l := 13) (m := 13) (by decide) rfl rfl) (putW rfl) ?_)
  refine WL.q (Y.assign (.pl rfl)) rfl ?_
  refine WL.next hQ2 (.cons (i := 4) rfl (.cons (i := 5) rfl (.nil))) ?_
  refine W.seq fun K3 hK3 => ?_
  -- region 2: order.go:78
  refine W.seqR fun Q4 hQ4 => ?_
  refine WL.q (Y.move (.pl rfl)) rfl ?_
  refine WL.q (Y.neq (.pl rfl) (.pl rfl)) rfl ?_
  refine WL.next hQ4 (.cons (i := 4) rfl (.cons (i := 5) rfl (.cons (i := 15) rfl (.nil)))) ?_
  refine W.cond (.pl rfl) (fun hC5 => ?_) (fun hC5 => ?_)
  · replace hF := cpos hC5 hF
    -- region 3: order.go:79
    refine W.seqR fun Q6 hQ6 => ?_
    refine WL.q (Y.move (.pl rfl)) rfl ?_
    refine WL.q (Y.assign (.pl rfl)) rfl ?_
    refine WL.q (Y.assign (.pl rfl)) rfl ?_
    refine WL.next hQ6 (.cons (i := 2) rfl (.cons (i := 3) rfl (.nil))) ?_
    obtain rfl := Option.some.inj hF
    refine W.retV (fn := Try.f24) (vs := [.slice none 0 0, .int .i64 r3.2.2]) Try.results24 ⟨.tmp rfl, ⟨.tmp rfl, trivial⟩⟩ (fun _ _ h => h) (fun w hw => ?_)
    exact hR _ _ ⟨(none, 0), trivial, rfl, ((St.nilR (hw.pick [] rfl) (eI .i64) 1 3).pick [0] rfl)⟩
  · replace hF := cneg hC5 hF
    refine W.skip ?_
    refine W.go hK3 (.cons (i := 4) rfl (.nil)) ?_
    -- region 4: order.go:81
    refine W.seqR fun Q7 hQ7 => ?_
    refine WL.q (Y.assign (.pl rfl)) rfl ?_
    refine WL.next hQ7 (.cons (i := 4) rfl (.cons (i := 6) rfl (.nil))) ?_
    -- region 5: order.go:82
    refine W.seqR fun Q8 hQ8 => ?_
    refine WL.q (Y.assign (.pl rfl)) rfl ?_
    refine WL.next hQ8 (.cons (i := 4) rfl (.cons (i := 6) rfl (.cons (i := 7) rfl (.nil)))) ?_
    obtain ⟨o9, hF9, hF⟩ := bnd hF
    refine W.join3 (Em := fun (out7 : (List Int)) (A5 : Option Addr) (c6 : Nat) => [(6, .slice A5 (out7).length c6)]) (M := fun out7 A5 c6 => [cR (eI .i64) 1 A5 c6 3 out7]) (I := fun out7 A5 c6 => out7 = o9) (.nil) (fun K10 hK10 => ?_) ?_
    · -- up to
      refine W.block ?_
      refine W.loop4 (Em := fun (out10 : (List Int)) (done11 : Int) (A8 : Option Addr) (c9 : Nat) => [(6, .slice A8 (out10).length c9), (7, .int .u16 done11)]) (M := fun out10 done11 A8 c9 => [cBx b4 25 (encRel (Rel.mk r3.1 r3.2.1)), cR (eI .i64) 1 A8 c9 3 out10]) (I := fun out10 done11 A8 c9 k11 => iter (order_Least_L14 N r3) k11 (out10, done11) = some o9) [] 0 none 0 N (hF9) (.cons rfl (.cons rfl (.nil))) (.cons (i := 4) rfl (.nil)) (fun w hw => (St.nilR (hw.pick [0] rfl) (eI .i64) 1 3).pick [1, 0] rfl) (fun out10 done11 A8 c9 k11 hI K12 hK12 => ?_)
      obtain ⟨k11, t11, rfl, hF11, hN11⟩ := iter_step hI
      refine W.seq fun K13 hK13 => ?_
      -- region 6: order.go:83
      refine W.seqR fun Q14 hQ14 => ?_
      refine WL.q (Y.move (.pl rfl)) rfl ?_
      refine WL.q (Y.len Try.underlying34 (.pl rfl)) rfl ?_
      refine WL.q (Y.fieldAddr0 (off := 0) (ft := 3) Try.underlying25 rfl cells3 (.pl rfl)) rfl ?_
      refine WL.q (Y.loadB (v := .int .i64 r3.1) Try.underlying3 rfl (.pl rfl) (i := 0) rfl (rfl)) rfl ?_
      refine WL.q (Y.lss (.pl rfl) (.pl rfl)) rfl ?_
      refine WL.next hQ14 (.cons (i := 4) rfl (.cons (i := 6) rfl (.cons (i := 7) rfl (.cons (i := 21) rfl (.nil))))) ?_
      refine W.cond (.pl rfl) (fun hC15 => ?_) (fun hC15 => ?_)
      · replace hF11 := cpos hC15 hF11
        refine W.skip ?_
        refine W.go hK13 (.cons (i := 4) rfl (.cons (i := 6) rfl (.cons (i := 7) rfl (.nil)))) ?_
        refine W.block ?_
        -- region 7: order.go:84
        refine W.seqR fun Q16 hQ16 => ?_
        refine WL.q (Y.fieldAddr0 (off := 0) (ft := 3) Try.underlying25 rfl cells3 (.pl rfl)) rfl ?_
        refine WL.q (Y.loadB (v := .int .i64 r3.1) Try.underlying3 rfl (.pl rfl) (i := 0) rfl (rfl)) rfl ?_
        refine WL.q (Y.move (.pl rfl)) rfl ?_
        refine WL.next hQ16 (.cons (i := 4) rfl (.cons (i := 6) rfl (.cons (i := 7) rfl (.cons (i := 23) rfl (.cons (i := 24) rfl (.nil)))))) ?_
        refine W.block ?_
        obtain ⟨o17, hL17, hF11⟩ := bnd hF11
        refine W.loop1 (Em := fun (v12 : Int) => [(24, .int .i64 v12)]) (M := fun v12 => [cBx b4 25 (encRel (Rel.mk r3.1 r3.2.1)), cR (eI .i64) 1 A8 c9 3 out10]) (I := fun v12 k17 => iter (order_Least_L15 N r3 done11 out10) k17 v12 = some o17) 0 N (hL17) (.cons rfl (.nil)) (.cons (i := 4) rfl (.cons (i := 6) rfl (.cons (i := 7) rfl (.cons (i := 23) rfl (.nil))))) (fun w hw => hw.pick [0, 1] rfl) (fun v12 k17 hI K18 hK18 => ?_)
        obtain ⟨k17, t17, rfl, hF17, hN17⟩ := iter_step hI
        -- region 8: order.go:84
        refine W.seqR fun Q19 hQ19 => ?_
        refine WL.q (Y.lss (.pl rfl) (.pl rfl)) rfl ?_
        refine WL.next hQ19 (.cons (i := 4) rfl (.cons (i := 6) rfl (.cons (i := 7) rfl (.cons (i := 23) rfl (.cons (i := 24) rfl (.cons (i := 25) rfl (.nil))))))) ?_
        refine W.seq fun K20 hK20 => ?_
        refine W.cond (.pl rfl) (fun hC21 => ?_) (fun hC21 => ?_)
        · replace hF17 := cpos hC21 hF17
          refine W.skip ?_
          refine W.go hK20 (.cons (i := 4) rfl (.cons (i := 6) rfl (.cons (i := 7) rfl (.cons (i := 23) rfl (.cons (i := 24) rfl (.nil)))))) ?_
          refine W.seq fun K22 hK22 => ?_
          refine W.block ?_
          -- region 9: order.go:84
          refine W.seqR fun Q23 hQ23 => ?_
          refine WL.q (Y.move (.pl rfl)) rfl ?_
          refine WL.q (Y.assign (.pl rfl)) rfl ?_
          refine WL.next hQ23 (.cons (i := 4) rfl (.cons (i := 6) rfl (.cons (i := 7) rfl (.cons (i := 8) rfl (.cons (i := 23) rfl (.cons (i := 24) rfl (.nil))))))) ?_
          -- region 10: order.go:85
          refine W.seqR fun Q24 hQ24 => ?_
          refine WL.q (Y.move (.pl rfl)) rfl ?_
          refine WL.q (Y.move (.pl rfl)) rfl ?_
          refine WL.q (Y.conv Try.underlying3 Try.underlying63 (.pl rfl)) rfl ?_
          refine WL.q (Y.shr (.pl rfl) (.pl rfl) (wrapU_nn rfl _)) rfl ?_
          refine WL.q (Y.band (.pl rfl) (.pl rfl)) rfl ?_
          refine WL.q (Y.eql (.pl rfl) (.pl rfl)) rfl ?_
          refine WL.q (Y.move (.pl rfl)) rfl ?_
          refine WL.g (.pl rfl rfl rfl) (fun hg => Y.loadBA (ds := (encRel (Rel.mk r3.1 r3.2.1))) Try.underlying25 rfl cells25 (.pl rfl) (i := 0) rfl rfl subW) rfl ?_
          refine WL.g (.pl rfl rfl rfl) (fun hg => Y.move (.pl rfl)) rfl ?_
          obtain ⟨r13, hr13, hF17⟩ := bnd hF17
          refine WL.gP (.pl rfl rfl rfl) isGo41 (fun hg => (.cons (.gd (hg) rfl) (.cons (.gd (hg) rfl) (.nil)))) rfl (fun hg w hw => order_before_ok (gpos hg hr13) w ) ?_
          refine WL.g (.pl rfl rfl rfl) (fun hg => Y.move (.pl rfl)) rfl ?_
          refine WL.g (.pl rfl rfl rfl) (fun hg => Y.bclr (.gd (hg) rfl) (.gd (hg) rfl)) rfl ?_
          refine WL.g (.pl rfl rfl rfl) (fun hg => Y.eql (.gd (hg) rfl) (.pl rfl)) rfl ?_
          refine WL.q (Y.and (.pl rfl) (fun h2 => .gd (eqt h2) rfl)) rfl ?_
          refine WL.next hQ24 (.cons (i := 4) rfl (.cons (i := 6) rfl (.cons (i := 7) rfl (.cons (i := 8) rfl (.cons (i := 23) rfl (.cons (i := 24) rfl (.cons (i := 40) rfl (.nil)))))))) ?_
          refine W.cond (.pl rfl) (fun hC25 => ?_) (fun hC25 => ?_)
          · replace hF17 := cpos hC25 hF17
            -- region 11: order.go:86
            refine W.seqR fun Q26 hQ26 => ?_
            refine WL.q (Y.move (.pl rfl)) rfl ?_
            refine WL.q (Y.move (.pl rfl)) rfl ?_
            refine WL.step (WO.bsliceC (enc := (eI .i64)) (ys := ([v12] : List Int)) Try.underlying34 bz3 (.cons (.pl rfl) (.nil)) rfl (fun _ => rfl) rfl rfl (by decide) (by decide) rfl fun b14 => ?_)
            obtain ⟨hk17, hF17⟩ := ckh hF17
            refine WL.step (WO.appendC (enc := (eI .i64)) Try.underlying34 ap3 (fun _ => rfl) oneI (.pl rfl) rfl (.pl rfl) (i := 2) rfl (m2 := 0) rfl (hk17) rfl fun A15 c16 => ?_)
            refine WL.q (Y.assign (.pl rfl)) rfl ?_
            refine WL.next hQ26 (.cons (i := 4) rfl (.cons (i := 6) rfl (.cons (i := 7) rfl (.cons (i := 8) rfl (.nil))))) ?_
            -- region 12: order.go:87
            refine W.seqR fun Q27 hQ27 => ?_
            refine WL.q (Y.move (.pl rfl)) rfl ?_
            refine WL.q (Y.move (.pl rfl)) rfl ?_
            refine WL.q (Y.conv Try.underlying3 Try.underlying63 (.pl rfl)) rfl ?_
            refine WL.q (Y.shl (.pl rfl) (.pl rfl) (wrapU_nn rfl _)) rfl ?_
            refine WL.q (Y.bor (.pl rfl) (.pl rfl)) rfl ?_
            refine WL.q (Y.assign (.pl rfl)) rfl ?_
            refine WL.next hQ27 (.cons (i := 4) rfl (.cons (i := 6) rfl (.cons (i := 7) rfl (.nil)))) ?_
            refine W.exit ?_
            obtain rfl := Option.some.inj hF17
            obtain rfl := einr hN17
            obtain rfl := Option.some.inj hF11
            exact W.again4 hK12 (out10 ++ ([v12] : List Int)) (borI .u16 done11 (shlI .u16 1 (IntKind.u64.wrap v12))) A15 c16 k11 hN11 (Nat.lt_succ_self _) (.cons rfl (.cons rfl (.nil))) (.cons (i := 4) rfl (.nil)) (fun w hw => hw.pick [1, 2] rfl)
          · replace hF17 := cneg hC25 hF17
            refine W.skip ?_
            refine W.go hK22 (.cons (i := 4) rfl (.cons (i := 6) rfl (.cons (i := 7) rfl (.cons (i := 23) rfl (.cons (i := 24) rfl (.nil)))))) ?_
            -- region 13: order.go:84
            refine W.reg ?_
            obtain ⟨hk18, hF17⟩ := ckh hF17
            refine WL.q (Y.add (.pl rfl) (.pl rfl) (ok64_lt (hk18))) rfl ?_
            refine WL.q (Y.move (.pl rfl)) rfl ?_
            refine WL.nil ?_
            obtain rfl := Option.some.inj hF17
            exact W.again1 hK18 (v12 + 1) k17 hN17 (Nat.lt_succ_self _) (.cons rfl (.nil)) (.cons (i := 4) rfl (.cons (i := 6) rfl (.cons (i := 7) rfl (.cons (i := 23) rfl (.nil))))) (fun w hw => hw.pick [0, 1] rfl)
        · replace hF17 := cneg hC21 hF17
          refine W.exit ?_
          obtain rfl := Option.some.inj hF17
          obtain rfl := einr hN17
          obtain rfl := Option.some.inj hF11
          exact W.again4 hK12 out10 done11 A8 c9 k11 hN11 (Nat.lt_succ_self _) (.cons rfl (.cons rfl (.nil))) (.cons (i := 4) rfl (.nil)) (fun w hw => hw.pick [0, 1] rfl)
      · replace hF11 := cneg hC15 hF11
        refine W.exit ?_
        obtain rfl := Option.some.inj hF11
        exact W.joinAt3 hK10 out10 A8 c9 (einr hN11) (.cons rfl (.nil)) (.nil) (fun w hw => hw.pick [1] rfl)
    · -- behind
      rintro out7 A5 c6 rfl
      -- region 14: order.go:92
      refine W.seqR fun Q29 hQ29 => ?_
      refine WL.q (Y.move (.pl rfl)) rfl ?_
      refine WL.q (Y.assign (.pl rfl)) rfl ?_
      refine WL.q (Y.assign (.pl rfl)) rfl ?_
      refine WL.next hQ29 (.cons (i := 2) rfl (.cons (i := 3) rfl (.nil))) ?_
      obtain rfl := Option.some.inj hF
      refine W.retV (fn := Try.f24) (vs := [.slice A5 (out7).length c6, .int .i64 0]) Try.results24 ⟨.tmp rfl, ⟨.tmp rfl, trivial⟩⟩ (fun _ _ h => h) (fun w hw => ?_)
      exact hR _ _ ⟨(A5, c6), trivial, rfl, (hw.pick [0] rfl)⟩

def order_Count_L27 (N : Nat) (r3 : (Int × (List Int) × Int)) (v10 : Int) : ((List Int) × Int) → Option (((List Int) × Int) ⊕ (List Int))
  | (ways12, v13) =>
    cond (decide (v13 < r3.1))
      (bd ((cond ((decide ((bandI .i64 (shrI .i64 v10 (IntKind.u64.wrap v13)) 1) = 0)) == true) (order_before N (Rel.mk r3.1 r3.2.1) v13) (some 0))) fun (r14 : Int) =>
      cond ((decide ((bandI .i64 (shrI .i64 v10 (IntKind.u64.wrap v13)) 1) = 0)) && (decide ((bclrI .u16 r14 (IntKind.u16.wrap v10)) = 0)))
        (bd (ix ways12 (borI .i64 v10 (shlI .i64 1 (IntKind.u64.wrap v13)))) fun (x15 : Int) =>
        bd (ix ways12 v10) fun (x16 : Int) =>
        ck (ok64 (x15 + x16)) <|
        bd (ix ways12 (borI .i64 v10 (shlI .i64 1 (IntKind.u64.wrap v13)))) fun (x18 : Int) =>
        ck (ok64 (v13 + 1)) <|
        some (.inl ((ways12.set (borI .i64 v10 (shlI .i64 1 (IntKind.u64.wrap v13))).toNat (x15 + x16)), (v13 + 1))))
        (ck (ok64 (v13 + 1)) <|
        some (.inl (ways12, (v13 + 1)))))
      (some (.inr ways12))

def order_Count_L25 (N : Nat) (r3 : (Int × (List Int) × Int)) : ((List Int) × Int) → Option (((List Int) × Int) ⊕ (List Int))
  | (ways9, v10) =>
    cond (decide (v10 < (((List.replicate (shlI .i64 1 (IntKind.u64.wrap r3.1)).toNat (0 : Int))).length : Int)))
      (bd (α := (List Int)) (iter (order_Count_L27 N r3 v10) N (ways9, 0)) <|
      fun (ways11 : (List Int)) => 
        ck (ok64 (v10 + 1)) <|
        some (.inl (ways11, (v10 + 1))))
      (some (.inr ways9))

def order_Count (N : Nat) (r1 : Rel) : Option (Int × Int) :=
  bd (order_acyclic N r1) fun (r3 : (Int × (List Int) × Int)) =>
  cond (!(decide (r3.2.2 = 0)))
    (some (0, r3.2.2))
    (ck (mkB 8 (shlI .i64 1 (IntKind.u64.wrap r3.1))) <|
    bd (ix (List.replicate (shlI .i64 1 (IntKind.u64.wrap r3.1)).toNat (0 : Int)) 0) fun (x7 : Int) =>
    bd (α := (List Int)) (iter (order_Count_L25 N r3) N (((List.replicate (shlI .i64 1 (IntKind.u64.wrap r3.1)).toNat (0 : Int)).set (0 : Int).toNat 1), 0)) <|
    fun (ways8 : (List Int)) => 
      ck (ok64 (((ways8).length : Int) - 1)) <|
      bd (ix ways8 (((ways8).length : Int) - 1)) fun (x23 : Int) =>
      some (x23, 0))

theorem order_Count_ok {N : Nat} {r1 : Rel} {res : (Int × Int)} (hF : order_Count N r1 = some res) (w : World) :
    Pure Try.prog 17 [.agg (encRel r1).toArray] w (.tuple #[.int .i64 res.1, .int .i64 res.2]) := by
  refine W.enter (n := 71) Try.func17 rfl rfl Sub.refl (by simp) (St.start w) fun R hR => ?_
  unfold order_Count at hF
  -- region 0: order.go:96
  refine W.seqR fun Q1 hQ1 => ?_
  refine WL.step (WO.boxA (.pl rfl) rfl fun b2 => ?_)
  refine WL.q (Y.assign (.pl rfl)) rfl ?_
  refine WL.q (Y.assign (.pl rfl)) rfl ?_
  refine WL.next hQ1 (.cons (i := 1) rfl (.nil)) ?_
  -- region 1: order.go:97
  refine W.seqR fun Q2 hQ2 => ?_
  refine WL.q (Y.loadBA (ds := (encRel r1)) Try.underlying25 rfl cells25 (.pl rfl) (i := 0) rfl rfl subW) rfl ?_
  obtain ⟨r3, hr3, hF⟩ := bnd hF
  refine WL.step (WO.callP isGo40 (.cons (.pl rfl) (.nil)) rfl (fun w hw => order_acyclic_ok (hr3) w ) ?_)
  refine WL.q (Y.move (.pl rfl)) rfl ?_
  refine WL.q (Y.extract (.pl rfl) rfl) rfl ?_
  refine WL.q (Y.extract (.pl rfl) rfl) rfl ?_
  refine WL.step (WO.alloc (cs := (encRel (Rel.mk 0 [])).toArray) zero25 rfl rfl fun b4 => ?_)
  refine WL.step (WO.storeBA (ds := (encRel (Rel.mk r3.1 r3.2.1))) (cs' := (encRel (Rel.mk r3.1 r3.2.1))) cells25 (.pl rfl) (.pl rfl) rfl (oneRel _) (i := 0) rfl (lel (o := 0) (l := 13) (m := 13) (by decide) rfl rfl) (putW rfl) ?_)
  refine WL.q (Y.assign (.pl rfl)) rfl ?_
  refine WL.next hQ2 (.cons (i := 4) rfl (.cons (i := 5) rfl (.nil))) ?_
  refine W.seq fun K3 hK3 => ?_
  -- region 2: order.go:98
  refine W.seqR fun Q4 hQ4 => ?_
  refine WL.q (Y.move (.pl rfl)) rfl ?_
  refine WL.q (Y.neq (.pl rfl) (.pl rfl)) rfl ?_
  refine WL.next hQ4 (.cons (i := 4) rfl (.cons (i := 5) rfl (.cons (i := 15) rfl (.nil)))) ?_
  refine W.cond (.pl rfl) (fun hC5 => ?_) (fun hC5 => ?_)
  · replace hF := cpos hC5 hF
    -- region 3: order.go:99
    refine W.seqR fun Q6 hQ6 => ?_
    refine WL.q (Y.move (.pl rfl)) rfl ?_
    refine WL.q (Y.assign (.pl rfl)) rfl ?_
    refine WL.q (Y.assign (.pl rfl)) rfl ?_
    refine WL.next hQ6 (.cons (i := 2) rfl (.cons (i := 3) rfl (.nil))) ?_
    obtain rfl := Option.some.inj hF
    refine W.retV (fn := Try.f17) (vs := [.int .i64 0, .int .i64 r3.2.2]) Try.results17 ⟨.tmp rfl, ⟨.tmp rfl, trivial⟩⟩ (fun _ _ h => h) (fun w hw => ?_)
    exact hR _ _ ⟨rfl, (hw.pick [] rfl)⟩
  · replace hF := cneg hC5 hF
    refine W.skip ?_
    refine W.go hK3 (.cons (i := 4) rfl (.nil)) ?_
    -- region 4: order.go:101
    refine W.seqR fun Q7 hQ7 => ?_
    refine WL.q (Y.fieldAddr0 (off := 0) (ft := 3) Try.underlying25 rfl cells3 (.pl rfl)) rfl ?_
    refine WL.q (Y.loadB (v := .int .i64 r3.1) Try.underlying3 rfl (.pl rfl) (i := 0) rfl (rfl)) rfl ?_
    refine WL.q (Y.conv Try.underlying3 Try.underlying63 (.pl rfl)) rfl ?_
    refine WL.q (Y.shl (.pl rfl) (.pl rfl) (wrapU_nn rfl _)) rfl ?_
    obtain ⟨hk6, hF⟩ := ckh hF
    refine WL.step (WO.makeC (enc := (eI .i64)) (z := 0) Try.underlying34 mka3 rfl (.pl rfl) (hk6) rfl fun b5 => ?_)
    refine WL.q (Y.assign (.pl rfl)) rfl ?_
    refine WL.next hQ7 (.cons (i := 4) rfl (.cons (i := 6) rfl (.nil))) ?_
    -- region 5: order.go:102
    refine W.seqR fun Q8 hQ8 => ?_
    refine WL.q (Y.move (.pl rfl)) rfl ?_
    obtain ⟨x7, hx7, hF⟩ := bnd hF
    refine WL.q (Y.litEl (xs := (List.replicate (shlI .i64 1 (IntKind.u64.wrap r3.1)).toNat (0 : Int))) Try.underlying34 cells3 (.pl rfl) rfl (.pl rfl) (ix_lt (hx7))) rfl ?_
    refine WL.step (WO.storeS (enc := (eI .i64)) (a := x7) (a' := 1) (idx := 0) (j := 0) cells3 (.pl rfl) (.pl rfl) rfl (fun _ => rfl) (i := 0) rfl (ix_get (hx7)) rfl (by decide) rfl ?_)
    refine WL.next hQ8 (.cons (i := 4) rfl (.cons (i := 6) rfl (.nil))) ?_
    obtain ⟨o9, hF9, hF⟩ := bnd hF
    refine W.join1 (Em := fun (ways8 : (List Int)) => [(6, .slice (some ⟨b5, 0, none⟩) (ways8).length (shlI .i64 1 (IntKind.u64.wrap r3.1)).toNat)]) (M := fun ways8 => [cR (eI .i64) 1 (some ⟨b5, 0, none⟩) (shlI .i64 1 (IntKind.u64.wrap r3.1)).toNat 3 ways8]) (I := fun ways8 => ways8 = o9) (.nil) (fun K10 hK10 => ?_) ?_
    · -- up to
      -- region 6: order.go:103
      refine W.seqR fun Q11 hQ11 => ?_
      refine WL.q (Y.move (.pl rfl)) rfl ?_
      refine WL.q (Y.len Try.underlying34 (.pl rfl)) rfl ?_
      refine WL.q (Y.move (.pl rfl)) rfl ?_
      refine WL.next hQ11 (.cons (i := 4) rfl (.cons (i := 6) rfl (.cons (i := 25) rfl (.cons (i := 26) rfl (.nil))))) ?_
      refine W.block ?_
      refine W.loop2 (Em := fun (ways9 : (List Int)) (v10 : Int) => [(6, .slice (some ⟨b5, 0, none⟩) (ways9).length (shlI .i64 1 (IntKind.u64.wrap r3.1)).toNat), (26, .int .i64 v10)]) (M := fun ways9 v10 => [cBx b4 25 (encRel (Rel.mk r3.1 r3.2.1)), cR (eI .i64) 1 (some ⟨b5, 0, none⟩) (shlI .i64 1 (IntKind.u64.wrap r3.1)).toNat 3 ways9]) (I := fun ways9 v10 k12 => iter (order_Count_L25 N r3) k12 (ways9, v10) = some o9) ((List.replicate (shlI .i64 1 (IntKind.u64.wrap r3.1)).toNat (0 : Int)).set (0 : Int).toNat 1) 0 N (hF9) (.cons (eqSl (by simp)) (.cons rfl (.nil))) (.cons (i := 4) rfl (.cons (i := 25) rfl (.nil))) (fun w hw => hw.pick [1, 0] rfl) (fun ways9 v10 k12 hI K13 hK13 => ?_)
      obtain ⟨k12, t12, rfl, hF12, hN12⟩ := iter_step hI
      -- region 7: order.go:103
      refine W.seqR fun Q14 hQ14 => ?_
      refine WL.q (Y.lss (.pl rfl) (.pl rfl)) rfl ?_
      refine WL.next hQ14 (.cons (i := 4) rfl (.cons (i := 6) rfl (.cons (i := 25) rfl (.cons (i := 26) rfl (.cons (i := 27) rfl (.nil)))))) ?_
      refine W.seq fun K15 hK15 => ?_
      refine W.cond (.pl rfl) (fun hC16 => ?_) (fun hC16 => ?_)
      · replace hF12 := cpos hC16 hF12
        refine W.skip ?_
        refine W.go hK15 (.cons (i := 4) rfl (.cons (i := 6) rfl (.cons (i := 25) rfl (.cons (i := 26) rfl (.nil))))) ?_
        obtain ⟨o17, hF17, hF12⟩ := bnd hF12
        refine W.join1 (Em := fun (ways11 : (List Int)) => [(6, .slice (some ⟨b5, 0, none⟩) (ways11).length (shlI .i64 1 (IntKind.u64.wrap r3.1)).toNat)]) (M := fun ways11 => [cBx b4 25 (encRel (Rel.mk r3.1 r3.2.1)), cR (eI .i64) 1 (some ⟨b5, 0, none⟩) (shlI .i64 1 (IntKind.u64.wrap r3.1)).toNat 3 ways11]) (I := fun ways11 => ways11 = o17) (.cons (i := 4) rfl (.cons (i := 25) rfl (.cons (i := 26) rfl (.nil)))) (fun K18 hK18 => ?_) ?_
        · -- up to
          refine W.block ?_
          -- region 8: order.go:103
          refine W.seqR fun Q19 hQ19 => ?_
          refine WL.q (Y.move (.pl rfl)) rfl ?_
          refine WL.q (Y.assign (.pl rfl)) rfl ?_
          refine WL.next hQ19 (.cons (i := 4) rfl (.cons (i := 6) rfl (.cons (i := 7) rfl (.cons (i := 25) rfl (.cons (i := 26) rfl (.nil)))))) ?_
          -- region 9: order.go:104
          refine W.seqR fun Q20 hQ20 => ?_
          refine WL.q (Y.fieldAddr0 (off := 0) (ft := 3) Try.underlying25 rfl cells3 (.pl rfl)) rfl ?_
          refine WL.q (Y.loadB (v := .int .i64 r3.1) Try.underlying3 rfl (.pl rfl) (i := 0) rfl (rfl)) rfl ?_
          refine WL.q (Y.move (.pl rfl)) rfl ?_
          refine WL.next hQ20 (.cons (i := 4) rfl (.cons (i := 6) rfl (.cons (i := 7) rfl (.cons (i := 25) rfl (.cons (i := 26) rfl (.cons (i := 30) rfl (.cons (i := 31) rfl (.nil)))))))) ?_
          refine W.block ?_
          refine W.loop2 (Em := fun (ways12 : (List Int)) (v13 : Int) => [(6, .slice (some ⟨b5, 0, none⟩) (ways12).length (shlI .i64 1 (IntKind.u64.wrap r3.1)).toNat), (31, .int .i64 v13)]) (M := fun ways12 v13 => [cBx b4 25 (encRel (Rel.mk r3.1 r3.2.1)), cR (eI .i64) 1 (some ⟨b5, 0, none⟩) (shlI .i64 1 (IntKind.u64.wrap r3.1)).toNat 3 ways12]) (I := fun ways12 v13 k21 => iter (order_Count_L27 N r3 v10) k21 (ways12, v13) = some o17) ways9 0 N (hF17) (.cons rfl (.cons rfl (.nil))) (.cons (i := 4) rfl (.cons (i := 7) rfl (.cons (i := 25) rfl (.cons (i := 26) rfl (.cons (i := 30) rfl (.nil)))))) (fun w hw => hw.pick [0, 1] rfl) (fun ways12 v13 k21 hI K22 hK22 => ?_)
          obtain ⟨k21, t21, rfl, hF21, hN21⟩ := iter_step hI
          -- region 10: order.go:104
          refine W.seqR fun Q23 hQ23 => ?_
          refine WL.q (Y.lss (.pl rfl) (.pl rfl)) rfl ?_
          refine WL.next hQ23 (.cons (i := 4) rfl (.cons (i := 6) rfl (.cons (i := 7) rfl (.cons (i := 25) rfl (.cons (i := 26) rfl (.cons (i := 30) rfl (.cons (i := 31) rfl (.cons (i := 32) rfl (.nil))))))))) ?_
          refine W.seq fun K24 hK24 => ?_
          refine W.cond (.pl rfl) (fun hC25 => ?_) (fun hC25 => ?_)
          · replace hF21 := cpos hC25 hF21
            refine W.skip ?_
            refine W.go hK24 (.cons (i := 4) rfl (.cons (i := 6) rfl (.cons (i := 7) rfl (.cons (i := 25) rfl (.cons (i := 26) rfl (.cons (i := 30) rfl (.cons (i := 31) rfl (.nil)))))))) ?_
            refine W.seq fun K26 hK26 => ?_
            refine W.block ?_
            -- region 11: order.go:104
            refine W.seqR fun Q27 hQ27 => ?_
            refine WL.q (Y.move (.pl rfl)) rfl ?_
            refine WL.q (Y.assign (.pl rfl)) rfl ?_
            refine WL.next hQ27 (.cons (i := 4) rfl (.cons (i := 6) rfl (.cons (i := 7) rfl (.cons (i := 8) rfl (.cons (i := 25) rfl (.cons (i := 26) rfl (.cons (i := 30) rfl (.cons (i := 31) rfl (.nil))))))))) ?_
            -- region 12: order.go:105
            refine W.seqR fun Q28 hQ28 => ?_
            refine WL.q (Y.move (.pl rfl)) rfl ?_
            refine WL.q (Y.move (.pl rfl)) rfl ?_
            refine WL.q (Y.conv Try.underlying3 Try.underlying63 (.pl rfl)) rfl ?_
            refine WL.q (Y.shr (.pl rfl) (.pl rfl) (wrapU_nn rfl _)) rfl ?_
            refine WL.q (Y.band (.pl rfl) (.pl rfl)) rfl ?_
            refine WL.q (Y.eql (.pl rfl) (.pl rfl)) rfl ?_
            refine WL.q (Y.move (.pl rfl)) rfl ?_
            refine WL.g (.pl rfl rfl rfl) (fun hg => Y.loadBA (ds := (encRel (Rel.mk r3.1 r3.2.1))) Try.underlying25 rfl cells25 (.pl rfl) (i := 0) rfl rfl subW) rfl ?_
            refine WL.g (.pl rfl rfl rfl) (fun hg => Y.move (.pl rfl)) rfl ?_
            obtain ⟨r14, hr14, hF21⟩ := bnd hF21
            refine WL.gP (.pl rfl rfl rfl) isGo41 (fun hg => (.cons (.gd (hg) rfl) (.cons (.gd (hg) rfl) (.nil)))) rfl (fun hg w hw => order_before_ok (gpos hg hr14) w ) ?_
            refine WL.g (.pl rfl rfl rfl) (fun hg => Y.move (.pl rfl)) rfl ?_
            refine WL.g (.pl rfl rfl rfl) (fun hg => Y.conv Try.underlying3 Try.underlying22 (.gd (hg) rfl)) rfl ?_
            refine WL.g (.pl rfl rfl rfl) (fun hg => Y.bclr (.gd (hg) rfl) (.gd (hg) rfl)) rfl ?_
            refine WL.g (.pl rfl rfl rfl) (fun hg => Y.eql (.gd (hg) rfl) (.pl rfl)) rfl ?_
            refine WL.q (Y.and (.pl rfl) (fun h2 => .gd (eqt h2) rfl)) rfl ?_
            refine WL.next hQ28 (.cons (i := 4) rfl (.cons (i := 6) rfl (.cons (i := 7) rfl (.cons (i := 8) rfl (.cons (i := 25) rfl (.cons (i := 26) rfl (.cons (i := 30) rfl (.cons (i := 31) rfl (.cons (i := 48) rfl (.nil)))))))))) ?_
            refine W.cond (.pl rfl) (fun hC29 => ?_) (fun hC29 => ?_)
            · replace hF21 := cpos hC29 hF21
              -- region 13: order.go:106
              refine W.regT 14 (by kernel_rfl) (by kernel_rfl) ?_
              refine WS.q (Y.move (.pl rfl)) rfl ?_
              refine WS.q (Y.move (.pl rfl)) rfl ?_
              refine WS.q (Y.move (.pl rfl)) rfl ?_
              refine WS.q (Y.conv Try.underlying3 Try.underlying63 (.pl rfl)) rfl ?_
              refine WS.q (Y.shl (.pl rfl) (.pl rfl) (wrapU_nn rfl _)) rfl ?_
              refine WS.q (Y.bor (.pl rfl) (.pl rfl)) rfl ?_
              obtain ⟨x15, hx15, hF21⟩ := bnd hF21
              refine WS.q (Y.litEl (xs := ways12) Try.underlying34 cells3 (.pl rfl) rfl (.pl rfl) (ix_lt (hx15))) rfl ?_
              refine WS.q (Y.loadR (enc := (eI .i64)) (v := .int .i64 x15) (a := x15) (idx := (borI .i64 v10 (shlI .i64 1 (IntKind.u64.wrap v13)))) (j := 0) Try.underlying3 rfl (fun _ => rfl) (i := 1) rfl (.pl rfl) (ix_get (hx15)) rfl rfl) rfl ?_
              refine WS.q (Y.move (.pl rfl)) rfl ?_
              refine WS.q (Y.move (.pl rfl)) rfl ?_
              obtain ⟨x16, hx16, hF21⟩ := bnd hF21
              refine WS.q (Y.litEl (xs := ways12) Try.underlying34 cells3 (.pl rfl) rfl (.pl rfl) (ix_lt (hx16))) rfl ?_
              refine WS.q (Y.loadR (enc := (eI .i64)) (v := .int .i64 x16) (a := x16) (idx := v10) (j := 0) Try.underlying3 rfl (fun _ => rfl) (i := 1) rfl (.pl rfl) (ix_get (hx16)) rfl rfl) rfl ?_
              obtain ⟨hk17, hF21⟩ := ckh hF21
              refine WS.q (Y.add (.pl rfl) (.pl rfl) (ok64_lt (hk17))) rfl ?_
              obtain ⟨x18, hx18, hF21⟩ := bnd hF21
              refine WS.q (Y.litEl (xs := ways12) Try.underlying34 cells3 (.pl rfl) rfl (.pl rfl) (ix_lt (hx18))) rfl ?_
              refine WS.tail ?_
              refine WL.step (WO.storeS (enc := (eI .i64)) (a := x18) (a' := (x15 + x16)) (idx := (borI .i64 v10 (shlI .i64 1 (IntKind.u64.wrap v13)))) (j := 0) cells3 (.pl rfl) (.pl rfl) rfl (fun _ => rfl) (i := 1) rfl (ix_get (hx18)) rfl (by decide) rfl ?_)
              refine WL.nil ?_
              refine W.go hK26 (.cons (i := 4) rfl (.cons (i := 6) rfl (.cons (i := 7) rfl (.cons (i := 25) rfl (.cons (i := 26) rfl (.cons (i := 30) rfl (.cons (i := 31) rfl (.nil)))))))) ?_
              -- region 14: order.go:104
              refine W.reg ?_
              obtain ⟨hk19, hF21⟩ := ckh hF21
              refine WL.q (Y.add (.pl rfl) (.pl rfl) (ok64_lt (hk19))) rfl ?_
              refine WL.q (Y.move (.pl rfl)) rfl ?_
              refine WL.nil ?_
              obtain rfl := Option.some.inj hF21
              exact W.again2 hK22 (ways12.set (borI .i64 v10 (shlI .i64 1 (IntKind.u64.wrap v13))).toNat (x15 + x16)) (v13 + 1) k21 hN21 (Nat.lt_succ_self _) (.cons (eqSl (by simp)) (.cons rfl (.nil))) (.cons (i := 4) rfl (.cons (i := 7) rfl (.cons (i := 25) rfl (.cons (i := 26) rfl (.cons (i := 30) rfl (.nil)))))) (fun w hw => hw.pick [0, 1] rfl)
            · replace hF21 := cneg hC29 hF21
              refine W.skip ?_
              refine W.go hK26 (.cons (i := 4) rfl (.cons (i := 6) rfl (.cons (i := 7) rfl (.cons (i := 25) rfl (.cons (i := 26) rfl (.cons (i := 30) rfl (.cons (i := 31) rfl (.nil)))))))) ?_
              -- region 14: order.go:104
              refine W.reg ?_
              obtain ⟨hk20, hF21⟩ := ckh hF21
              refine WL.q (Y.add (.pl rfl) (.pl rfl) (ok64_lt (hk20))) rfl ?_
              refine WL.q (Y.move (.pl rfl)) rfl ?_
              refine WL.nil ?_
              obtain rfl := Option.some.inj hF21
              exact W.again2 hK22 ways12 (v13 + 1) k21 hN21 (Nat.lt_succ_self _) (.cons rfl (.cons rfl (.nil))) (.cons (i := 4) rfl (.cons (i := 7) rfl (.cons (i := 25) rfl (.cons (i := 26) rfl (.cons (i := 30) rfl (.nil)))))) (fun w hw => hw.pick [0, 1] rfl)
          · replace hF21 := cneg hC25 hF21
            refine W.exit ?_
            obtain rfl := Option.some.inj hF21
            exact W.joinAt1 hK18 ways12 (einr hN21) (.cons rfl (.nil)) (.cons (i := 4) rfl (.cons (i := 25) rfl (.cons (i := 26) rfl (.nil)))) (fun w hw => hw.pick [0, 1] rfl)
        · -- behind
          rintro ways11 rfl
          -- region 15: order.go:103
          refine W.reg ?_
          obtain ⟨hk21, hF12⟩ := ckh hF12
          refine WL.q (Y.add (.pl rfl) (.pl rfl) (ok64_lt (hk21))) rfl ?_
          refine WL.q (Y.move (.pl rfl)) rfl ?_
          refine WL.nil ?_
          obtain rfl := Option.some.inj hF12
          exact W.again2 hK13 ways11 (v10 + 1) k12 hN12 (Nat.lt_succ_self _) (.cons rfl (.cons rfl (.nil))) (.cons (i := 4) rfl (.cons (i := 25) rfl (.nil))) (fun w hw => hw.pick [0, 1] rfl)
      · replace hF12 := cneg hC16 hF12
        refine W.exit ?_
        obtain rfl := Option.some.inj hF12
        exact W.joinAt1 hK10 ways9 (einr hN12) (.cons rfl (.nil)) (.nil) (fun w hw => hw.pick [1] rfl)
    · -- behind
      rintro ways8 rfl
      -- region 16: order.go:110
      refine W.seqR fun Q34 hQ34 => ?_
      refine WL.q (Y.move (.pl rfl)) rfl ?_
      refine WL.q (Y.move (.pl rfl)) rfl ?_
      refine WL.q (Y.len Try.underlying34 (.pl rfl)) rfl ?_
      obtain ⟨hk22, hF⟩ := ckh hF
      refine WL.q (Y.sub (.pl rfl) (.pl rfl) (ok64_lt (hk22))) rfl ?_
      obtain ⟨x23, hx23, hF⟩ := bnd hF
      refine WL.q (Y.litEl (xs := ways8) Try.underlying34 cells3 (.pl rfl) rfl (.pl rfl) (ix_lt (hx23))) rfl ?_
      refine WL.q (Y.loadR (enc := (eI .i64)) (v := .int .i64 x23) (a := x23) (idx := (((ways8).length : Int) - 1)) (j := 0) Try.underlying3 rfl (fun _ => rfl) (i := 0) rfl (.pl rfl) (ix_get (hx23)) rfl rfl) rfl ?_
      refine WL.q (Y.assign (.pl rfl)) rfl ?_
      refine WL.q (Y.assign (.pl rfl)) rfl ?_
      refine WL.next hQ34 (.cons (i := 2) rfl (.cons (i := 3) rfl (.nil))) ?_
      obtain rfl := Option.some.inj hF
      refine W.retV (fn := Try.f17) (vs := [.int .i64 x23, .int .i64 0]) Try.results17 ⟨.tmp rfl, ⟨.tmp rfl, trivial⟩⟩ (fun _ _ h => h) (fun w hw => ?_)
      exact hR _ _ ⟨rfl, (hw.pick [] rfl)⟩

def math_bits_OnesCount16 (N : Nat) (x1 : Int) : Option Int :=
  bd (sx ⟨#[0, 1, 1, 2, 1, 2, 2, 3, 1, 2, 2, 3, 2, 3, 3, 4, 1, 2, 2, 3, 2, 3, 3, 4, 2, 3, 3, 4, 3, 4, 4, 5, 1, 2, 2, 3, 2, 3, 3, 4, 2, 3, 3, 4, 3, 4, 4, 5, 2, 3, 3, 4, 3, 4, 4, 5, 3, 4, 4, 5, 4, 5, 5, 6, 1, 2, 2, 3, 2, 3, 3, 4, 2, 3, 3, 4, 3, 4, 4, 5, 2, 3, 3, 4, 3, 4, 4, 5, 3, 4, 4, 5, 4, 5, 5, 6, 2, 3, 3, 4, 3, 4, 4, 5, 3, 4, 4, 5, 4, 5, 5, 6, 3, 4, 4, 5, 4, 5, 5, 6, 4, 5, 5, 6, 5, 6, 6, 7, 1, 2, 2, 3, 2, 3, 3, 4, 2, 3, 3, 4, 3, 4, 4, 5, 2, 3, 3, 4, 3, 4, 4, 5, 3, 4, 4, 5, 4, 5, 5, 6, 2, 3, 3, 4, 3, 4, 4, 5, 3, 4, 4, 5, 4, 5, 5, 6, 3, 4, 4, 5, 4, 5, 5, 6, 4, 5, 5, 6, 5, 6, 6, 7, 2, 3, 3, 4, 3, 4, 4, 5, 3, 4, 4, 5, 4, 5, 5, 6, 3, 4, 4, 5, 4, 5, 5, 6, 4, 5, 5, 6, 5, 6, 6, 7, 3, 4, 4, 5, 4, 5, 5, 6, 4, 5, 5, 6, 5, 6, 6, 7, 4, 5, 5, 6, 5, 6, 6, 7, 5, 6, 6, 7, 6, 7, 7, 8]⟩ (shrI .u16 x1 8)) fun (x2 : Int) =>
  bd (sx ⟨#[0, 1, 1, 2, 1, 2, 2, 3, 1, 2, 2, 3, 2, 3, 3, 4, 1, 2, 2, 3, 2, 3, 3, 4, 2, 3, 3, 4, 3, 4, 4, 5, 1, 2, 2, 3, 2, 3, 3, 4, 2, 3, 3, 4, 3, 4, 4, 5, 2, 3, 3, 4, 3, 4, 4, 5, 3, 4, 4, 5, 4, 5, 5, 6, 1, 2, 2, 3, 2, 3, 3, 4, 2, 3, 3, 4, 3, 4, 4, 5, 2, 3, 3, 4, 3, 4, 4, 5, 3, 4, 4, 5, 4, 5, 5, 6, 2, 3, 3, 4, 3, 4, 4, 5, 3, 4, 4, 5, 4, 5, 5, 6, 3, 4, 4, 5, 4, 5, 5, 6, 4, 5, 5, 6, 5, 6, 6, 7, 1, 2, 2, 3, 2, 3, 3, 4, 2, 3, 3, 4, 3, 4, 4, 5, 2, 3, 3, 4, 3, 4, 4, 5, 3, 4, 4, 5, 4, 5, 5, 6, 2, 3, 3, 4, 3, 4, 4, 5, 3, 4, 4, 5, 4, 5, 5, 6, 3, 4, 4, 5, 4, 5, 5, 6, 4, 5, 5, 6, 5, 6, 6, 7, 2, 3, 3, 4, 3, 4, 4, 5, 3, 4, 4, 5, 4, 5, 5, 6, 3, 4, 4, 5, 4, 5, 5, 6, 4, 5, 5, 6, 5, 6, 6, 7, 3, 4, 4, 5, 4, 5, 5, 6, 4, 5, 5, 6, 5, 6, 6, 7, 4, 5, 5, 6, 5, 6, 6, 7, 5, 6, 6, 7, 6, 7, 7, 8]⟩ (bandI .u16 x1 255)) fun (x3 : Int) =>
  some (IntKind.i64.wrap (IntKind.u8.wrap (x2 + x3)))

theorem math_bits_OnesCount16_ok {N : Nat} {x1 : Int} {res : Int} (hF : math_bits_OnesCount16 N x1 = some res) (w : World) :
    Pure Try.prog 51 [.int .u16 x1] w (.int .i64 res) := by
  refine W.enter (n := 11) Try.func51 rfl rfl Sub.refl (by simp) (St.start w) fun R hR => ?_
  unfold math_bits_OnesCount16 at hF
  -- region 0: bits.go:130
  refine W.seqR fun Q1 hQ1 => ?_
  refine WL.q (Y.assign (.pl rfl)) rfl ?_
  refine WL.next hQ1 (.cons (i := 0) rfl (.nil)) ?_
  -- region 1: bits.go:131
  refine W.seqD (by kernel_rfl) (by kernel_rfl) fun R2 hR2 => ?_
  refine WD.q (Y.move (.pl rfl)) rfl ?_
  refine WD.q (Y.shr (.pl rfl) (.pl rfl) (by decide)) rfl ?_
  obtain ⟨x2, hx2, hF⟩ := bnd hF
  refine WD.q (Y.sindex Try.underlying9 (.pl rfl) (.pl rfl) (hx2)) rfl ?_
  refine WD.q (Y.move (.pl rfl)) rfl ?_
  refine WD.q (Y.band (.pl rfl) (.pl rfl)) rfl ?_
  obtain ⟨x3, hx3, hF⟩ := bnd hF
  refine WD.q (Y.sindex Try.underlying9 (.pl rfl) (.pl rfl) (hx3)) rfl ?_
  refine WD.q (Y.addW (.pl rfl) (.pl rfl)) rfl ?_
  refine WD.q (Y.conv Try.underlying5 Try.underlying3 (.pl rfl)) rfl ?_
  refine WD.q (Y.assign (.pl rfl)) rfl ?_
  refine WD.next hR2 (.cons (i := 2) rfl (.nil)) ?_
  obtain rfl := Option.some.inj hF
  refine W.retV (fn := Try.f51) (vs := [.int .i64 (IntKind.i64.wrap (IntKind.u8.wrap (x2 + x3)))]) Try.results51 ⟨.tmp rfl, trivial⟩ (fun _ _ h => h) (fun w hw => ?_)
  exact hR _ _ ⟨rfl, (hw.pick [] rfl)⟩

def order_items_L3 (N : Nat) (set1 : Int) : ((List Int) × Int) → Option (((List Int) × Int) ⊕ (List Int))
  | (out7, v8) =>
    cond (decide (v8 < 12))
      (cond (decide ((bandI .u16 (shrI .u16 set1 (IntKind.u64.wrap v8)) 1) = 1))
        (ck (limB 8 ((out7).length + (([v8] : List Int)).length)) <|
        ck (ok64 (v8 + 1)) <|
        some (.inl ((out7 ++ ([v8] : List Int)), (v8 + 1))))
        (ck (ok64 (v8 + 1)) <|
        some (.inl (out7, (v8 + 1)))))
      (some (.inr out7))

def order_items (N : Nat) (set1 : Int) : Option (List Int) :=
  bd (α := (List Int)) (iter (order_items_L3 N set1) N ([], 0)) <|
  fun (out4 : (List Int)) => 
    some out4

theorem order_items_ok {N : Nat} {set1 : Int} {res : (List Int)} (hF : order_items N set1 = some res) (w : World) :
    Made Try.prog 59 [.int .u16 set1] w (fun g : (Option Addr × Nat) => .slice g.1 (res).length g.2) (fun g => [cR (eI .i64) 1 g.1 g.2 3 res]) (fun _ => True) := by
  refine W.enter (n := 20) Try.func59 rfl rfl Sub.refl (by simp) (St.start w) fun R hR => ?_
  unfold order_items at hF
  -- region 0: order.go:153
  refine W.seqR fun Q1 hQ1 => ?_
  refine WL.q (Y.assign (.pl rfl)) rfl ?_
  refine WL.next hQ1 (.cons (i := 0) rfl (.nil)) ?_
  -- region 1: order.go:154
  refine W.seqR fun Q2 hQ2 => ?_
  refine WL.q (Y.assign (.pl rfl)) rfl ?_
  refine WL.next hQ2 (.cons (i := 0) rfl (.cons (i := 3) rfl (.nil))) ?_
  obtain ⟨o3, hF3, hF⟩ := bnd hF
  refine W.join3 (Em := fun (out4 : (List Int)) (A2 : Option Addr) (c3 : Nat) => [(3, .slice A2 (out4).length c3)]) (M := fun out4 A2 c3 => [cR (eI .i64) 1 A2 c3 3 out4]) (I := fun out4 A2 c3 => out4 = o3) (.nil) (fun K4 hK4 => ?_) ?_
  · -- up to
    -- region 2: order.go:155
    refine W.seqR fun Q5 hQ5 => ?_
    refine WL.q (Y.move (.pl rfl)) rfl ?_
    refine WL.next hQ5 (.cons (i := 0) rfl (.cons (i := 3) rfl (.cons (i := 5) rfl (.nil)))) ?_
    refine W.block ?_
    refine W.loop4 (Em := fun (out7 : (List Int)) (v8 : Int) (A5 : Option Addr) (c6 : Nat) => [(3, .slice A5 (out7).length c6), (5, .int .i64 v8)]) (M := fun out7 v8 A5 c6 => [cR (eI .i64) 1 A5 c6 3 out7]) (I := fun out7 v8 A5 c6 k6 => iter (order_items_L3 N set1) k6 (out7, v8) = some o3) [] 0 none 0 N (hF3) (.cons rfl (.cons rfl (.nil))) (.cons (i := 0) rfl (.nil)) (fun w hw => (St.nilR (hw.pick [] rfl) (eI .i64) 1 3).pick [0] rfl) (fun out7 v8 A5 c6 k6 hI K7 hK7 => ?_)
    obtain ⟨k6, t6, rfl, hF6, hN6⟩ := iter_step hI
    -- region 3: order.go:155
    refine W.seqR fun Q8 hQ8 => ?_
    refine WL.q (Y.lss (.pl rfl) (.pl rfl)) rfl ?_
    refine WL.next hQ8 (.cons (i := 0) rfl (.cons (i := 3) rfl (.cons (i := 5) rfl (.cons (i := 6) rfl (.nil))))) ?_
    refine W.seq fun K9 hK9 => ?_
    refine W.cond (.pl rfl) (fun hC10 => ?_) (fun hC10 => ?_)
    · replace hF6 := cpos hC10 hF6
      refine W.skip ?_
      refine W.go hK9 (.cons (i := 0) rfl (.cons (i := 3) rfl (.cons (i := 5) rfl (.nil)))) ?_
      refine W.seq fun K11 hK11 => ?_
      refine W.block ?_
      -- region 4: order.go:155
      refine W.seqR fun Q12 hQ12 => ?_
      refine WL.q (Y.move (.pl rfl)) rfl ?_
      refine WL.q (Y.assign (.pl rfl)) rfl ?_
      refine WL.next hQ12 (.cons (i := 0) rfl (.cons (i := 3) rfl (.cons (i := 4) rfl (.cons (i := 5) rfl (.nil))))) ?_
      -- region 5: order.go:156
      refine W.seqR fun Q13 hQ13 => ?_
      refine WL.q (Y.move (.pl rfl)) rfl ?_
      refine WL.q (Y.move (.pl rfl)) rfl ?_
      refine WL.q (Y.conv Try.underlying3 Try.underlying63 (.pl rfl)) rfl ?_
      refine WL.q (Y.shr (.pl rfl) (.pl rfl) (wrapU_nn rfl _)) rfl ?_
      refine WL.q (Y.band (.pl rfl) (.pl rfl)) rfl ?_
      refine WL.q (Y.eql (.pl rfl) (.pl rfl)) rfl ?_
      refine WL.next hQ13 (.cons (i := 0) rfl (.cons (i := 3) rfl (.cons (i := 4) rfl (.cons (i := 5) rfl (.cons (i := 13) rfl (.nil)))))) ?_
      refine W.cond (.pl rfl) (fun hC14 => ?_) (fun hC14 => ?_)
      · replace hF6 := cpos hC14 hF6
        -- region 6: order.go:157
        refine W.reg ?_
        refine WL.q (Y.move (.pl rfl)) rfl ?_
        refine WL.q (Y.move (.pl rfl)) rfl ?_
        refine WL.step (WO.bsliceC (enc := (eI .i64)) (ys := ([v8] : List Int)) Try.underlying34 bz3 (.cons (.pl rfl) (.nil)) rfl (fun _ => rfl) rfl rfl (by decide) (by decide) rfl fun b9 => ?_)
        obtain ⟨hk12, hF6⟩ := ckh hF6
        refine WL.step (WO.appendC (enc := (eI .i64)) Try.underlying34 ap3 (fun _ => rfl) oneI (.pl rfl) rfl (.pl rfl) (i := 1) rfl (m2 := 0) rfl (hk12) rfl fun A10 c11 => ?_)
        refine WL.q (Y.assign (.pl rfl)) rfl ?_
        refine WL.nil ?_
        refine W.go hK11 (.cons (i := 0) rfl (.cons (i := 3) rfl (.cons (i := 5) rfl (.nil)))) ?_
        -- region 7: order.go:155
        refine W.reg ?_
        obtain ⟨hk13, hF6⟩ := ckh hF6
        refine WL.q (Y.add (.pl rfl) (.pl rfl) (ok64_lt (hk13))) rfl ?_
        refine WL.q (Y.move (.pl rfl)) rfl ?_
        refine WL.nil ?_
        obtain rfl := Option.some.inj hF6
        exact W.again4 hK7 (out7 ++ ([v8] : List Int)) (v8 + 1) A10 c11 k6 hN6 (Nat.lt_succ_self _) (.cons rfl (.cons rfl (.nil))) (.cons (i := 0) rfl (.nil)) (fun w hw => hw.pick [1] rfl)
      · replace hF6 := cneg hC14 hF6
        refine W.skip ?_
        refine W.go hK11 (.cons (i := 0) rfl (.cons (i := 3) rfl (.cons (i := 5) rfl (.nil)))) ?_
        -- region 7: order.go:155
        refine W.reg ?_
        obtain ⟨hk14, hF6⟩ := ckh hF6
        refine WL.q (Y.add (.pl rfl) (.pl rfl) (ok64_lt (hk14))) rfl ?_
        refine WL.q (Y.move (.pl rfl)) rfl ?_
        refine WL.nil ?_
        obtain rfl := Option.some.inj hF6
        exact W.again4 hK7 out7 (v8 + 1) A5 c6 k6 hN6 (Nat.lt_succ_self _) (.cons rfl (.cons rfl (.nil))) (.cons (i := 0) rfl (.nil)) (fun w hw => hw.pick [0] rfl)
    · replace hF6 := cneg hC10 hF6
      refine W.exit ?_
      obtain rfl := Option.some.inj hF6
      exact W.joinAt3 hK4 out7 A5 c6 (einr hN6) (.cons rfl (.nil)) (.nil) (fun w hw => hw.pick [0] rfl)
  · -- behind
    rintro out4 A2 c3 rfl
    -- region 8: order.go:160
    refine W.seqR fun Q18 hQ18 => ?_
    refine WL.q (Y.move (.pl rfl)) rfl ?_
    refine WL.q (Y.assign (.pl rfl)) rfl ?_
    refine WL.next hQ18 (.cons (i := 2) rfl (.nil)) ?_
    obtain rfl := Option.some.inj hF
    refine W.retV (fn := Try.f59) (vs := [.slice A2 (out4).length c3]) Try.results59 ⟨.tmp rfl, trivial⟩ (fun _ _ h => h) (fun w hw => ?_)
    exact hR _ _ ⟨(A2, c3), trivial, rfl, (hw.pick [0] rfl)⟩

def order_apart_L3 (N : Nat) (r4 : (List Int)) (c1 : Rel) (set2 : Int) : Int → Option (Int ⊕ (Unit ⊕ Bool))
  | v7 =>
    cond (decide (v7 < ((r4).length : Int)))
      (bd (ix r4 v7) fun (x8 : Int) =>
      bd (ax 12 0 c1.after x8) fun (x9 : Int) =>
      cond (!(decide ((bandI .u16 x9 set2) = 0)))
        (some (.inr (.inr false)))
        (ck (ok64 (v7 + 1)) <|
        some (.inl (v7 + 1))))
      (some (.inr (.inl ())))

def order_apart (N : Nat) (c1 : Rel) (set2 : Int) : Option Bool :=
  bd (α := (Unit ⊕ Bool)) (bd (order_items N set2) fun (r4 : (List Int)) =>
    iter (order_apart_L3 N r4 c1 set2) N 0) <|
  Sum.elim (fun _ => 
    some true) (fun p => some p)

theorem order_apart_ok {N : Nat} {c1 : Rel} {set2 : Int} {res : Bool} (hF : order_apart N c1 set2 = some res) (w : World) :
    Pure Try.prog 58 [.agg (encRel c1).toArray, .int .u16 set2] w (.bool res) := by
  refine W.enter (n := 22) Try.func58 rfl rfl Sub.refl (by simp) (St.start w) fun R hR => ?_
  unfold order_apart at hF
  -- region 0: order.go:164
  refine W.seqR fun Q1 hQ1 => ?_
  refine WL.step (WO.boxA (.pl rfl) rfl fun b3 => ?_)
  refine WL.q (Y.assign (.pl rfl)) rfl ?_
  refine WL.next hQ1 (.cons (i := 1) rfl (.cons (i := 2) rfl (.nil))) ?_
  obtain ⟨o2, hF2, hF⟩ := bnd hF
  refine W.join0 (Em := []) (M := []) (I := (.inl ()) = o2) (.nil) (fun K3 hK3 => ?_) ?_
  · -- up to
    -- region 1: order.go:165
    refine W.seqR fun Q4 hQ4 => ?_
    refine WL.q (Y.move (.pl rfl)) rfl ?_
    obtain ⟨r4, hr4, hF2⟩ := bnd hF2
    refine WL.step (WO.callM isGo59 (.cons (.pl rfl) (.nil)) rfl (fun w hw => order_items_ok (hr4) w ) ?_)
    rintro ⟨A5, c6⟩ -
    refine WL.q (Y.len Try.underlying34 (.pl rfl)) rfl ?_
    refine WL.q (Y.move (.pl rfl)) rfl ?_
    refine WL.next hQ4 (.cons (i := 1) rfl (.cons (i := 2) rfl (.cons (i := 8) rfl (.cons (i := 9) rfl (.cons (i := 10) rfl (.nil)))))) ?_
    refine W.block ?_
    refine W.loop1 (Em := fun (v7 : Int) => [(10, .int .i64 v7)]) (M := fun v7 => [cBx b3 25 (encRel c1), cR (eI .i64) 1 A5 c6 3 r4]) (I := fun v7 k5 => iter (order_apart_L3 N r4 c1 set2) k5 v7 = some o2) 0 N (hF2) (.cons rfl (.nil)) (.cons (i := 1) rfl (.cons (i := 2) rfl (.cons (i := 8) rfl (.cons (i := 9) rfl (.nil))))) (fun w hw => hw.pick [1, 0] rfl) (fun v7 k5 hI K6 hK6 => ?_)
    obtain ⟨k5, t5, rfl, hF5, hN5⟩ := iter_step hI
    -- region 2: order.go:165
    refine W.seqR fun Q7 hQ7 => ?_
    refine WL.q (Y.lss (.pl rfl) (.pl rfl)) rfl ?_
    refine WL.next hQ7 (.cons (i := 1) rfl (.cons (i := 2) rfl (.cons (i := 8) rfl (.cons (i := 9) rfl (.cons (i := 10) rfl (.cons (i := 11) rfl (.nil))))))) ?_
    refine W.seq fun K8 hK8 => ?_
    refine W.cond (.pl rfl) (fun hC9 => ?_) (fun hC9 => ?_)
    · replace hF5 := cpos hC9 hF5
      refine W.skip ?_
      refine W.go hK8 (.cons (i := 1) rfl (.cons (i := 2) rfl (.cons (i := 8) rfl (.cons (i := 9) rfl (.cons (i := 10) rfl (.nil)))))) ?_
      refine W.seq fun K10 hK10 => ?_
      refine W.block ?_
      -- region 3: order.go:165
      refine W.seqR fun Q11 hQ11 => ?_
      obtain ⟨x8, hx8, hF5⟩ := bnd hF5
      refine WL.q (Y.rowEl Try.underlying34 cells3 (i := 1) rfl (.pl rfl) rfl (.pl rfl) (ix_lt (hx8))) rfl ?_
      refine WL.q (Y.loadR (enc := (eI .i64)) (v := .int .i64 x8) (a := x8) (idx := v7) (j := 0) Try.underlying3 rfl (fun _ => rfl) (i := 1) rfl (.pl rfl) (ix_get (hx8)) rfl rfl) rfl ?_
      refine WL.q (Y.assign (.pl rfl)) rfl ?_
      refine WL.next hQ11 (.cons (i := 1) rfl (.cons (i := 2) rfl (.cons (i := 6) rfl (.cons (i := 8) rfl (.cons (i := 9) rfl (.cons (i := 10) rfl (.nil))))))) ?_
      -- region 4: order.go:166
      refine W.seqR fun Q12 hQ12 => ?_
      refine WL.q (Y.move (.pl rfl)) rfl ?_
      refine WL.q (Y.fieldAddr0 (off := 1) (ft := 23) Try.underlying25 rfl cells23 (.pl rfl)) rfl ?_
      obtain ⟨x9, hx9, hF5⟩ := bnd hF5
      refine WL.q (Y.arrZ Try.underlying23 cells22 (.pl rfl) (.pl rfl) (ax_lt (hx9))) rfl ?_
      refine WL.q (Y.loadB (v := .int .u16 x9) Try.underlying22 rfl (.pl rfl) (i := 0) rfl (cellsA (pre := (Value.int .i64 c1.n :: [])) (off := 1) (post := []) (a := c1.after) (enc := (eI .u16)) (d := 0) (n := 12) (sz := 1) (j := 0) (fun _ => rfl) rfl (ax_nat (hx9)) (ax_get (hx9)) rfl)) rfl ?_
      refine WL.q (Y.move (.pl rfl)) rfl ?_
      refine WL.q (Y.band (.pl rfl) (.pl rfl)) rfl ?_
      refine WL.q (Y.neq (.pl rfl) (.pl rfl)) rfl ?_
      refine WL.next hQ12 (.cons (i := 1) rfl (.cons (i := 2) rfl (.cons (i := 8) rfl (.cons (i := 9) rfl (.cons (i := 10) rfl (.cons (i := 20) rfl (.nil))))))) ?_
      refine W.cond (.pl rfl) (fun hC13 => ?_) (fun hC13 => ?_)
      · replace hF5 := cpos hC13 hF5
        -- region 5: order.go:167
        refine W.seqR fun Q14 hQ14 => ?_
        refine WL.q (Y.assign (.pl rfl)) rfl ?_
        refine WL.next hQ14 (.cons (i := 4) rfl (.nil)) ?_
        obtain rfl := Option.some.inj hF5
        obtain rfl := einr hN5
        obtain rfl := Option.some.inj hF
        refine W.retV (fn := Try.f58) (vs := [.bool false]) Try.results58 ⟨.tmp rfl, trivial⟩ (fun _ _ h => h) (fun w hw => ?_)
        exact hR _ _ ⟨rfl, (hw.pick [] rfl)⟩
      · replace hF5 := cneg hC13 hF5
        refine W.skip ?_
        refine W.go hK10 (.cons (i := 1) rfl (.cons (i := 2) rfl (.cons (i := 8) rfl (.cons (i := 9) rfl (.cons (i := 10) rfl (.nil)))))) ?_
        -- region 6: order.go:165
        refine W.reg ?_
        obtain ⟨hk10, hF5⟩ := ckh hF5
        refine WL.q (Y.add (.pl rfl) (.pl rfl) (ok64_lt (hk10))) rfl ?_
        refine WL.q (Y.move (.pl rfl)) rfl ?_
        refine WL.nil ?_
        obtain rfl := Option.some.inj hF5
        exact W.again1 hK6 (v7 + 1) k5 hN5 (Nat.lt_succ_self _) (.cons rfl (.nil)) (.cons (i := 1) rfl (.cons (i := 2) rfl (.cons (i := 8) rfl (.cons (i := 9) rfl (.nil))))) (fun w hw => hw.pick [0, 1] rfl)
    · replace hF5 := cneg hC9 hF5
      refine W.exit ?_
      obtain rfl := Option.some.inj hF5
      exact W.joinAt0 hK3  (einr hN5) (.nil) (.nil) (fun w hw => hw.pick [] rfl)
  · -- behind
    rintro  rfl
    -- region 7: order.go:170
    refine W.seqR fun Q16 hQ16 => ?_
    refine WL.q (Y.assign (.pl rfl)) rfl ?_
    refine WL.next hQ16 (.cons (i := 4) rfl (.nil)) ?_
    obtain rfl := Option.some.inj hF
    refine W.retV (fn := Try.f58) (vs := [.bool true]) Try.results58 ⟨.tmp rfl, trivial⟩ (fun _ _ h => h) (fun w hw => ?_)
    exact hR _ _ ⟨rfl, (hw.pick [] rfl)⟩

def cmp_isNaN_int (N : Nat) (x1 : Int) : Option Unit :=
  some ()

theorem cmp_isNaN_int_ok {N : Nat} {x1 : Int} {res : Unit} (hF : cmp_isNaN_int N x1 = some res) (w : World) :
    Pure Try.prog 81 [.int .i64 x1] w (.bool (!(decide (x1 = x1)))) := by
  refine W.enter (n := 6) Try.func81 rfl rfl Sub.refl (by simp) (St.start w) fun R hR => ?_
  unfold cmp_isNaN_int at hF
  -- region 0: cmp.go:63
  refine W.seqR fun Q1 hQ1 => ?_
  refine WL.q (Y.assign (.pl rfl)) rfl ?_
  refine WL.next hQ1 (.cons (i := 0) rfl (.nil)) ?_
  -- region 1: cmp.go:64
  refine W.seqR fun Q2 hQ2 => ?_
  refine WL.q (Y.move (.pl rfl)) rfl ?_
  refine WL.q (Y.move (.pl rfl)) rfl ?_
  refine WL.q (Y.neq (.pl rfl) (.pl rfl)) rfl ?_
  refine WL.q (Y.assign (.pl rfl)) rfl ?_
  refine WL.next hQ2 (.cons (i := 2) rfl (.nil)) ?_
  obtain rfl := Option.some.inj hF
  refine W.retV (fn := Try.f81) (vs := [.bool (!(decide (x1 = x1)))]) Try.results81 ⟨.tmp rfl, trivial⟩ (fun _ _ h => h) (fun w hw => ?_)
  exact hR _ _ ⟨rfl, (hw.pick [] rfl)⟩

def cmp_Compare_int (N : Nat) (x1 : Int) (y2 : Int) : Option Int :=
  bd (cmp_isNaN_int N x1) fun (r3 : Unit) =>
  bd (cmp_isNaN_int N y2) fun (r4 : Unit) =>
  cond (!(decide (x1 = x1)))
    (cond (!(decide (y2 = y2)))
      (some 0)
      (some (-1)))
    (cond (!(decide (y2 = y2)))
      (some 1)
      (cond (decide (x1 < y2))
        (some (-1))
        (cond (decide (y2 < x1))
          (some 1)
          (some 0))))

theorem cmp_Compare_int_ok {N : Nat} {x1 : Int} {y2 : Int} {res : Int} (hF : cmp_Compare_int N x1 y2 = some res) (w : World) :
    Pure Try.prog 68 [.int .i64 x1, .int .i64 y2] w (.int .i64 res) := by
  refine W.enter (n := 20) Try.func68 rfl rfl Sub.refl (by simp) (St.start w) fun R hR => ?_
  unfold cmp_Compare_int at hF
  -- region 0: cmp.go:40
  refine W.seqR fun Q1 hQ1 => ?_
  refine WL.q (Y.assign (.pl rfl)) rfl ?_
  refine WL.next hQ1 (.cons (i := 0) rfl (.cons (i := 1) rfl (.nil))) ?_
  -- region 1: cmp.go:41
  refine W.seqR fun Q2 hQ2 => ?_
  refine WL.q (Y.move (.pl rfl)) rfl ?_
  obtain ⟨r3, hr3, hF⟩ := bnd hF
  refine WL.step (WO.callP isGo81 (.cons (.pl rfl) (.nil)) rfl (fun w hw => cmp_isNaN_int_ok (hr3) w ) ?_)
  refine WL.q (Y.assign (.pl rfl)) rfl ?_
  refine WL.next hQ2 (.cons (i := 0) rfl (.cons (i := 1) rfl (.cons (i := 5) rfl (.nil)))) ?_
  -- region 2: cmp.go:42
  refine W.seqR fun Q3 hQ3 => ?_
  refine WL.q (Y.move (.pl rfl)) rfl ?_
  obtain ⟨r4, hr4, hF⟩ := bnd hF
  refine WL.step (WO.callP isGo81 (.cons (.pl rfl) (.nil)) rfl (fun w hw => cmp_isNaN_int_ok (hr4) w ) ?_)
  refine WL.q (Y.assign (.pl rfl)) rfl ?_
  refine WL.next hQ3 (.cons (i := 0) rfl (.cons (i := 1) rfl (.cons (i := 5) rfl (.cons (i := 6) rfl (.nil))))) ?_
  refine W.seq fun K4 hK4 => ?_
  -- region 3: cmp.go:43
  refine W.seqR fun Q5 hQ5 => ?_
  refine WL.q (Y.move (.pl rfl)) rfl ?_
  refine WL.next hQ5 (.cons (i := 0) rfl (.cons (i := 1) rfl (.cons (i := 6) rfl (.cons (i := 11) rfl (.nil))))) ?_
  refine W.cond (.pl rfl) (fun hC6 => ?_) (fun hC6 => ?_)
  · replace hF := cpos hC6 hF
    refine W.seq fun K7 hK7 => ?_
    -- region 4: cmp.go:44
    refine W.seqR fun Q8 hQ8 => ?_
    refine WL.q (Y.move (.pl rfl)) rfl ?_
    refine WL.next hQ8 (.cons (i := 12) rfl (.nil)) ?_
    refine W.cond (.pl rfl) (fun hC9 => ?_) (fun hC9 => ?_)
    · replace hF := cpos hC9 hF
      -- region 5: cmp.go:45
      refine W.seqR fun Q10 hQ10 => ?_
      refine WL.q (Y.assign (.pl rfl)) rfl ?_
      refine WL.next hQ10 (.cons (i := 4) rfl (.nil)) ?_
      obtain rfl := Option.some.inj hF
      refine W.retV (fn := Try.f68) (vs := [.int .i64 0]) Try.results68 ⟨.tmp rfl, trivial⟩ (fun _ _ h => h) (fun w hw => ?_)
      exact hR _ _ ⟨rfl, (hw.pick [] rfl)⟩
    · replace hF := cneg hC9 hF
      refine W.skip ?_
      refine W.go hK7 (.nil) ?_
      -- region 6: cmp.go:47
      refine W.seqR fun Q11 hQ11 => ?_
      refine WL.q (Y.assign (.pl rfl)) rfl ?_
      refine WL.next hQ11 (.cons (i := 4) rfl (.nil)) ?_
      obtain rfl := Option.some.inj hF
      refine W.retV (fn := Try.f68) (vs := [.int .i64 (-1)]) Try.results68 ⟨.tmp rfl, trivial⟩ (fun _ _ h => h) (fun w hw => ?_)
      exact hR _ _ ⟨rfl, (hw.pick [] rfl)⟩
  · replace hF := cneg hC6 hF
    refine W.skip ?_
    refine W.go hK4 (.cons (i := 0) rfl (.cons (i := 1) rfl (.cons (i := 6) rfl (.nil)))) ?_
    refine W.seq fun K12 hK12 => ?_
    -- region 7: cmp.go:49
    refine W.seqR fun Q13 hQ13 => ?_
    refine WL.q (Y.move (.pl rfl)) rfl ?_
    refine WL.next hQ13 (.cons (i := 0) rfl (.cons (i := 1) rfl (.cons (i := 13) rfl (.nil)))) ?_
    refine W.cond (.pl rfl) (fun hC14 => ?_) (fun hC14 => ?_)
    · replace hF := cpos hC14 hF
      -- region 8: cmp.go:50
      refine W.seqR fun Q15 hQ15 => ?_
      refine WL.q (Y.assign (.pl rfl)) rfl ?_
      refine WL.next hQ15 (.cons (i := 4) rfl (.nil)) ?_
      obtain rfl := Option.some.inj hF
      refine W.retV (fn := Try.f68) (vs := [.int .i64 1]) Try.results68 ⟨.tmp rfl, trivial⟩ (fun _ _ h => h) (fun w hw => ?_)
      exact hR _ _ ⟨rfl, (hw.pick [] rfl)⟩
    · replace hF := cneg hC14 hF
      refine W.skip ?_
      refine W.go hK12 (.cons (i := 0) rfl (.cons (i := 1) rfl (.nil))) ?_
      refine W.seq fun K16 hK16 => ?_
      -- region 9: cmp.go:52
      refine W.seqR fun Q17 hQ17 => ?_
      refine WL.q (Y.move (.pl rfl)) rfl ?_
      refine WL.q (Y.move (.pl rfl)) rfl ?_
      refine WL.q (Y.lss (.pl rfl) (.pl rfl)) rfl ?_
      refine WL.next hQ17 (.cons (i := 0) rfl (.cons (i := 1) rfl (.cons (i := 16) rfl (.nil)))) ?_
      refine W.cond (.pl rfl) (fun hC18 => ?_) (fun hC18 => ?_)
      · replace hF := cpos hC18 hF
        -- region 10: cmp.go:53
        refine W.seqR fun Q19 hQ19 => ?_
        refine WL.q (Y.assign (.pl rfl)) rfl ?_
        refine WL.next hQ19 (.cons (i := 4) rfl (.nil)) ?_
        obtain rfl := Option.some.inj hF
        refine W.retV (fn := Try.f68) (vs := [.int .i64 (-1)]) Try.results68 ⟨.tmp rfl, trivial⟩ (fun _ _ h => h) (fun w hw => ?_)
        exact hR _ _ ⟨rfl, (hw.pick [] rfl)⟩
      · replace hF := cneg hC18 hF
        refine W.skip ?_
        refine W.go hK16 (.cons (i := 0) rfl (.cons (i := 1) rfl (.nil))) ?_
        refine W.seq fun K20 hK20 => ?_
        -- region 11: cmp.go:55
        refine W.seqR fun Q21 hQ21 => ?_
        refine WL.q (Y.move (.pl rfl)) rfl ?_
        refine WL.q (Y.move (.pl rfl)) rfl ?_
        refine WL.q (Y.gtr (.pl rfl) (.pl rfl)) rfl ?_
        refine WL.next hQ21 (.cons (i := 19) rfl (.nil)) ?_
        refine W.cond (.pl rfl) (fun hC22 => ?_) (fun hC22 => ?_)
        · replace hF := cpos hC22 hF
          -- region 12: cmp.go:56
          refine W.seqR fun Q23 hQ23 => ?_
          refine WL.q (Y.assign (.pl rfl)) rfl ?_
          refine WL.next hQ23 (.cons (i := 4) rfl (.nil)) ?_
          obtain rfl := Option.some.inj hF
          refine W.retV (fn := Try.f68) (vs := [.int .i64 1]) Try.results68 ⟨.tmp rfl, trivial⟩ (fun _ _ h => h) (fun w hw => ?_)
          exact hR _ _ ⟨rfl, (hw.pick [] rfl)⟩
        · replace hF := cneg hC22 hF
          refine W.skip ?_
          refine W.go hK20 (.nil) ?_
          -- region 13: cmp.go:58
          refine W.seqR fun Q24 hQ24 => ?_
          refine WL.q (Y.assign (.pl rfl)) rfl ?_
          refine WL.next hQ24 (.cons (i := 4) rfl (.nil)) ?_
          obtain rfl := Option.some.inj hF
          refine W.retV (fn := Try.f68) (vs := [.int .i64 0]) Try.results68 ⟨.tmp rfl, trivial⟩ (fun _ _ h => h) (fun w hw => ?_)
          exact hR _ _ ⟨rfl, (hw.pick [] rfl)⟩

def slices_Compare_int_int_L3 (N : Nat) (s11 : (List Int)) (s26 : (List Int)) : Int → Option (Int ⊕ (Unit ⊕ Int))
  | v11 =>
    cond (decide (v11 < ((s11).length : Int)))
      (bd (ix s11 v11) fun (x12 : Int) =>
      cond (decide (((s26).length : Int) ≤ v11))
        (some (.inr (.inr 1)))
        (bd (ix s26 v11) fun (x13 : Int) =>
        bd (cmp_Compare_int N x12 x13) fun (r14 : Int) =>
        cond (!(decide (r14 = 0)))
          (some (.inr (.inr r14)))
          (ck (ok64 (v11 + 1)) <|
          some (.inl (v11 + 1)))))
      (some (.inr (.inl ())))

def slices_Compare_int_int (N : Nat) (s11 : (List Int)) (s26 : (List Int)) : Option Int :=
  bd (α := (Unit ⊕ Int)) (iter (slices_Compare_int_int_L3 N s11 s26) N 0) <|
  Sum.elim (fun _ => 
    cond (decide (((s11).length : Int) < ((s26).length : Int)))
      (some (-1))
      (some 0)) (fun p => some p)

theorem slices_Compare_int_int_ok {N : Nat} {s11 : (List Int)} {s26 : (List Int)} {res : Int} (hF : slices_Compare_int_int N s11 s26 = some res) (w : World) {v5 : Value} (hs4 : SlIn (eI .i64) 1 w v5 s11) {v10 : Value} (hs9 : SlIn (eI .i64) 1 w v10 s26) :
    Pure Try.prog 60 [v5, v10] w (.int .i64 res) := by
  obtain ⟨A2, c3, rfl, hcc3, hs4⟩ := hs4.form
  obtain ⟨A7, c8, rfl, hcc8, hs9⟩ := hs9.form
  refine W.enter (n := 36) Try.func60 rfl rfl Sub.refl (by simp) (St.start w) fun R hR => ?_
  unfold slices_Compare_int_int at hF
  -- region 0: slices.go:57
  refine W.seqR fun Q1 hQ1 => ?_
  refine WL.q (Y.assign (.pl rfl)) rfl ?_
  refine WL.next hQ1 (.cons (i := 0) rfl (.cons (i := 1) rfl (.nil))) ?_
  obtain ⟨o2, hF2, hF⟩ := bnd hF
  refine W.join0 (Em := []) (M := []) (I := (.inl ()) = o2) (.cons (i := 0) rfl (.cons (i := 1) rfl (.nil))) (fun K3 hK3 => ?_) ?_
  · -- up to
    -- region 1: slices.go:58
    refine W.seqR fun Q4 hQ4 => ?_
    refine WL.q (Y.move (.pl rfl)) rfl ?_
    refine WL.q (Y.len Try.underlying34 (.pl rfl)) rfl ?_
    refine WL.q (Y.move (.pl rfl)) rfl ?_
    refine WL.next hQ4 (.cons (i := 0) rfl (.cons (i := 1) rfl (.cons (i := 9) rfl (.cons (i := 10) rfl (.cons (i := 11) rfl (.nil)))))) ?_
    refine W.block ?_
    refine W.loop1 (Em := fun (v11 : Int) => [(11, .int .i64 v11)]) (M := fun v11 => []) (I := fun v11 k5 => iter (slices_Compare_int_int_L3 N s11 s26) k5 v11 = some o2) 0 N (hF2) (.cons rfl (.nil)) (.cons (i := 0) rfl (.cons (i := 1) rfl (.cons (i := 9) rfl (.cons (i := 10) rfl (.nil))))) (fun w hw => hw.pick [] rfl) (fun v11 k5 hI K6 hK6 => ?_)
    obtain ⟨k5, t5, rfl, hF5, hN5⟩ := iter_step hI
    -- region 2: slices.go:58
    refine W.seqR fun Q7 hQ7 => ?_
    refine WL.q (Y.lss (.pl rfl) (.pl rfl)) rfl ?_
    refine WL.next hQ7 (.cons (i := 0) rfl (.cons (i := 1) rfl (.cons (i := 9) rfl (.cons (i := 10) rfl (.cons (i := 11) rfl (.cons (i := 12) rfl (.nil))))))) ?_
    refine W.seq fun K8 hK8 => ?_
    refine W.cond (.pl rfl) (fun hC9 => ?_) (fun hC9 => ?_)
    · replace hF5 := cpos hC9 hF5
      refine W.skip ?_
      refine W.go hK8 (.cons (i := 0) rfl (.cons (i := 1) rfl (.cons (i := 9) rfl (.cons (i := 10) rfl (.cons (i := 11) rfl (.nil)))))) ?_
      refine W.seq fun K10 hK10 => ?_
      refine W.block ?_
      -- region 3: slices.go:58
      refine W.seqR fun Q11 hQ11 => ?_
      refine WL.q (Y.move (.pl rfl)) rfl ?_
      obtain ⟨x12, hx12, hF5⟩ := bnd hF5
      refine WL.q (Y.slEl Try.underlying34 cells3 hs4 (.pl rfl) (.pl rfl) (ix_lt (hx12))) rfl ?_
      refine WL.q (Y.loadS (enc := (eI .i64)) (v := .int .i64 x12) (j := 0) Try.underlying3 rfl hs4 (.pl rfl) (hx12) rfl rfl) rfl ?_
      refine WL.q (Y.assign (.pl rfl)) rfl ?_
      refine WL.q (Y.assign (.pl rfl)) rfl ?_
      refine WL.next hQ11 (.cons (i := 0) rfl (.cons (i := 1) rfl (.cons (i := 5) rfl (.cons (i := 6) rfl (.cons (i := 9) rfl (.cons (i := 10) rfl (.cons (i := 11) rfl (.nil)))))))) ?_
      refine W.seq fun K12 hK12 => ?_
      -- region 4: slices.go:59
      refine W.seqR fun Q13 hQ13 => ?_
      refine WL.q (Y.move (.pl rfl)) rfl ?_
      refine WL.q (Y.move (.pl rfl)) rfl ?_
      refine WL.q (Y.len Try.underlying34 (.pl rfl)) rfl ?_
      refine WL.q (Y.geq (.pl rfl) (.pl rfl)) rfl ?_
      refine WL.next hQ13 (.cons (i := 0) rfl (.cons (i := 1) rfl (.cons (i := 5) rfl (.cons (i := 6) rfl (.cons (i := 9) rfl (.cons (i := 10) rfl (.cons (i := 11) rfl (.cons (i := 19) rfl (.nil))))))))) ?_
      refine W.cond (.pl rfl) (fun hC14 => ?_) (fun hC14 => ?_)
      · replace hF5 := cpos hC14 hF5
        -- region 5: slices.go:60
        refine W.seqR fun Q15 hQ15 => ?_
        refine WL.q (Y.assign (.pl rfl)) rfl ?_
        refine WL.next hQ15 (.cons (i := 4) rfl (.nil)) ?_
        obtain rfl := Option.some.inj hF5
        obtain rfl := einr hN5
        obtain rfl := Option.some.inj hF
        refine W.retV (fn := Try.f60) (vs := [.int .i64 1]) Try.results60 ⟨.tmp rfl, trivial⟩ (fun _ _ h => h) (fun w hw => ?_)
        exact hR _ _ ⟨rfl, (hw.pick [] rfl)⟩
      · replace hF5 := cneg hC14 hF5
        refine W.skip ?_
        refine W.go hK12 (.cons (i := 0) rfl (.cons (i := 1) rfl (.cons (i := 5) rfl (.cons (i := 6) rfl (.cons (i := 9) rfl (.cons (i := 10) rfl (.cons (i := 11) rfl (.nil)))))))) ?_
        -- region 6: slices.go:62
        refine W.seqR fun Q16 hQ16 => ?_
        refine WL.q (Y.move (.pl rfl)) rfl ?_
        refine WL.q (Y.move (.pl rfl)) rfl ?_
        obtain ⟨x13, hx13, hF5⟩ := bnd hF5
        refine WL.q (Y.slEl Try.underlying34 cells3 hs9 (.pl rfl) (.pl rfl) (ix_lt (hx13))) rfl ?_
        refine WL.q (Y.loadS (enc := (eI .i64)) (v := .int .i64 x13) (j := 0) Try.underlying3 rfl hs9 (.pl rfl) (hx13) rfl rfl) rfl ?_
        refine WL.q (Y.assign (.pl rfl)) rfl ?_
        refine WL.next hQ16 (.cons (i := 0) rfl (.cons (i := 1) rfl (.cons (i := 6) rfl (.cons (i := 7) rfl (.cons (i := 9) rfl (.cons (i := 10) rfl (.cons (i := 11) rfl (.nil)))))))) ?_
        -- region 7: slices.go:63
        refine W.seqR fun Q17 hQ17 => ?_
        refine WL.q (Y.move (.pl rfl)) rfl ?_
        refine WL.q (Y.move (.pl rfl)) rfl ?_
        obtain ⟨r14, hr14, hF5⟩ := bnd hF5
        refine WL.step (WO.callP isGo68 (.cons (.pl rfl) (.cons (.pl rfl) (.nil))) rfl (fun w hw => cmp_Compare_int_ok (hr14) w ) ?_)
        refine WL.q (Y.assign (.pl rfl)) rfl ?_
        refine WL.next hQ17 (.cons (i := 0) rfl (.cons (i := 1) rfl (.cons (i := 8) rfl (.cons (i := 9) rfl (.cons (i := 10) rfl (.cons (i := 11) rfl (.nil))))))) ?_
        -- region 8: slices.go:63
        refine W.seqR fun Q18 hQ18 => ?_
        refine WL.q (Y.move (.pl rfl)) rfl ?_
        refine WL.q (Y.neq (.pl rfl) (.pl rfl)) rfl ?_
        refine WL.next hQ18 (.cons (i := 0) rfl (.cons (i := 1) rfl (.cons (i := 8) rfl (.cons (i := 9) rfl (.cons (i := 10) rfl (.cons (i := 11) rfl (.cons (i := 28) rfl (.nil)))))))) ?_
        refine W.cond (.pl rfl) (fun hC19 => ?_) (fun hC19 => ?_)
        · replace hF5 := cpos hC19 hF5
          -- region 9: slices.go:64
          refine W.seqR fun Q20 hQ20 => ?_
          refine WL.q (Y.move (.pl rfl)) rfl ?_
          refine WL.q (Y.assign (.pl rfl)) rfl ?_
          refine WL.next hQ20 (.cons (i := 4) rfl (.nil)) ?_
          obtain rfl := Option.some.inj hF5
          obtain rfl := einr hN5
          obtain rfl := Option.some.inj hF
          refine W.retV (fn := Try.f60) (vs := [.int .i64 r14]) Try.results60 ⟨.tmp rfl, trivial⟩ (fun _ _ h => h) (fun w hw => ?_)
          exact hR _ _ ⟨rfl, (hw.pick [] rfl)⟩
        · replace hF5 := cneg hC19 hF5
          refine W.skip ?_
          refine W.go hK10 (.cons (i := 0) rfl (.cons (i := 1) rfl (.cons (i := 9) rfl (.cons (i := 10) rfl (.cons (i := 11) rfl (.nil)))))) ?_
          -- region 10: slices.go:58
          refine W.reg ?_
          obtain ⟨hk15, hF5⟩ := ckh hF5
          refine WL.q (Y.add (.pl rfl) (.pl rfl) (ok64_lt (hk15))) rfl ?_
          refine WL.q (Y.move (.pl rfl)) rfl ?_
          refine WL.nil ?_
          obtain rfl := Option.some.inj hF5
          exact W.again1 hK6 (v11 + 1) k5 hN5 (Nat.lt_succ_self _) (.cons rfl (.nil)) (.cons (i := 0) rfl (.cons (i := 1) rfl (.cons (i := 9) rfl (.cons (i := 10) rfl (.nil))))) (fun w hw => hw.pick [] rfl)
    · replace hF5 := cneg hC9 hF5
      refine W.exit ?_
      obtain rfl := Option.some.inj hF5
      exact W.joinAt0 hK3  (einr hN5) (.nil) (.cons (i := 0) rfl (.cons (i := 1) rfl (.nil))) (fun w hw => hw.pick [] rfl)
  · -- behind
    rintro  rfl
    refine W.seq fun K22 hK22 => ?_
    -- region 11: slices.go:67
    refine W.seqR fun Q23 hQ23 => ?_
    refine WL.q (Y.move (.pl rfl)) rfl ?_
    refine WL.q (Y.len Try.underlying34 (.pl rfl)) rfl ?_
    refine WL.q (Y.move (.pl rfl)) rfl ?_
    refine WL.q (Y.len Try.underlying34 (.pl rfl)) rfl ?_
    refine WL.q (Y.lss (.pl rfl) (.pl rfl)) rfl ?_
    refine WL.next hQ23 (.cons (i := 35) rfl (.nil)) ?_
    refine W.cond (.pl rfl) (fun hC24 => ?_) (fun hC24 => ?_)
    · replace hF := cpos hC24 hF
      -- region 12: slices.go:68
      refine W.seqR fun Q25 hQ25 => ?_
      refine WL.q (Y.assign (.pl rfl)) rfl ?_
      refine WL.next hQ25 (.cons (i := 4) rfl (.nil)) ?_
      obtain rfl := Option.some.inj hF
      refine W.retV (fn := Try.f60) (vs := [.int .i64 (-1)]) Try.results60 ⟨.tmp rfl, trivial⟩ (fun _ _ h => h) (fun w hw => ?_)
      exact hR _ _ ⟨rfl, (hw.pick [] rfl)⟩
    · replace hF := cneg hC24 hF
      refine W.skip ?_
      refine W.go hK22 (.nil) ?_
      -- region 13: slices.go:70
      refine W.seqR fun Q26 hQ26 => ?_
      refine WL.q (Y.assign (.pl rfl)) rfl ?_
      refine WL.next hQ26 (.cons (i := 4) rfl (.nil)) ?_
      obtain rfl := Option.some.inj hF
      refine W.retV (fn := Try.f60) (vs := [.int .i64 0]) Try.results60 ⟨.tmp rfl, trivial⟩ (fun _ _ h => h) (fun w hw => ?_)
      exact hR _ _ ⟨rfl, (hw.pick [] rfl)⟩

def order_widest_L3 (N : Nat) (c1 : Rel) : ((List Int) × Int) → Option (((List Int) × Int) ⊕ (List Int))
  | (best8, v9) =>
    cond (decide (v9 < (shlI .i64 1 (IntKind.u64.wrap c1.n))))
      (bd (math_bits_OnesCount16 N (IntKind.u16.wrap v9)) fun (r10 : Int) =>
      bd ((cond ((decide (r10 < ((best8).length : Int))) == false) (order_apart N c1 (IntKind.u16.wrap v9)) (some false))) fun (r11 : Bool) =>
      cond ((decide (r10 < ((best8).length : Int))) || (!r11))
        (ck (ok64 (v9 + 1)) <|
        some (.inl (best8, (v9 + 1))))
        (bd (order_items N (IntKind.u16.wrap v9)) fun (r13 : (List Int)) =>
        bd ((cond ((decide (((best8).length : Int) < ((r13).length : Int))) == false) (slices_Compare_int_int N r13 best8) (some 0))) fun (r16 : Int) =>
        cond ((decide (((best8).length : Int) < ((r13).length : Int))) || (decide (r16 < 0)))
          (ck (ok64 (v9 + 1)) <|
          some (.inl (r13, (v9 + 1))))
          (ck (ok64 (v9 + 1)) <|
          some (.inl (best8, (v9 + 1))))))
      (some (.inr best8))

def order_widest (N : Nat) (c1 : Rel) : Option (List Int) :=
  bd (α := (List Int)) (iter (order_widest_L3 N c1) N ([], 0)) <|
  fun (best5 : (List Int)) => 
    some best5

theorem order_widest_ok {N : Nat} {c1 : Rel} {res : (List Int)} (hF : order_widest N c1 = some res) (w : World) :
    Made Try.prog 42 [.agg (encRel c1).toArray] w (fun g : (Option Addr × Nat) => .slice g.1 (res).length g.2) (fun g => [cR (eI .i64) 1 g.1 g.2 3 res]) (fun _ => True) := by
  refine W.enter (n := 43) Try.func42 rfl rfl Sub.refl (by simp) (St.start w) fun R hR => ?_
  unfold order_widest at hF
  -- region 0: order.go:182
  refine W.seqR fun Q1 hQ1 => ?_
  refine WL.step (WO.boxA (.pl rfl) rfl fun b2 => ?_)
  refine WL.q (Y.assign (.pl rfl)) rfl ?_
  refine WL.next hQ1 (.cons (i := 1) rfl (.nil)) ?_
  -- region 1: order.go:183
  refine W.seqR fun Q2 hQ2 => ?_
  refine WL.q (Y.assign (.pl rfl)) rfl ?_
  refine WL.next hQ2 (.cons (i := 1) rfl (.cons (i := 3) rfl (.nil))) ?_
  obtain ⟨o3, hF3, hF⟩ := bnd hF
  refine W.join3 (Em := fun (best5 : (List Int)) (A3 : Option Addr) (c4 : Nat) => [(3, .slice A3 (best5).length c4)]) (M := fun best5 A3 c4 => [cR (eI .i64) 1 A3 c4 3 best5]) (I := fun best5 A3 c4 => best5 = o3) (.nil) (fun K4 hK4 => ?_) ?_
  · -- up to
    -- region 2: order.go:184
    refine W.seqR fun Q5 hQ5 => ?_
    refine WL.q (Y.fieldAddr0 (off := 0) (ft := 3) Try.underlying25 rfl cells3 (.pl rfl)) rfl ?_
    refine WL.q (Y.loadB (v := .int .i64 c1.n) Try.underlying3 rfl (.pl rfl) (i := 0) rfl (rfl)) rfl ?_
    refine WL.q (Y.conv Try.underlying3 Try.underlying63 (.pl rfl)) rfl ?_
    refine WL.q (Y.shl (.pl rfl) (.pl rfl) (wrapU_nn rfl _)) rfl ?_
    refine WL.q (Y.move (.pl rfl)) rfl ?_
    refine WL.next hQ5 (.cons (i := 1) rfl (.cons (i := 3) rfl (.cons (i := 10) rfl (.cons (i := 11) rfl (.nil))))) ?_
    refine W.block ?_
    refine W.loop4 (Em := fun (best8 : (List Int)) (v9 : Int) (A6 : Option Addr) (c7 : Nat) => [(3, .slice A6 (best8).length c7), (11, .int .i64 v9)]) (M := fun best8 v9 A6 c7 => [cBx b2 25 (encRel c1), cR (eI .i64) 1 A6 c7 3 best8]) (I := fun best8 v9 A6 c7 k6 => iter (order_widest_L3 N c1) k6 (best8, v9) = some o3) [] 0 none 0 N (hF3) (.cons rfl (.cons rfl (.nil))) (.cons (i := 1) rfl (.cons (i := 10) rfl (.nil))) (fun w hw => (St.nilR (hw.pick [0] rfl) (eI .i64) 1 3).pick [1, 0] rfl) (fun best8 v9 A6 c7 k6 hI K7 hK7 => ?_)
    obtain ⟨k6, t6, rfl, hF6, hN6⟩ := iter_step hI
    -- region 3: order.go:184
    refine W.seqR fun Q8 hQ8 => ?_
    refine WL.q (Y.lss (.pl rfl) (.pl rfl)) rfl ?_
    refine WL.next hQ8 (.cons (i := 1) rfl (.cons (i := 3) rfl (.cons (i := 10) rfl (.cons (i := 11) rfl (.cons (i := 12) rfl (.nil)))))) ?_
    refine W.seq fun K9 hK9 => ?_
    refine W.cond (.pl rfl) (fun hC10 => ?_) (fun hC10 => ?_)
    · replace hF6 := cpos hC10 hF6
      refine W.skip ?_
      refine W.go hK9 (.cons (i := 1) rfl (.cons (i := 3) rfl (.cons (i := 10) rfl (.cons (i := 11) rfl (.nil))))) ?_
      refine W.seq fun K11 hK11 => ?_
      refine W.block ?_
      -- region 4: order.go:184
      refine W.seqR fun Q12 hQ12 => ?_
      refine WL.q (Y.move (.pl rfl)) rfl ?_
      refine WL.q (Y.assign (.pl rfl)) rfl ?_
      refine WL.next hQ12 (.cons (i := 1) rfl (.cons (i := 3) rfl (.cons (i := 4) rfl (.cons (i := 10) rfl (.cons (i := 11) rfl (.nil)))))) ?_
      -- region 5: order.go:185
      refine W.seqR fun Q13 hQ13 => ?_
      refine WL.q (Y.move (.pl rfl)) rfl ?_
      refine WL.q (Y.conv Try.underlying3 Try.underlying22 (.pl rfl)) rfl ?_
      refine WL.q (Y.assign (.pl rfl)) rfl ?_
      refine WL.next hQ13 (.cons (i := 1) rfl (.cons (i := 3) rfl (.cons (i := 5) rfl (.cons (i := 10) rfl (.cons (i := 11) rfl (.nil)))))) ?_
      refine W.seq fun K14 hK14 => ?_
      -- region 6: order.go:186
      refine W.seqR fun Q15 hQ15 => ?_
      refine WL.q (Y.move (.pl rfl)) rfl ?_
      obtain ⟨r10, hr10, hF6⟩ := bnd hF6
      refine WL.step (WO.callP isGo51 (.cons (.pl rfl) (.nil)) rfl (fun w hw => math_bits_OnesCount16_ok (hr10) w ) ?_)
      refine WL.q (Y.move (.pl rfl)) rfl ?_
      refine WL.q (Y.len Try.underlying34 (.pl rfl)) rfl ?_
      refine WL.q (Y.lss (.pl rfl) (.pl rfl)) rfl ?_
      refine WL.q (Y.move (.pl rfl)) rfl ?_
      refine WL.g (.pl rfl rfl rfl) (fun hg => Y.loadBA (ds := (encRel c1)) Try.underlying25 rfl cells25 (.pl rfl) (i := 0) rfl rfl subW) rfl ?_
      refine WL.g (.pl rfl rfl rfl) (fun hg => Y.move (.pl rfl)) rfl ?_
      obtain ⟨r11, hr11, hF6⟩ := bnd hF6
      refine WL.gP (.pl rfl rfl rfl) isGo58 (fun hg => (.cons (.gd (hg) rfl) (.cons (.gd (hg) rfl) (.nil)))) rfl (fun hg w hw => order_apart_ok (gpos hg hr11) w ) ?_
      refine WL.g (.pl rfl rfl rfl) (fun hg => Y.not (.gd (hg) rfl)) rfl ?_
      refine WL.q (Y.or (.pl rfl) (fun h2 => .gd (eqf h2) rfl)) rfl ?_
      refine WL.next hQ15 (.cons (i := 1) rfl (.cons (i := 3) rfl (.cons (i := 5) rfl (.cons (i := 10) rfl (.cons (i := 11) rfl (.cons (i := 26) rfl (.nil))))))) ?_
      refine W.cond (.pl rfl) (fun hC16 => ?_) (fun hC16 => ?_)
      · replace hF6 := cpos hC16 hF6
        refine W.exit ?_
        refine W.go hK11 (.cons (i := 1) rfl (.cons (i := 3) rfl (.cons (i := 10) rfl (.cons (i := 11) rfl (.nil))))) ?_
        -- region 10: order.go:184
        refine W.reg ?_
        obtain ⟨hk12, hF6⟩ := ckh hF6
        refine WL.q (Y.add (.pl rfl) (.pl rfl) (ok64_lt (hk12))) rfl ?_
        refine WL.q (Y.move (.pl rfl)) rfl ?_
        refine WL.nil ?_
        obtain rfl := Option.some.inj hF6
        exact W.again4 hK7 best8 (v9 + 1) A6 c7 k6 hN6 (Nat.lt_succ_self _) (.cons rfl (.cons rfl (.nil))) (.cons (i := 1) rfl (.cons (i := 10) rfl (.nil))) (fun w hw => hw.pick [0, 1] rfl)
      · replace hF6 := cneg hC16 hF6
        refine W.skip ?_
        refine W.go hK14 (.cons (i := 1) rfl (.cons (i := 3) rfl (.cons (i := 5) rfl (.cons (i := 10) rfl (.cons (i := 11) rfl (.nil)))))) ?_
        -- region 7: order.go:189
        refine W.seqR fun Q18 hQ18 => ?_
        refine WL.q (Y.move (.pl rfl)) rfl ?_
        obtain ⟨r13, hr13, hF6⟩ := bnd hF6
        refine WL.step (WO.callM isGo59 (.cons (.pl rfl) (.nil)) rfl (fun w hw => order_items_ok (hr13) w ) ?_)
        rintro ⟨A14, c15⟩ -
        refine WL.q (Y.assign (.pl rfl)) rfl ?_
        refine WL.next hQ18 (.cons (i := 1) rfl (.cons (i := 3) rfl (.cons (i := 6) rfl (.cons (i := 10) rfl (.cons (i := 11) rfl (.nil)))))) ?_
        -- region 8: order.go:189
        refine W.seqR fun Q19 hQ19 => ?_
        refine WL.q (Y.move (.pl rfl)) rfl ?_
        refine WL.q (Y.len Try.underlying34 (.pl rfl)) rfl ?_
        refine WL.q (Y.move (.pl rfl)) rfl ?_
        refine WL.q (Y.len Try.underlying34 (.pl rfl)) rfl ?_
        refine WL.q (Y.gtr (.pl rfl) (.pl rfl)) rfl ?_
        refine WL.q (Y.move (.pl rfl)) rfl ?_
        refine WL.g (.pl rfl rfl rfl) (fun hg => Y.move (.pl rfl)) rfl ?_
        refine WL.g (.pl rfl rfl rfl) (fun hg => Y.move (.pl rfl)) rfl ?_
        obtain ⟨r16, hr16, hF6⟩ := bnd hF6
        refine WL.gP (.pl rfl rfl rfl) isGo60 (fun hg => (.cons (.gd (hg) rfl) (.cons (.gd (hg) rfl) (.nil)))) rfl (fun hg w hw => slices_Compare_int_int_ok (gpos hg hr16) w (SlIn.ofRow (fun _ => rfl) hw (i := 0) rfl) (SlIn.ofRow (fun _ => rfl) hw (i := 2) rfl)) ?_
        refine WL.g (.pl rfl rfl rfl) (fun hg => Y.lss (.gd (hg) rfl) (.pl rfl)) rfl ?_
        refine WL.q (Y.or (.pl rfl) (fun h2 => .gd (eqf h2) rfl)) rfl ?_
        refine WL.next hQ19 (.cons (i := 1) rfl (.cons (i := 3) rfl (.cons (i := 6) rfl (.cons (i := 10) rfl (.cons (i := 11) rfl (.cons (i := 39) rfl (.nil))))))) ?_
        refine W.cond (.pl rfl) (fun hC20 => ?_) (fun hC20 => ?_)
        · replace hF6 := cpos hC20 hF6
          -- region 9: order.go:190
          refine W.reg ?_
          refine WL.q (Y.move (.pl rfl)) rfl ?_
          refine WL.q (Y.assign (.pl rfl)) rfl ?_
          refine WL.nil ?_
          refine W.go hK11 (.cons (i := 1) rfl (.cons (i := 3) rfl (.cons (i := 10) rfl (.cons (i := 11) rfl (.nil))))) ?_
          -- region 10: order.go:184
          refine W.reg ?_
          obtain ⟨hk17, hF6⟩ := ckh hF6
          refine WL.q (Y.add (.pl rfl) (.pl rfl) (ok64_lt (hk17))) rfl ?_
          refine WL.q (Y.move (.pl rfl)) rfl ?_
          refine WL.nil ?_
          obtain rfl := Option.some.inj hF6
          exact W.again4 hK7 r13 (v9 + 1) A14 c15 k6 hN6 (Nat.lt_succ_self _) (.cons rfl (.cons rfl (.nil))) (.cons (i := 1) rfl (.cons (i := 10) rfl (.nil))) (fun w hw => hw.pick [1, 0] rfl)
        · replace hF6 := cneg hC20 hF6
          refine W.skip ?_
          refine W.go hK11 (.cons (i := 1) rfl (.cons (i := 3) rfl (.cons (i := 10) rfl (.cons (i := 11) rfl (.nil))))) ?_
          -- region 10: order.go:184
          refine W.reg ?_
          obtain ⟨hk18, hF6⟩ := ckh hF6
          refine WL.q (Y.add (.pl rfl) (.pl rfl) (ok64_lt (hk18))) rfl ?_
          refine WL.q (Y.move (.pl rfl)) rfl ?_
          refine WL.nil ?_
          obtain rfl := Option.some.inj hF6
          exact W.again4 hK7 best8 (v9 + 1) A6 c7 k6 hN6 (Nat.lt_succ_self _) (.cons rfl (.cons rfl (.nil))) (.cons (i := 1) rfl (.cons (i := 10) rfl (.nil))) (fun w hw => hw.pick [1, 2] rfl)
    · replace hF6 := cneg hC10 hF6
      refine W.exit ?_
      obtain rfl := Option.some.inj hF6
      exact W.joinAt3 hK4 best8 A6 c7 (einr hN6) (.cons rfl (.nil)) (.nil) (fun w hw => hw.pick [1] rfl)
  · -- behind
    rintro best5 A3 c4 rfl
    -- region 11: order.go:193
    refine W.seqR fun Q24 hQ24 => ?_
    refine WL.q (Y.move (.pl rfl)) rfl ?_
    refine WL.q (Y.assign (.pl rfl)) rfl ?_
    refine WL.next hQ24 (.cons (i := 2) rfl (.nil)) ?_
    obtain rfl := Option.some.inj hF
    refine W.retV (fn := Try.f42) (vs := [.slice A3 (best5).length c4]) Try.results42 ⟨.tmp rfl, trivial⟩ (fun _ _ h => h) (fun w hw => ?_)
    exact hR _ _ ⟨(A3, c4), trivial, rfl, (hw.pick [0] rfl)⟩

def order_Apart (N : Nat) (r1 : Rel) : Option ((List Int) × Int) :=
  bd (order_acyclic N r1) fun (r3 : (Int × (List Int) × Int)) =>
  cond (!(decide (r3.2.2 = 0)))
    (some ([], r3.2.2))
    (bd (order_widest N (Rel.mk r3.1 r3.2.1)) fun (r5 : (List Int)) =>
    some (r5, 0))

theorem order_Apart_ok {N : Nat} {r1 : Rel} {res : ((List Int) × Int)} (hF : order_Apart N r1 = some res) (w : World) :
    Made Try.prog 18 [.agg (encRel r1).toArray] w (fun g : (Option Addr × Nat) => .tuple #[.slice g.1 (res.1).length g.2, .int .i64 res.2]) (fun g => [cR (eI .i64) 1 g.1 g.2 3 res.1]) (fun _ => True) := by
  refine W.enter (n := 16) Try.func18 rfl rfl Sub.refl (by simp) (St.start w) fun R hR => ?_
  unfold order_Apart at hF
  -- region 0: order.go:174
  refine W.seqR fun Q1 hQ1 => ?_
  refine WL.step (WO.boxA (.pl rfl) rfl fun b2 => ?_)
  refine WL.q (Y.assign (.pl rfl)) rfl ?_
  refine WL.q (Y.assign (.pl rfl)) rfl ?_
  refine WL.next hQ1 (.cons (i := 1) rfl (.nil)) ?_
  -- region 1: order.go:175
  refine W.seqR fun Q2 hQ2 => ?_
  refine WL.q (Y.loadBA (ds := (encRel r1)) Try.underlying25 rfl cells25 (.pl rfl) (i := 0) rfl rfl subW) rfl ?_
  obtain ⟨r3, hr3, hF⟩ := bnd hF
  refine WL.step (WO.callP isGo40 (.cons (.pl rfl) (.nil)) rfl (fun w hw => order_acyclic_ok (hr3) w ) ?_)
  refine WL.q (Y.move (.pl rfl)) rfl ?_
  refine WL.q (Y.extract (.pl rfl) rfl) rfl ?_
  refine WL.q (Y.extract (.pl rfl) rfl) rfl ?_
  refine WL.step (WO.alloc (cs := (encRel (Rel.mk 0 [])).toArray) zero25 rfl rfl fun b4 => ?_)
  refine WL.step (WO.storeBA (ds := (encRel (Rel.mk r3.1 r3.2.1))) (cs' := (encRel (Rel.mk r3.1 r3.2.1))) cells25 (.pl rfl) (.pl rfl) rfl (oneRel _) (i := 0) rfl (lel (o := 0) (l := 13) (m := 13) (by decide) rfl rfl) (putW rfl) ?_)
  refine WL.q (Y.assign (.pl rfl)) rfl ?_
  refine WL.next hQ2 (.cons (i := 4) rfl (.cons (i := 5) rfl (.nil))) ?_
  refine W.seq fun K3 hK3 => ?_
  -- region 2: order.go:176
  refine W.seqR fun Q4 hQ4 => ?_
  refine WL.q (Y.move (.pl rfl)) rfl ?_
  refine WL.q (Y.neq (.pl rfl) (.pl rfl)) rfl ?_
  refine WL.next hQ4 (.cons (i := 4) rfl (.cons (i := 5) rfl (.cons (i := 12) rfl (.nil)))) ?_
  refine W.cond (.pl rfl) (fun hC5 => ?_) (fun hC5 => ?_)
  · replace hF := cpos hC5 hF
    -- region 3: order.go:177
    refine W.seqR fun Q6 hQ6 => ?_
    refine WL.q (Y.move (.pl rfl)) rfl ?_
    refine WL.q (Y.assign (.pl rfl)) rfl ?_
    refine WL.q (Y.assign (.pl rfl)) rfl ?_
    refine WL.next hQ6 (.cons (i := 2) rfl (.cons (i := 3) rfl (.nil))) ?_
    obtain rfl := Option.some.inj hF
    refine W.retV (fn := Try.f18) (vs := [.slice none 0 0, .int .i64 r3.2.2]) Try.results18 ⟨.tmp rfl, ⟨.tmp rfl, trivial⟩⟩ (fun _ _ h => h) (fun w hw => ?_)
    exact hR _ _ ⟨(none, 0), trivial, rfl, ((St.nilR (hw.pick [] rfl) (eI .i64) 1 3).pick [0] rfl)⟩
  · replace hF := cneg hC5 hF
    refine W.skip ?_
    refine W.go hK3 (.cons (i := 4) rfl (.nil)) ?_
    -- region 4: order.go:179
    refine W.seqR fun Q7 hQ7 => ?_
    refine WL.q (Y.loadBA (ds := (encRel (Rel.mk r3.1 r3.2.1))) Try.underlying25 rfl cells25 (.pl rfl) (i := 0) rfl rfl subW) rfl ?_
    obtain ⟨r5, hr5, hF⟩ := bnd hF
    refine WL.step (WO.callM isGo42 (.cons (.pl rfl) (.nil)) rfl (fun w hw => order_widest_ok (hr5) w ) ?_)
    rintro ⟨A6, c7⟩ -
    refine WL.q (Y.assign (.pl rfl)) rfl ?_
    refine WL.q (Y.assign (.pl rfl)) rfl ?_
    refine WL.next hQ7 (.cons (i := 2) rfl (.cons (i := 3) rfl (.nil))) ?_
    obtain rfl := Option.some.inj hF
    refine W.retV (fn := Try.f18) (vs := [.slice A6 (r5).length c7, .int .i64 0]) Try.results18 ⟨.tmp rfl, ⟨.tmp rfl, trivial⟩⟩ (fun _ _ h => h) (fun w hw => ?_)
    exact hR _ _ ⟨(A6, c7), trivial, rfl, (hw.pick [0] rfl)⟩

def order_partition_fits (N : Nat) (c2 : Rel) (most3 : Int) (out6 : (List Int)) (sets9 : (List Int)) (i10 : Int) (set11 : Int) : Option Bool :=
  bd (ax 12 0 c2.after i10) fun (x12 : Int) =>
  bd (order_before N c2 i10) fun (r13 : Int) =>
  some (decide ((bclrI .u16 set11 (borI .u16 x12 r13)) = 0))

theorem order_partition_fits_ok {N : Nat} {c2 : Rel} {most3 : Int} {out6 : (List Int)} {sets9 : (List Int)} {i10 : Int} {set11 : Int} {b1 : Nat} {A4 : Option Addr} {c5 : Nat} {A7 : Option Addr} {c8 : Nat} {res : Bool} (hF : order_partition_fits N c2 most3 out6 sets9 i10 set11 = some res) {w0 w : World} {T : List Chunk} (hw : St w0.heap.size w0 ([cBx b1 73 ((encRel c2) ++ (Value.int .i64 most3 :: (Value.slice A4 (out6).length c5 :: (Value.slice A7 (sets9).length c8 :: [])))), cR (eI .i64) 1 A4 c5 3 out6, cR (eI .u16) 1 A7 c8 22 sets9] ++ T) w) :
    Calls Try.prog 61 (List.toArray [.pointer (some ⟨b1, 0, none⟩), .int .i64 i10, .int .u16 set11]) w (fun e w' => ∃ g : Unit, (True) ∧ e = .returned (.bool res) ∧ St w0.heap.size w0 ([cBx b1 73 ((encRel c2) ++ (Value.int .i64 most3 :: (Value.slice A4 (out6).length c5 :: (Value.slice A7 (sets9).length c8 :: [])))), cR (eI .i64) 1 A4 c5 3 out6, cR (eI .u16) 1 A7 c8 22 sets9] ++ T) w') := by
  refine W.enter (n := 24) Try.func61 rfl rfl Sub.refl (by simp) hw fun R hR => ?_
  unfold order_partition_fits at hF
  -- region 0: order.go:224
  refine W.seqR fun Q1 hQ1 => ?_
  refine WL.q (Y.assign (.pl rfl)) rfl ?_
  refine WL.next hQ1 (.cons (i := 0) rfl (.cons (i := 1) rfl (.cons (i := 2) rfl (.nil)))) ?_
  -- region 1: order.go:225
  refine W.seqD (by kernel_rfl) (by kernel_rfl) fun R2 hR2 => ?_
  refine WD.q (Y.move (.pl rfl)) rfl ?_
  refine WD.q (Y.move (.pl rfl)) rfl ?_
  refine WD.q (Y.move (.pl rfl)) rfl ?_
  refine WD.q (Y.nilCheck (.pl rfl)) rfl ?_
  refine WD.q (Y.fieldAddr0 (off := 0) (ft := 25) Try.underlying73 rfl cells25 (.pl rfl)) rfl ?_
  refine WD.q (Y.fieldAddr0 (off := 1) (ft := 23) Try.underlying25 rfl cells23 (.pl rfl)) rfl ?_
  obtain ⟨x12, hx12, hF⟩ := bnd hF
  refine WD.q (Y.arrZ Try.underlying23 cells22 (.pl rfl) (.pl rfl) (ax_lt (hx12))) rfl ?_
  refine WD.q (Y.loadB (v := .int .u16 x12) Try.underlying22 rfl (.pl rfl) (i := 0) rfl (cellsA (pre := (Value.int .i64 c2.n :: [])) (off := 1) (post := (Value.int .i64 most3 :: (Value.slice A4 (out6).length c5 :: (Value.slice A7 (sets9).length c8 :: [])))) (a := c2.after) (enc := (eI .u16)) (d := 0) (n := 12) (sz := 1) (j := 0) (fun _ => rfl) rfl (ax_nat (hx12)) (ax_get (hx12)) rfl)) rfl ?_
  refine WD.q (Y.move (.pl rfl)) rfl ?_
  refine WD.q (Y.nilCheck (.pl rfl)) rfl ?_
  refine WD.q (Y.fieldAddr0 (off := 0) (ft := 25) Try.underlying73 rfl cells25 (.pl rfl)) rfl ?_
  refine WD.q (Y.loadBA (ds := (encRel c2)) Try.underlying25 rfl cells25 (.pl rfl) (i := 0) rfl rfl (subM (pre := []) (o := 0) rfl)) rfl ?_
  refine WD.q (Y.move (.pl rfl)) rfl ?_
  obtain ⟨r13, hr13, hF⟩ := bnd hF
  refine WD.callP isGo41 (.cons (.pl rfl) (.cons (.pl rfl) (.nil))) rfl (fun w hw => order_before_ok (hr13) w ) ?_
  refine WD.q (Y.bor (.pl rfl) (.pl rfl)) rfl ?_
  refine WD.q (Y.bclr (.pl rfl) (.pl rfl)) rfl ?_
  refine WD.q (Y.eql (.pl rfl) (.pl rfl)) rfl ?_
  refine WD.q (Y.assign (.pl rfl)) rfl ?_
  refine WD.next hR2 (.cons (i := 6) rfl (.nil)) ?_
  obtain rfl := Option.some.inj hF
  refine W.retV (fn := Try.f61) (vs := [.bool (decide ((bclrI .u16 set11 (borI .u16 x12 r13)) = 0))]) Try.results61 ⟨.tmp rfl, trivial⟩ (fun _ _ h => h) (fun w hw => ?_)
  exact hR _ _ ⟨(), trivial, rfl, (hw.pickK 3 [0, 1, 2] rfl)⟩

def order_partition_place_L7 (N : Nat) (self : Rel → Int → (List Int) → (List Int) → Int → Option ((List Int) × (List Int) × Bool)) (sets9 : (List Int)) (most3 : Int) (c2 : Rel) (i10 : Int) : ((List Int) × (List Int) × Int) → Option (((List Int) × (List Int) × Int) ⊕ (((List Int) × (List Int)) ⊕ ((List Int) × (List Int) × Bool)))
  | (out16, sets19, v20) =>
    cond (decide (v20 < (min (((sets9).length : Int) + 1) most3)))
      (bd (α := (List Int)) (cond (decide (v20 = ((sets19).length : Int)))
          (ck (limB 2 ((sets19).length + (([0] : List Int)).length)) <|
          some (sets19 ++ ([0] : List Int)))
          (some sets19)) <|
      fun (sets23 : (List Int)) => 
        bd (α := (((List Int) × (List Int)) ⊕ ((List Int) × (List Int) × Bool))) (bd (ix sets23 v20) fun (x32 : Int) =>
          bd (order_partition_fits N c2 most3 out16 sets23 i10 x32) fun (r33 : Bool) =>
          cond r33
            (bd (ix sets23 v20) fun (x34 : Int) =>
            bd (ix sets23 v20) fun (x35 : Int) =>
            bd (ix out16 i10) fun (x36 : Int) =>
            ck (ok64 (i10 + 1)) <|
            bd (self c2 most3 (out16.set i10.toNat v20) (sets23.set v20.toNat (borI .u16 x34 (shlI .u16 1 (IntKind.u64.wrap i10)))) (i10 + 1)) fun (r38 : ((List Int) × (List Int) × Bool)) =>
            cond r38.2.2
              (some (.inr (r38.1, r38.2.1, true)))
              (bd (ix r38.2.1 v20) fun (x41 : Int) =>
              bd (ix r38.2.1 v20) fun (x42 : Int) =>
              some (.inl (r38.1, (r38.2.1.set v20.toNat (bclrI .u16 x41 (shlI .u16 1 (IntKind.u64.wrap i10))))))))
            (some (.inl (out16, sets23)))) <|
        Sum.elim (fun (out28, sets31) => 
          ck (ok64 (((sets31).length : Int) - 1)) <|
          bd (ix sets31 (((sets31).length : Int) - 1)) fun (x44 : Int) =>
          cond (decide (x44 = 0))
            (ck (ok64 (((sets31).length : Int) - 1)) <|
            ck (slB (sets31).length 0 (((sets31).length : Int) - 1)) <|
            ck (ok64 (v20 + 1)) <|
            some (.inl (out28, (sets31.take (((sets31).length : Int) - 1).toNat), (v20 + 1))))
            (ck (ok64 (v20 + 1)) <|
            some (.inl (out28, sets31, (v20 + 1))))) (fun p => some (.inr (.inr p))))
      (some (.inr (.inl (out16, sets19))))

def order_partition_place_B (N : Nat) (self : Rel → Int → (List Int) → (List Int) → Int → Option ((List Int) × (List Int) × Bool)) (c2 : Rel) (most3 : Int) (out6 : (List Int)) (sets9 : (List Int)) (i10 : Int) : Option ((List Int) × (List Int) × Bool) :=
  cond (decide (i10 = c2.n))
    (some (out6, sets9, true))
    (bd (α := (((List Int) × (List Int)) ⊕ ((List Int) × (List Int) × Bool))) (ck (ok64 (((sets9).length : Int) + 1)) <|
      iter (order_partition_place_L7 N self sets9 most3 c2 i10) N (out6, sets9, 0)) <|
    Sum.elim (fun (out11, sets14) => 
      some (out11, sets14, false)) (fun p => some p))
def order_partition_place (N : Nat) : Nat → Rel → Int → (List Int) → (List Int) → Int → Option ((List Int) × (List Int) × Bool)
  | 0 => fun _ _ _ _ _ => none
  | M + 1 => order_partition_place_B N (order_partition_place N M)

theorem order_partition_place_ok_B {N : Nat} {self : Rel → Int → (List Int) → (List Int) → Int → Option ((List Int) × (List Int) × Bool)} (ih : ∀ {c2 : Rel} {most3 : Int} {out6 : (List Int)} {sets9 : (List Int)} {i10 : Int} {b1 : Nat} {A4 : Option Addr} {c5 : Nat} {A7 : Option Addr} {c8 : Nat} {res : ((List Int) × (List Int) × Bool)} (hF : self c2 most3 out6 sets9 i10 = some res) {w0 w : World} {T : List Chunk} (hw : St w0.heap.size w0 ([cBx b1 73 ((encRel c2) ++ (Value.int .i64 most3 :: (Value.slice A4 (out6).length c5 :: (Value.slice A7 (sets9).length c8 :: [])))), cR (eI .i64) 1 A4 c5 3 out6, cR (eI .u16) 1 A7 c8 22 sets9] ++ T) w), Calls Try.prog 43 (List.toArray [.pointer (some ⟨b1, 0, none⟩), .int .i64 i10]) w (fun e w' => ∃ g : (Option Addr × Nat), (True) ∧ e = .returned (.bool res.2.2) ∧ St w0.heap.size w0 ([cBx b1 73 ((encRel c2) ++ (Value.int .i64 most3 :: (Value.slice A4 (res.1).length c5 :: (Value.slice g.1 (res.2.1).length g.2 :: [])))), cR (eI .i64) 1 A4 c5 3 res.1, cR (eI .u16) 1 g.1 g.2 22 res.2.1] ++ T) w')) {c2 : Rel} {most3 : Int} {out6 : (List Int)} {sets9 : (List Int)} {i10 : Int} {b1 : Nat} {A4 : Option Addr} {c5 : Nat} {A7 : Option Addr} {c8 : Nat} {res : ((List Int) × (List Int) × Bool)} (hF : order_partition_place_B N self c2 most3 out6 sets9 i10 = some res) {w0 w : World} {T : List Chunk} (hw : St w0.heap.size w0 ([cBx b1 73 ((encRel c2) ++ (Value.int .i64 most3 :: (Value.slice A4 (out6).length c5 :: (Value.slice A7 (sets9).length c8 :: [])))), cR (eI .i64) 1 A4 c5 3 out6, cR (eI .u16) 1 A7 c8 22 sets9] ++ T) w) :
    Calls Try.prog 43 (List.toArray [.pointer (some ⟨b1, 0, none⟩), .int .i64 i10]) w (fun e w' => ∃ g : (Option Addr × Nat), (True) ∧ e = .returned (.bool res.2.2) ∧ St w0.heap.size w0 ([cBx b1 73 ((encRel c2) ++ (Value.int .i64 most3 :: (Value.slice A4 (res.1).length c5 :: (Value.slice g.1 (res.2.1).length g.2 :: [])))), cR (eI .i64) 1 A4 c5 3 res.1, cR (eI .u16) 1 g.1 g.2 22 res.2.1] ++ T) w') := by
  refine W.enter (n := 116) Try.func43 rfl rfl Sub.refl (by simp) hw fun R hR => ?_
  unfold order_partition_place_B at hF
  -- region 0: order.go:229
  refine W.seqR fun Q1 hQ1 => ?_
  refine WL.q (Y.assign (.pl rfl)) rfl ?_
  refine WL.next hQ1 (.cons (i := 0) rfl (.cons (i := 1) rfl (.nil))) ?_
  refine W.seq fun K2 hK2 => ?_
  -- region 1: order.go:230
  refine W.seqR fun Q3 hQ3 => ?_
  refine WL.q (Y.move (.pl rfl)) rfl ?_
  refine WL.q (Y.move (.pl rfl)) rfl ?_
  refine WL.q (Y.nilCheck (.pl rfl)) rfl ?_
  refine WL.q (Y.fieldAddr0 (off := 0) (ft := 25) Try.underlying73 rfl cells25 (.pl rfl)) rfl ?_
  refine WL.q (Y.fieldAddr0 (off := 0) (ft := 3) Try.underlying25 rfl cells3 (.pl rfl)) rfl ?_
  refine WL.q (Y.loadB (v := .int .i64 c2.n) Try.underlying3 rfl (.pl rfl) (i := 0) rfl (rfl)) rfl ?_
  refine WL.q (Y.eql (.pl rfl) (.pl rfl)) rfl ?_
  refine WL.next hQ3 (.cons (i := 0) rfl (.cons (i := 1) rfl (.cons (i := 12) rfl (.nil)))) ?_
  refine W.cond (.pl rfl) (fun hC4 => ?_) (fun hC4 => ?_)
  · replace hF := cpos hC4 hF
    -- region 2: order.go:231
    refine W.seqR fun Q5 hQ5 => ?_
    refine WL.q (Y.assign (.pl rfl)) rfl ?_
    refine WL.next hQ5 (.cons (i := 4) rfl (.nil)) ?_
    obtain rfl := Option.some.inj hF
    refine W.retV (fn := Try.f43) (vs := [.bool true]) Try.results43 ⟨.tmp rfl, trivial⟩ (fun _ _ h => h) (fun w hw => ?_)
    exact hR _ _ ⟨(A7, c8), trivial, rfl, (hw.pickK 3 [0, 1, 2] rfl)⟩
  · replace hF := cneg hC4 hF
    refine W.skip ?_
    refine W.go hK2 (.cons (i := 0) rfl (.cons (i := 1) rfl (.nil))) ?_
    obtain ⟨o6, hF6, hF⟩ := bnd hF
    refine W.join4 (Em := fun (out11 : (List Int)) (sets14 : (List Int)) (A12 : Option Addr) (c13 : Nat) => []) (M := fun out11 sets14 A12 c13 => ([cBx b1 73 ((encRel c2) ++ (Value.int .i64 most3 :: (Value.slice A4 (out11).length c5 :: (Value.slice A12 (sets14).length c13 :: [])))), cR (eI .i64) 1 A4 c5 3 out11, cR (eI .u16) 1 A12 c13 22 sets14] ++ T)) (I := fun out11 sets14 A12 c13 => (.inl (out11, sets14)) = o6) (.nil) (fun K7 hK7 => ?_) ?_
    · -- up to
      -- region 3: order.go:233
      refine W.seqD (by kernel_rfl) (by kernel_rfl) fun R8 hR8 => ?_
      refine WD.q (Y.move (.pl rfl)) rfl ?_
      refine WD.q (Y.nilCheck (.pl rfl)) rfl ?_
      refine WD.q (Y.fieldAddr0 (off := 15) (ft := 71) Try.underlying73 rfl cells71 (.pl rfl)) rfl ?_
      refine WD.q (Y.loadB (v := .slice A7 (sets9).length c8) Try.underlying71 rfl (.pl rfl) (i := 0) rfl (rfl)) rfl ?_
      refine WD.q (Y.len Try.underlying71 (.pl rfl)) rfl ?_
      obtain ⟨hk15, hF6⟩ := ckh hF6
      refine WD.q (Y.add (.pl rfl) (.pl rfl) (ok64_lt (hk15))) rfl ?_
      refine WD.q (Y.move (.pl rfl)) rfl ?_
      refine WD.q (Y.nilCheck (.pl rfl)) rfl ?_
      refine WD.q (Y.fieldAddr0 (off := 13) (ft := 3) Try.underlying73 rfl cells3 (.pl rfl)) rfl ?_
      refine WD.q (Y.loadB (v := .int .i64 most3) Try.underlying3 rfl (.pl rfl) (i := 0) rfl (rfl)) rfl ?_
      refine WD.q (Y.min (.pl rfl) (.pl rfl)) rfl ?_
      refine WD.q (Y.move (.pl rfl)) rfl ?_
      refine WD.next hR8 (.cons (i := 0) rfl (.cons (i := 1) rfl (.cons (i := 23) rfl (.cons (i := 24) rfl (.nil))))) ?_
      refine W.block ?_
      refine W.loop5 (Em := fun (out16 : (List Int)) (sets19 : (List Int)) (v20 : Int) (A17 : Option Addr) (c18 : Nat) => [(24, .int .i64 v20)]) (M := fun out16 sets19 v20 A17 c18 => ([cBx b1 73 ((encRel c2) ++ (Value.int .i64 most3 :: (Value.slice A4 (out16).length c5 :: (Value.slice A17 (sets19).length c18 :: [])))), cR (eI .i64) 1 A4 c5 3 out16, cR (eI .u16) 1 A17 c18 22 sets19] ++ T)) (I := fun out16 sets19 v20 A17 c18 k9 => iter (order_partition_place_L7 N self sets9 most3 c2 i10) k9 (out16, sets19, v20) = some o6) out6 sets9 0 A7 c8 N (hF6) (.cons rfl (.nil)) (.cons (i := 0) rfl (.cons (i := 1) rfl (.cons (i := 23) rfl (.nil)))) (fun w hw => hw.pickK 3 [0, 1, 2] rfl) (fun out16 sets19 v20 A17 c18 k9 hI K10 hK10 => ?_)
      obtain ⟨k9, t9, rfl, hF9, hN9⟩ := iter_step hI
      -- region 4: order.go:233
      refine W.seqR fun Q11 hQ11 => ?_
      refine WL.q (Y.lss (.pl rfl) (.pl rfl)) rfl ?_
      refine WL.next hQ11 (.cons (i := 0) rfl (.cons (i := 1) rfl (.cons (i := 23) rfl (.cons (i := 24) rfl (.cons (i := 25) rfl (.nil)))))) ?_
      refine W.seq fun K12 hK12 => ?_
      refine W.cond (.pl rfl) (fun hC13 => ?_) (fun hC13 => ?_)
      · replace hF9 := cpos hC13 hF9
        refine W.skip ?_
        refine W.go hK12 (.cons (i := 0) rfl (.cons (i := 1) rfl (.cons (i := 23) rfl (.cons (i := 24) rfl (.nil))))) ?_
        refine W.seq fun K14 hK14 => ?_
        refine W.block ?_
        -- region 5: order.go:233
        refine W.seqR fun Q15 hQ15 => ?_
        refine WL.q (Y.move (.pl rfl)) rfl ?_
        refine WL.q (Y.assign (.pl rfl)) rfl ?_
        refine WL.next hQ15 (.cons (i := 0) rfl (.cons (i := 1) rfl (.cons (i := 5) rfl (.cons (i := 23) rfl (.cons (i := 24) rfl (.nil)))))) ?_
        obtain ⟨o16, hF16, hF9⟩ := bnd hF9
        refine W.join3 (Em := fun (sets23 : (List Int)) (A21 : Option Addr) (c22 : Nat) => []) (M := fun sets23 A21 c22 => ([cBx b1 73 ((encRel c2) ++ (Value.int .i64 most3 :: (Value.slice A4 (out16).length c5 :: (Value.slice A21 (sets23).length c22 :: [])))), cR (eI .i64) 1 A4 c5 3 out16, cR (eI .u16) 1 A21 c22 22 sets23] ++ T)) (I := fun sets23 A21 c22 => sets23 = o16) (.cons (i := 0) rfl (.cons (i := 1) rfl (.cons (i := 5) rfl (.cons (i := 23) rfl (.cons (i := 24) rfl (.nil)))))) (fun K17 hK17 => ?_) ?_
        · -- up to
          -- region 6: order.go:234
          refine W.seqR fun Q18 hQ18 => ?_
          refine WL.q (Y.move (.pl rfl)) rfl ?_
          refine WL.q (Y.move (.pl rfl)) rfl ?_
          refine WL.q (Y.nilCheck (.pl rfl)) rfl ?_
          refine WL.q (Y.fieldAddr0 (off := 15) (ft := 71) Try.underlying73 rfl cells71 (.pl rfl)) rfl ?_
          refine WL.q (Y.loadB (v := .slice A17 (sets19).length c18) Try.underlying71 rfl (.pl rfl) (i := 0) rfl (rfl)) rfl ?_
          refine WL.q (Y.len Try.underlying71 (.pl rfl)) rfl ?_
          refine WL.q (Y.eql (.pl rfl) (.pl rfl)) rfl ?_
          refine WL.next hQ18 (.cons (i := 0) rfl (.cons (i := 1) rfl (.cons (i := 5) rfl (.cons (i := 23) rfl (.cons (i := 24) rfl (.cons (i := 33) rfl (.nil))))))) ?_
          refine W.cond (.pl rfl) (fun hC19 => ?_) (fun hC19 => ?_)
          · replace hF16 := cpos hC19 hF16
            -- region 7: order.go:235
            refine W.reg ?_
            refine WL.q (Y.move (.pl rfl)) rfl ?_
            refine WL.q (Y.move (.pl rfl)) rfl ?_
            refine WL.q (Y.nilCheck (.pl rfl)) rfl ?_
            refine WL.q (Y.fieldAddr0 (off := 15) (ft := 71) Try.underlying73 rfl cells71 (.pl rfl)) rfl ?_
            refine WL.q (Y.loadB (v := .slice A17 (sets19).length c18) Try.underlying71 rfl (.pl rfl) (i := 0) rfl (rfl)) rfl ?_
            refine WL.step (WO.bsliceC (enc := (eI .u16)) (ys := ([0] : List Int)) Try.underlying71 bz22 (.cons (.pl rfl) (.nil)) rfl (fun _ => rfl) rfl rfl (by decide) (by decide) rfl fun b24 => ?_)
            obtain ⟨hk27, hF16⟩ := ckh hF16
            refine WL.step (WO.appendC (enc := (eI .u16)) Try.underlying71 ap22 (fun _ => rfl) oneI (.pl rfl) rfl (.pl rfl) (i := 3) rfl (m2 := 0) rfl (hk27) rfl fun A25 c26 => ?_)
            refine WL.q (Y.nilCheck (.pl rfl)) rfl ?_
            refine WL.q (Y.fieldAddr0 (off := 15) (ft := 71) Try.underlying73 rfl cells71 (.pl rfl)) rfl ?_
            refine WL.step (WO.storeB (cs' := ((encRel c2) ++ (Value.int .i64 most3 :: (Value.slice A4 (out16).length c5 :: (Value.slice A25 ((sets19 ++ ([0] : List Int))).length c26 :: []))))) cells71 (.pl rfl) (.pl rfl) rfl (i := 1) rfl (ltl (m := 16) (by decide) rfl) (rfl) ?_)
            refine WL.nil ?_
            exact W.joinAt3 hK17 (sets19 ++ ([0] : List Int)) A25 c26 (Option.some.inj hF16) (.nil) (.cons (i := 0) rfl (.cons (i := 1) rfl (.cons (i := 5) rfl (.cons (i := 23) rfl (.cons (i := 24) rfl (.nil)))))) (fun w hw => hw.pickK 4 [1, 2, 3] rfl)
          · replace hF16 := cneg hC19 hF16
            refine W.skip ?_
            exact W.joinAt3 hK17 sets19 A17 c18 (Option.some.inj hF16) (.nil) (.cons (i := 0) rfl (.cons (i := 1) rfl (.cons (i := 5) rfl (.cons (i := 23) rfl (.cons (i := 24) rfl (.nil)))))) (fun w hw => hw.pickK 3 [0, 1, 2] rfl)
        · -- behind
          rintro sets23 A21 c22 rfl
          obtain ⟨o21, hF21, hF9⟩ := bnd hF9
          refine W.join4 (Em := fun (out28 : (List Int)) (sets31 : (List Int)) (A29 : Option Addr) (c30 : Nat) => []) (M := fun out28 sets31 A29 c30 => ([cBx b1 73 ((encRel c2) ++ (Value.int .i64 most3 :: (Value.slice A4 (out28).length c5 :: (Value.slice A29 (sets31).length c30 :: [])))), cR (eI .i64) 1 A4 c5 3 out28, cR (eI .u16) 1 A29 c30 22 sets31] ++ T)) (I := fun out28 sets31 A29 c30 => (.inl (out28, sets31)) = o21) (.cons (i := 0) rfl (.cons (i := 1) rfl (.cons (i := 23) rfl (.cons (i := 24) rfl (.nil))))) (fun K22 hK22 => ?_) ?_
          · -- up to
            -- region 8: order.go:237
            refine W.seqR fun Q23 hQ23 => ?_
            refine WL.q (Y.move (.pl rfl)) rfl ?_
            refine WL.q (Y.move (.pl rfl)) rfl ?_
            refine WL.q (Y.move (.pl rfl)) rfl ?_
            refine WL.q (Y.nilCheck (.pl rfl)) rfl ?_
            refine WL.q (Y.fieldAddr0 (off := 15) (ft := 71) Try.underlying73 rfl cells71 (.pl rfl)) rfl ?_
            refine WL.q (Y.loadB (v := .slice A21 (sets23).length c22) Try.underlying71 rfl (.pl rfl) (i := 0) rfl (rfl)) rfl ?_
            refine WL.q (Y.move (.pl rfl)) rfl ?_
            obtain ⟨x32, hx32, hF21⟩ := bnd hF21
            refine WL.q (Y.rowEl Try.underlying71 cells22 (i := 2) rfl (.pl rfl) rfl (.pl rfl) (ix_lt (hx32))) rfl ?_
            refine WL.q (Y.loadR (enc := (eI .u16)) (v := .int .u16 x32) (a := x32) (idx := v20) (j := 0) Try.underlying22 rfl (fun _ => rfl) (i := 2) rfl (.pl rfl) (ix_get (hx32)) rfl rfl) rfl ?_
            obtain ⟨r33, hr33, hF21⟩ := bnd hF21
            refine WL.step (WO.call (γ := Unit) (fun g => .bool r33) (fun g => ([cBx b1 73 ((encRel c2) ++ (Value.int .i64 most3 :: (Value.slice A4 (out16).length c5 :: (Value.slice A21 (sets23).length c22 :: [])))), cR (eI .i64) 1 A4 c5 3 out16, cR (eI .u16) 1 A21 c22 22 sets23] ++ T)) (fun _ => True) isGo61 (.cons (.pl rfl) (.cons (.pl rfl) (.cons (.pl rfl) (.nil)))) rfl (fun w hw => order_partition_fits_ok (T := ([] ++ T)) (hr33) (hw.pickK 3 [0, 1, 2] rfl) ) ?_)
            rintro _ -
            refine WL.next hQ23 (.cons (i := 0) rfl (.cons (i := 1) rfl (.cons (i := 5) rfl (.cons (i := 23) rfl (.cons (i := 24) rfl (.cons (i := 52) rfl (.nil))))))) ?_
            refine W.cond (.pl rfl) (fun hC24 => ?_) (fun hC24 => ?_)
            · replace hF21 := cpos hC24 hF21
              -- region 9: order.go:238
              refine W.seqR fun Q25 hQ25 => ?_
              refine WL.q (Y.move (.pl rfl)) rfl ?_
              refine WL.q (Y.nilCheck (.pl rfl)) rfl ?_
              refine WL.q (Y.fieldAddr0 (off := 15) (ft := 71) Try.underlying73 rfl cells71 (.pl rfl)) rfl ?_
              refine WL.q (Y.loadB (v := .slice A21 (sets23).length c22) Try.underlying71 rfl (.pl rfl) (i := 0) rfl (rfl)) rfl ?_
              refine WL.q (Y.move (.pl rfl)) rfl ?_
              obtain ⟨x34, hx34, hF21⟩ := bnd hF21
              refine WL.q (Y.rowEl Try.underlying71 cells22 (i := 2) rfl (.pl rfl) rfl (.pl rfl) (ix_lt (hx34))) rfl ?_
              refine WL.q (Y.loadR (enc := (eI .u16)) (v := .int .u16 x34) (a := x34) (idx := v20) (j := 0) Try.underlying22 rfl (fun _ => rfl) (i := 2) rfl (.pl rfl) (ix_get (hx34)) rfl rfl) rfl ?_
              refine WL.q (Y.move (.pl rfl)) rfl ?_
              refine WL.q (Y.conv Try.underlying3 Try.underlying63 (.pl rfl)) rfl ?_
              refine WL.q (Y.shl (.pl rfl) (.pl rfl) (wrapU_nn rfl _)) rfl ?_
              refine WL.q (Y.bor (.pl rfl) (.pl rfl)) rfl ?_
              obtain ⟨x35, hx35, hF21⟩ := bnd hF21
              refine WL.q (Y.rowEl Try.underlying71 cells22 (i := 2) rfl (.pl rfl) rfl (.pl rfl) (ix_lt (hx35))) rfl ?_
              refine WL.step (WO.storeS (enc := (eI .u16)) (a := x35) (a' := (borI .u16 x34 (shlI .u16 1 (IntKind.u64.wrap i10)))) (idx := v20) (j := 0) cells22 (.pl rfl) (.pl rfl) rfl (fun _ => rfl) (i := 2) rfl (ix_get (hx35)) rfl (by decide) rfl ?_)
              refine WL.next hQ25 (.cons (i := 0) rfl (.cons (i := 1) rfl (.cons (i := 5) rfl (.cons (i := 23) rfl (.cons (i := 24) rfl (.nil)))))) ?_
              -- region 10: order.go:239
              refine W.seqR fun Q26 hQ26 => ?_
              refine WL.q (Y.move (.pl rfl)) rfl ?_
              refine WL.q (Y.nilCheck (.pl rfl)) rfl ?_
              refine WL.q (Y.fieldAddr0 (off := 14) (ft := 34) Try.underlying73 rfl cells34 (.pl rfl)) rfl ?_
              refine WL.q (Y.loadB (v := .slice A4 (out16).length c5) Try.underlying34 rfl (.pl rfl) (i := 0) rfl (rfl)) rfl ?_
              refine WL.q (Y.move (.pl rfl)) rfl ?_
              refine WL.q (Y.move (.pl rfl)) rfl ?_
              obtain ⟨x36, hx36, hF21⟩ := bnd hF21
              refine WL.q (Y.rowEl Try.underlying34 cells3 (i := 1) rfl (.pl rfl) rfl (.pl rfl) (ix_lt (hx36))) rfl ?_
              refine WL.step (WO.storeS (enc := (eI .i64)) (a := x36) (a' := v20) (idx := i10) (j := 0) cells3 (.pl rfl) (.pl rfl) rfl (fun _ => rfl) (i := 1) rfl (ix_get (hx36)) rfl (by decide) rfl ?_)
              refine WL.next hQ26 (.cons (i := 0) rfl (.cons (i := 1) rfl (.cons (i := 5) rfl (.cons (i := 23) rfl (.cons (i := 24) rfl (.nil)))))) ?_
              refine W.seq fun K27 hK27 => ?_
              -- region 11: order.go:240
              refine W.seqR fun Q28 hQ28 => ?_
              refine WL.q (Y.move (.pl rfl)) rfl ?_
              refine WL.q (Y.move (.pl rfl)) rfl ?_
              obtain ⟨hk37, hF21⟩ := ckh hF21
              refine WL.q (Y.add (.pl rfl) (.pl rfl) (ok64_lt (hk37))) rfl ?_
              obtain ⟨r38, hr38, hF21⟩ := bnd hF21
              refine WL.step (WO.call (γ := (Option Addr × Nat)) (fun g => .bool r38.2.2) (fun g => ([cBx b1 73 ((encRel c2) ++ (Value.int .i64 most3 :: (Value.slice A4 (r38.1).length c5 :: (Value.slice g.1 (r38.2.1).length g.2 :: [])))), cR (eI .i64) 1 A4 c5 3 r38.1, cR (eI .u16) 1 g.1 g.2 22 r38.2.1] ++ T)) (fun _ => True) isGo43 (.cons (.pl rfl) (.cons (.pl rfl) (.nil))) rfl (fun w hw => ih (T := ([] ++ T)) (b1 := b1) (A4 := A4) (c5 := c5) (A7 := A21) (c8 := c22) (hr38) (St.cong (L := ([cBx b1 73 ((encRel c2) ++ (Value.int .i64 most3 :: (Value.slice A4 (out16).length c5 :: (Value.slice A21 (sets23).length c22 :: [])))), cR (eI .i64) 1 A4 c5 3 (out16.set i10.toNat v20), cR (eI .u16) 1 A21 c22 22 (sets23.set v20.toNat (borI .u16 x34 (shlI .u16 1 (IntKind.u64.wrap i10))))] ++ T)) (hw.pickK 3 [0, 1, 2] rfl) (by simp only [List.length_set, List.nil_append, List.cons_append])) ) ?_)
              rintro ⟨A39, c40⟩ -
              refine WL.next hQ28 (.cons (i := 0) rfl (.cons (i := 1) rfl (.cons (i := 5) rfl (.cons (i := 23) rfl (.cons (i := 24) rfl (.cons (i := 75) rfl (.nil))))))) ?_
              refine W.cond (.pl rfl) (fun hC29 => ?_) (fun hC29 => ?_)
              · replace hF21 := cpos hC29 hF21
                -- region 12: order.go:241
                refine W.seqR fun Q30 hQ30 => ?_
                refine WL.q (Y.assign (.pl rfl)) rfl ?_
                refine WL.next hQ30 (.cons (i := 4) rfl (.nil)) ?_
                obtain rfl := Option.some.inj hF21
                obtain rfl := Option.some.inj hF9
                obtain rfl := einr hN9
                obtain rfl := Option.some.inj hF
                refine W.retV (fn := Try.f43) (vs := [.bool true]) Try.results43 ⟨.tmp rfl, trivial⟩ (fun _ _ h => h) (fun w hw => ?_)
                exact hR _ _ ⟨(A39, c40), trivial, rfl, (hw.pickK 3 [0, 1, 2] rfl)⟩
              · replace hF21 := cneg hC29 hF21
                refine W.skip ?_
                refine W.go hK27 (.cons (i := 0) rfl (.cons (i := 1) rfl (.cons (i := 5) rfl (.cons (i := 23) rfl (.cons (i := 24) rfl (.nil)))))) ?_
                -- region 13: order.go:243
                refine W.reg ?_
                refine WL.q (Y.move (.pl rfl)) rfl ?_
                refine WL.q (Y.nilCheck (.pl rfl)) rfl ?_
                refine WL.q (Y.fieldAddr0 (off := 15) (ft := 71) Try.underlying73 rfl cells71 (.pl rfl)) rfl ?_
                refine WL.q (Y.loadB (v := .slice A39 (r38.2.1).length c40) Try.underlying71 rfl (.pl rfl) (i := 0) rfl (rfl)) rfl ?_
                refine WL.q (Y.move (.pl rfl)) rfl ?_
                obtain ⟨x41, hx41, hF21⟩ := bnd hF21
                refine WL.q (Y.rowEl Try.underlying71 cells22 (i := 2) rfl (.pl rfl) rfl (.pl rfl) (ix_lt (hx41))) rfl ?_
                refine WL.q (Y.loadR (enc := (eI .u16)) (v := .int .u16 x41) (a := x41) (idx := v20) (j := 0) Try.underlying22 rfl (fun _ => rfl) (i := 2) rfl (.pl rfl) (ix_get (hx41)) rfl rfl) rfl ?_
                refine WL.q (Y.move (.pl rfl)) rfl ?_
                refine WL.q (Y.conv Try.underlying3 Try.underlying63 (.pl rfl)) rfl ?_
                refine WL.q (Y.shl (.pl rfl) (.pl rfl) (wrapU_nn rfl _)) rfl ?_
                refine WL.q (Y.bclr (.pl rfl) (.pl rfl)) rfl ?_
                obtain ⟨x42, hx42, hF21⟩ := bnd hF21
                refine WL.q (Y.rowEl Try.underlying71 cells22 (i := 2) rfl (.pl rfl) rfl (.pl rfl) (ix_lt (hx42))) rfl ?_
                refine WL.step (WO.storeS (enc := (eI .u16)) (a := x42) (a' := (bclrI .u16 x41 (shlI .u16 1 (IntKind.u64.wrap i10)))) (idx := v20) (j := 0) cells22 (.pl rfl) (.pl rfl) rfl (fun _ => rfl) (i := 2) rfl (ix_get (hx42)) rfl (by decide) rfl ?_)
                refine WL.nil ?_
                exact W.joinAt4 hK22 r38.1 (r38.2.1.set v20.toNat (bclrI .u16 x41 (shlI .u16 1 (IntKind.u64.wrap i10)))) A39 c40 (Option.some.inj hF21) (.nil) (.cons (i := 0) rfl (.cons (i := 1) rfl (.cons (i := 23) rfl (.cons (i := 24) rfl (.nil))))) (fun w hw => St.cong (L := ([cBx b1 73 ((encRel c2) ++ (Value.int .i64 most3 :: (Value.slice A4 (r38.1).length c5 :: (Value.slice A39 (r38.2.1).length c40 :: [])))), cR (eI .i64) 1 A4 c5 3 r38.1, cR (eI .u16) 1 A39 c40 22 (r38.2.1.set v20.toNat (bclrI .u16 x41 (shlI .u16 1 (IntKind.u64.wrap i10))))] ++ T)) (hw.pickK 3 [0, 1, 2] rfl) (by simp only [List.length_set, List.nil_append, List.cons_append]))
            · replace hF21 := cneg hC24 hF21
              refine W.skip ?_
              exact W.joinAt4 hK22 out16 sets23 A21 c22 (Option.some.inj hF21) (.nil) (.cons (i := 0) rfl (.cons (i := 1) rfl (.cons (i := 23) rfl (.cons (i := 24) rfl (.nil))))) (fun w hw => hw.pickK 3 [0, 1, 2] rfl)
          · -- behind
            rintro out28 sets31 A29 c30 rfl
            -- region 14: order.go:245
            refine W.seqD (by kernel_rfl) (by kernel_rfl) fun R32 hR32 => ?_
            refine WD.q (Y.move (.pl rfl)) rfl ?_
            refine WD.q (Y.nilCheck (.pl rfl)) rfl ?_
            refine WD.q (Y.fieldAddr0 (off := 15) (ft := 71) Try.underlying73 rfl cells71 (.pl rfl)) rfl ?_
            refine WD.q (Y.loadB (v := .slice A29 (sets31).length c30) Try.underlying71 rfl (.pl rfl) (i := 0) rfl (rfl)) rfl ?_
            refine WD.q (Y.move (.pl rfl)) rfl ?_
            refine WD.q (Y.nilCheck (.pl rfl)) rfl ?_
            refine WD.q (Y.fieldAddr0 (off := 15) (ft := 71) Try.underlying73 rfl cells71 (.pl rfl)) rfl ?_
            refine WD.q (Y.loadB (v := .slice A29 (sets31).length c30) Try.underlying71 rfl (.pl rfl) (i := 0) rfl (rfl)) rfl ?_
            refine WD.q (Y.len Try.underlying71 (.pl rfl)) rfl ?_
            obtain ⟨hk43, hF9⟩ := ckh hF9
            refine WD.q (Y.sub (.pl rfl) (.pl rfl) (ok64_lt (hk43))) rfl ?_
            obtain ⟨x44, hx44, hF9⟩ := bnd hF9
            refine WD.q (Y.rowEl Try.underlying71 cells22 (i := 2) rfl (.pl rfl) rfl (.pl rfl) (ix_lt (hx44))) rfl ?_
            refine WD.q (Y.loadR (enc := (eI .u16)) (v := .int .u16 x44) (a := x44) (idx := (((sets31).length : Int) - 1)) (j := 0) Try.underlying22 rfl (fun _ => rfl) (i := 2) rfl (.pl rfl) (ix_get (hx44)) rfl rfl) rfl ?_
            refine WD.q (Y.eql (.pl rfl) (.pl rfl)) rfl ?_
            refine WD.next hR32 (.cons (i := 0) rfl (.cons (i := 1) rfl (.cons (i := 23) rfl (.cons (i := 24) rfl (.cons (i := 100) rfl (.nil)))))) ?_
            refine W.cond (.pl rfl) (fun hC33 => ?_) (fun hC33 => ?_)
            · replace hF9 := cpos hC33 hF9
              -- region 15: order.go:246
              refine W.regT 14 (by kernel_rfl) (by kernel_rfl) ?_
              refine WS.q (Y.move (.pl rfl)) rfl ?_
              refine WS.q (Y.move (.pl rfl)) rfl ?_
              refine WS.q (Y.nilCheck (.pl rfl)) rfl ?_
              refine WS.q (Y.fieldAddr0 (off := 15) (ft := 71) Try.underlying73 rfl cells71 (.pl rfl)) rfl ?_
              refine WS.q (Y.loadB (v := .slice A29 (sets31).length c30) Try.underlying71 rfl (.pl rfl) (i := 0) rfl (rfl)) rfl ?_
              refine WS.q (Y.move (.pl rfl)) rfl ?_
              refine WS.q (Y.nilCheck (.pl rfl)) rfl ?_
              refine WS.q (Y.fieldAddr0 (off := 15) (ft := 71) Try.underlying73 rfl cells71 (.pl rfl)) rfl ?_
              refine WS.q (Y.loadB (v := .slice A29 (sets31).length c30) Try.underlying71 rfl (.pl rfl) (i := 0) rfl (rfl)) rfl ?_
              refine WS.q (Y.len Try.underlying71 (.pl rfl)) rfl ?_
              obtain ⟨hk45, hF9⟩ := ckh hF9
              refine WS.q (Y.sub (.pl rfl) (.pl rfl) (ok64_lt (hk45))) rfl ?_
              obtain ⟨hk46, hF9⟩ := ckh hF9
              refine WS.q (Y.sliceR0 Try.underlying71 cells22 (i := 2) rfl (.pl rfl) rfl (.pl rfl) (hk46)) rfl ?_
              refine WS.q (Y.nilCheck (.pl rfl)) rfl ?_
              refine WS.q (Y.fieldAddr0 (off := 15) (ft := 71) Try.underlying73 rfl cells71 (.pl rfl)) rfl ?_
              refine WS.tail ?_
              refine WL.step (WO.storeB (cs' := ((encRel c2) ++ (Value.int .i64 most3 :: (Value.slice A4 (out28).length c5 :: (Value.slice A29 ((sets31.take (((sets31).length : Int) - 1).toNat)).length c30 :: []))))) cells71 (.pl rfl) (.pl rfl) rfl (i := 0) rfl (ltl (m := 16) (by decide) rfl) (rfl) ?_)
              refine WL.nil ?_
              refine W.go hK14 (.cons (i := 0) rfl (.cons (i := 1) rfl (.cons (i := 23) rfl (.cons (i := 24) rfl (.nil))))) ?_
              -- region 16: order.go:233
              refine W.reg ?_
              obtain ⟨hk47, hF9⟩ := ckh hF9
              refine WL.q (Y.add (.pl rfl) (.pl rfl) (ok64_lt (hk47))) rfl ?_
              refine WL.q (Y.move (.pl rfl)) rfl ?_
              refine WL.nil ?_
              obtain rfl := Option.some.inj hF9
              exact W.again5 hK10 out28 (sets31.take (((sets31).length : Int) - 1).toNat) (v20 + 1) A29 c30 k9 hN9 (Nat.lt_succ_self _) (.cons rfl (.nil)) (.cons (i := 0) rfl (.cons (i := 1) rfl (.cons (i := 23) rfl (.nil)))) (fun w hw => (St.trunc (enc := (eI .u16)) (sz := 1) (j := (((sets31).length : Int) - 1).toNat) hw (fun _ => rfl) (i := 2) rfl).pickK 3 [0, 1, 2] rfl)
            · replace hF9 := cneg hC33 hF9
              refine W.skip ?_
              refine W.go hK14 (.cons (i := 0) rfl (.cons (i := 1) rfl (.cons (i := 23) rfl (.cons (i := 24) rfl (.nil))))) ?_
              -- region 16: order.go:233
              refine W.reg ?_
              obtain ⟨hk48, hF9⟩ := ckh hF9
              refine WL.q (Y.add (.pl rfl) (.pl rfl) (ok64_lt (hk48))) rfl ?_
              refine WL.q (Y.move (.pl rfl)) rfl ?_
              refine WL.nil ?_
              obtain rfl := Option.some.inj hF9
              exact W.again5 hK10 out28 sets31 (v20 + 1) A29 c30 k9 hN9 (Nat.lt_succ_self _) (.cons rfl (.nil)) (.cons (i := 0) rfl (.cons (i := 1) rfl (.cons (i := 23) rfl (.nil)))) (fun w hw => hw.pickK 3 [0, 1, 2] rfl)
      · replace hF9 := cneg hC13 hF9
        refine W.exit ?_
        obtain rfl := Option.some.inj hF9
        exact W.joinAt4 hK7 out16 sets19 A17 c18 (einr hN9) (.nil) (.nil) (fun w hw => hw.pickK 3 [0, 1, 2] rfl)
    · -- behind
      rintro out11 sets14 A12 c13 rfl
      -- region 17: order.go:249
      refine W.seqR fun Q37 hQ37 => ?_
      refine WL.q (Y.assign (.pl rfl)) rfl ?_
      refine WL.next hQ37 (.cons (i := 4) rfl (.nil)) ?_
      obtain rfl := Option.some.inj hF
      refine W.retV (fn := Try.f43) (vs := [.bool false]) Try.results43 ⟨.tmp rfl, trivial⟩ (fun _ _ h => h) (fun w hw => ?_)
      exact hR _ _ ⟨(A12, c13), trivial, rfl, (hw.pickK 3 [0, 1, 2] rfl)⟩
theorem order_partition_place_ok {N : Nat} {M : Nat} : ∀ {c2 : Rel} {most3 : Int} {out6 : (List Int)} {sets9 : (List Int)} {i10 : Int} {b1 : Nat} {A4 : Option Addr} {c5 : Nat} {A7 : Option Addr} {c8 : Nat} {res : ((List Int) × (List Int) × Bool)} (hF : order_partition_place N M c2 most3 out6 sets9 i10 = some res) {w0 w : World} {T : List Chunk} (hw : St w0.heap.size w0 ([cBx b1 73 ((encRel c2) ++ (Value.int .i64 most3 :: (Value.slice A4 (out6).length c5 :: (Value.slice A7 (sets9).length c8 :: [])))), cR (eI .i64) 1 A4 c5 3 out6, cR (eI .u16) 1 A7 c8 22 sets9] ++ T) w),
    Calls Try.prog 43 (List.toArray [.pointer (some ⟨b1, 0, none⟩), .int .i64 i10]) w (fun e w' => ∃ g : (Option Addr × Nat), (True) ∧ e = .returned (.bool res.2.2) ∧ St w0.heap.size w0 ([cBx b1 73 ((encRel c2) ++ (Value.int .i64 most3 :: (Value.slice A4 (res.1).length c5 :: (Value.slice g.1 (res.2.1).length g.2 :: [])))), cR (eI .i64) 1 A4 c5 3 res.1, cR (eI .u16) 1 g.1 g.2 22 res.2.1] ++ T) w') := by
  induction M with
  | zero => exact fun hF => nomatch (show (none : Option _) = some _ from hF)
  | succ M ih => exact fun hF => order_partition_place_ok_B ih hF

def order_Chains (N : Nat) (r1 : Rel) : Option ((List Int) × Int) :=
  bd (order_acyclic N r1) fun (r3 : (Int × (List Int) × Int)) =>
  cond (!(decide (r3.2.2 = 0)))
    (some ([], r3.2.2))
    (bd (α := Int) (bd (order_widest N (Rel.mk r3.1 r3.2.1)) fun (r8 : (List Int)) =>
      ck (mkB 8 r3.1) <|
      some ((r8).length : Int)) <|
    fun (most6 : Int) => 
      bd (order_partition_place N N (Rel.mk r3.1 r3.2.1) most6 (List.replicate r3.1.toNat (0 : Int)) ([] : (List Int)) 0) fun (r18 : ((List Int) × (List Int) × Bool)) =>
      some (r18.1, 0))

theorem order_Chains_ok {N : Nat} {r1 : Rel} {res : ((List Int) × Int)} (hF : order_Chains N r1 = some res) (w : World) :
    Made Try.prog 19 [.agg (encRel r1).toArray] w (fun g : (Option Addr × Nat) => .tuple #[.slice g.1 (res.1).length g.2, .int .i64 res.2]) (fun g => [cR (eI .i64) 1 g.1 g.2 3 res.1]) (fun _ => True) := by
  refine W.enter (n := 30) Try.func19 rfl rfl Sub.refl (by simp) (St.start w) fun R hR => ?_
  unfold order_Chains at hF
  -- region 0: order.go:253
  refine W.seqR fun Q1 hQ1 => ?_
  refine WL.step (WO.boxA (.pl rfl) rfl fun b2 => ?_)
  refine WL.q (Y.assign (.pl rfl)) rfl ?_
  refine WL.q (Y.assign (.pl rfl)) rfl ?_
  refine WL.next hQ1 (.cons (i := 1) rfl (.nil)) ?_
  -- region 1: order.go:254
  refine W.seqR fun Q2 hQ2 => ?_
  refine WL.q (Y.loadBA (ds := (encRel r1)) Try.underlying25 rfl cells25 (.pl rfl) (i := 0) rfl rfl subW) rfl ?_
  obtain ⟨r3, hr3, hF⟩ := bnd hF
  refine WL.step (WO.callP isGo40 (.cons (.pl rfl) (.nil)) rfl (fun w hw => order_acyclic_ok (hr3) w ) ?_)
  refine WL.q (Y.move (.pl rfl)) rfl ?_
  refine WL.q (Y.extract (.pl rfl) rfl) rfl ?_
  refine WL.q (Y.extract (.pl rfl) rfl) rfl ?_
  refine WL.step (WO.alloc (cs := (encRel (Rel.mk 0 [])).toArray) zero25 rfl rfl fun b4 => ?_)
  refine WL.step (WO.storeBA (ds := (encRel (Rel.mk r3.1 r3.2.1))) (cs' := (encRel (Rel.mk r3.1 r3.2.1))) cells25 (.pl rfl) (.pl rfl) rfl (oneRel _) (i := 0) rfl (lel (o := 0) (l := 13) (m := 13) (by decide) rfl rfl) (putW rfl) ?_)
  refine WL.q (Y.assign (.pl rfl)) rfl ?_
  refine WL.next hQ2 (.cons (i := 4) rfl (.cons (i := 5) rfl (.nil))) ?_
  refine W.seq fun K3 hK3 => ?_
  -- region 2: order.go:255
  refine W.seqR fun Q4 hQ4 => ?_
  refine WL.q (Y.move (.pl rfl)) rfl ?_
  refine WL.q (Y.neq (.pl rfl) (.pl rfl)) rfl ?_
  refine WL.next hQ4 (.cons (i := 4) rfl (.cons (i := 5) rfl (.cons (i := 13) rfl (.nil)))) ?_
  refine W.cond (.pl rfl) (fun hC5 => ?_) (fun hC5 => ?_)
  · replace hF := cpos hC5 hF
    -- region 3: order.go:256
    refine W.seqR fun Q6 hQ6 => ?_
    refine WL.q (Y.move (.pl rfl)) rfl ?_
    refine WL.q (Y.assign (.pl rfl)) rfl ?_
    refine WL.q (Y.assign (.pl rfl)) rfl ?_
    refine WL.next hQ6 (.cons (i := 2) rfl (.cons (i := 3) rfl (.nil))) ?_
    obtain rfl := Option.some.inj hF
    refine W.retV (fn := Try.f19) (vs := [.slice none 0 0, .int .i64 r3.2.2]) Try.results19 ⟨.tmp rfl, ⟨.tmp rfl, trivial⟩⟩ (fun _ _ h => h) (fun w hw => ?_)
    exact hR _ _ ⟨(none, 0), trivial, rfl, ((St.nilR (hw.pick [] rfl) (eI .i64) 1 3).pick [0] rfl)⟩
  · replace hF := cneg hC5 hF
    refine W.skip ?_
    refine W.go hK3 (.cons (i := 4) rfl (.nil)) ?_
    obtain ⟨o7, hF7, hF⟩ := bnd hF
    refine W.join3 (Em := fun (most6 : Int) (b5 : Nat) (A7 : Option Addr) => [(6, .pointer (some ⟨b5, 0, none⟩))]) (M := fun most6 b5 A7 => [cBx b5 73 ((encRel (Rel.mk r3.1 r3.2.1)) ++ (Value.int .i64 most6 :: (Value.slice A7 ((List.replicate r3.1.toNat (0 : Int))).length r3.1.toNat :: (Value.slice none 0 0 :: [])))), cR (eI .i64) 1 A7 r3.1.toNat 3 (List.replicate r3.1.toNat (0 : Int))]) (I := fun most6 b5 A7 => most6 = o7) (.nil) (fun K8 hK8 => ?_) ?_
    · -- up to
      -- region 4: order.go:258
      refine W.regX 9 (by kernel_rfl) ?_
      refine WX.take 0 #[true, false, false, false, false, false, false, false, false, false] (fun w hw => St.tail [] hw) rfl (by kernel_rfl) (Y.loadBA (ds := (encRel (Rel.mk r3.1 r3.2.1))) Try.underlying25 rfl cells25 (.pl rfl) (i := 0) rfl rfl subW) rfl ?_
      refine WX.take 1 #[true, true, false, false, false, false, false, false, false, false] (fun w hw => St.tail [] hw) rfl (by kernel_rfl) (Y.loadBA (ds := (encRel (Rel.mk r3.1 r3.2.1))) Try.underlying25 rfl cells25 (.pl rfl) (i := 0) rfl rfl subW) rfl ?_
      refine WX.pure 4 #[true, true, false, false, true, false, false, false, false, false] rfl (by kernel_rfl) (fun _ _ => Y.fieldAddr0 (off := 0) (ft := 3) Try.underlying25 rfl cells3 (.pl rfl)) rfl ?_
      refine WX.take 5 #[true, true, false, false, true, true, false, false, false, false] (fun w hw => St.tail [] hw) rfl (by kernel_rfl) (Y.loadB (v := .int .i64 r3.1) Try.underlying3 rfl (.pl rfl) (i := 0) rfl (rfl)) rfl ?_
      obtain ⟨r8, hr8, hF7⟩ := bnd hF7
      obtain ⟨hk12, hF7⟩ := ckh hF7
      refine WX.branch [2, 6] (fun w hw => St.tail [] hw) (by kernel_rfl) ⟨?_, ?_, trivial⟩
      · skip
        refine WXI.step #[true, true, true, false, true, true, false, false, false, false] rfl rfl (WO.callM isGo42 (.cons (.pl rfl) (.nil)) rfl (fun w hw => order_widest_ok (hr8) w ) ?_)
        rintro ⟨A9, c10⟩ -
        refine WX.take 3 #[true, true, true, true, true, true, false, false, false, false] (fun w hw => St.tail [_] hw) rfl (by kernel_rfl) (Y.len Try.underlying34 (.pl rfl)) rfl ?_
        refine WX.one 6 #[true, true, true, true, true, true, true, false, false, false] (fun w hw => St.tail [_] hw) rfl (by kernel_rfl) (WO.makeC (enc := (eI .i64)) (z := 0) Try.underlying34 mka3 rfl (.pl rfl) (hk12) rfl fun b11 => ?_)
        refine WX.pure 7 #[true, true, true, true, true, true, true, true, false, false] rfl (by kernel_rfl) (fun _ _ => Y.buildF (cs := ((encRel (Rel.mk r3.1 r3.2.1)) ++ (Value.int .i64 ((r8).length : Int) :: (Value.slice (some ⟨b11, 0, none⟩) ((List.replicate r3.1.toNat (0 : Int))).length r3.1.toNat :: (Value.slice none 0 0 :: [])))).toArray) shape73 (.cons (.pl rfl) (.cons (.pl rfl) (.cons (.pl rfl) (.nil)))) (by kernel_rfl)) rfl ?_
        refine WX.one 8 #[true, true, true, true, true, true, true, true, true, false] (fun w hw => St.tail [_, _] hw) rfl (by kernel_rfl) (WO.boxA (.pl rfl) rfl fun b13 => ?_)
        refine WX.stop #[true, true, true, true, true, true, true, true, true, true] (fun w hw => St.tail [_, _, _] hw) rfl (by kernel_rfl) (WO.q (Y.assign (.pl rfl)) rfl ?_)
        refine WA.done (by kernel_rfl) ?_
        exact W.joinAt3 hK8 ((r8).length : Int) b13 (some ⟨b11, 0, none⟩) (Option.some.inj hF7) (.cons rfl (.nil)) (.nil) (fun w hw => hw.pick [0, 1] rfl)
      · skip
        refine WXI.step #[true, true, false, false, true, true, true, false, false, false] rfl rfl (WO.makeC (enc := (eI .i64)) (z := 0) Try.underlying34 mka3 rfl (.pl rfl) (hk12) rfl fun b14 => ?_)
        refine WX.one 2 #[true, true, true, false, true, true, true, false, false, false] (fun w hw => St.tail [_] hw) rfl (by kernel_rfl) (WO.callM isGo42 (.cons (.pl rfl) (.nil)) rfl (fun w hw => order_widest_ok (hr8) w ) ?_)
        rintro ⟨A15, c16⟩ -
        refine WX.take 3 #[true, true, true, true, true, true, true, false, false, false] (fun w hw => St.tail [_, _] hw) rfl (by kernel_rfl) (Y.len Try.underlying34 (.pl rfl)) rfl ?_
        refine WX.pure 7 #[true, true, true, true, true, true, true, true, false, false] rfl (by kernel_rfl) (fun _ _ => Y.buildF (cs := ((encRel (Rel.mk r3.1 r3.2.1)) ++ (Value.int .i64 ((r8).length : Int) :: (Value.slice (some ⟨b14, 0, none⟩) ((List.replicate r3.1.toNat (0 : Int))).length r3.1.toNat :: (Value.slice none 0 0 :: [])))).toArray) shape73 (.cons (.pl rfl) (.cons (.pl rfl) (.cons (.pl rfl) (.nil)))) (by kernel_rfl)) rfl ?_
        refine WX.one 8 #[true, true, true, true, true, true, true, true, true, false] (fun w hw => St.tail [_, _] hw) rfl (by kernel_rfl) (WO.boxA (.pl rfl) rfl fun b17 => ?_)
        refine WX.stop #[true, true, true, true, true, true, true, true, true, true] (fun w hw => St.tail [_, _, _] hw) rfl (by kernel_rfl) (WO.q (Y.assign (.pl rfl)) rfl ?_)
        refine WA.done (by kernel_rfl) ?_
        exact W.joinAt3 hK8 ((r8).length : Int) b17 (some ⟨b14, 0, none⟩) (Option.some.inj hF7) (.cons rfl (.nil)) (.nil) (fun w hw => hw.pick [0, 2] rfl)
    · -- behind
      rintro most6 b5 A7 rfl
      -- region 5: order.go:259
      refine W.seqR fun Q10 hQ10 => ?_
      refine WL.q (Y.move (.pl rfl)) rfl ?_
      obtain ⟨r18, hr18, hF⟩ := bnd hF
      refine WL.step (WO.call (γ := (Option Addr × Nat)) (fun g => .bool r18.2.2) (fun g => [cBx b5 73 ((encRel (Rel.mk r3.1 r3.2.1)) ++ (Value.int .i64 most6 :: (Value.slice A7 (r18.1).length r3.1.toNat :: (Value.slice g.1 (r18.2.1).length g.2 :: [])))), cR (eI .i64) 1 A7 r3.1.toNat 3 r18.1, cR (eI .u16) 1 g.1 g.2 22 r18.2.1]) (fun _ => True) isGo43 (.cons (.pl rfl) (.cons (.pl rfl) (.nil))) rfl (fun w hw => order_partition_place_ok (T := []) (hr18) ((St.nilR (hw) (eI .u16) 1 22).pick [1, 2, 0] rfl) ) ?_)
      rintro ⟨A19, c20⟩ -
      refine WL.next hQ10 (.cons (i := 6) rfl (.nil)) ?_
      -- region 6: order.go:260
      refine W.seqR fun Q11 hQ11 => ?_
      refine WL.q (Y.move (.pl rfl)) rfl ?_
      refine WL.q (Y.nilCheck (.pl rfl)) rfl ?_
      refine WL.q (Y.fieldAddr0 (off := 14) (ft := 34) Try.underlying73 rfl cells34 (.pl rfl)) rfl ?_
      refine WL.q (Y.loadB (v := .slice A7 (r18.1).length r3.1.toNat) Try.underlying34 rfl (.pl rfl) (i := 0) rfl (rfl)) rfl ?_
      refine WL.q (Y.assign (.pl rfl)) rfl ?_
      refine WL.q (Y.assign (.pl rfl)) rfl ?_
      refine WL.next hQ11 (.cons (i := 2) rfl (.cons (i := 3) rfl (.nil))) ?_
      obtain rfl := Option.some.inj hF
      refine W.retV (fn := Try.f19) (vs := [.slice A7 (r18.1).length r3.1.toNat, .int .i64 0]) Try.results19 ⟨.tmp rfl, ⟨.tmp rfl, trivial⟩⟩ (fun _ _ h => h) (fun w hw => ?_)
      exact hR _ _ ⟨(A7, r3.1.toNat), trivial, rfl, (hw.pick [1] rfl)⟩

def alibkeep_ok_L3 (N : Nat) (l1 : (List Int)) : Int → Option (Int ⊕ (Unit ⊕ Bool))
  | v6 =>
    cond (decide (v6 < ((l1).length : Int)))
      (bd (ix l1 v6) fun (x7 : Int) =>
      cond (!(decide (x7 = 0)))
        (some (.inr (.inr false)))
        (ck (ok64 (v6 + 1)) <|
        some (.inl (v6 + 1))))
      (some (.inr (.inl ())))

def alibkeep_ok (N : Nat) (l1 : (List Int)) : Option Bool :=
  bd (α := (Unit ⊕ Bool)) (iter (alibkeep_ok_L3 N l1) N 0) <|
  Sum.elim (fun _ => 
    some true) (fun p => some p)

theorem alibkeep_ok_ok {N : Nat} {l1 : (List Int)} {res : Bool} (hF : alibkeep_ok N l1 = some res) (w : World) {v5 : Value} (hs4 : SlIn (eI .i64) 1 w v5 l1) :
    Pure Try.prog 20 [v5] w (.bool res) := by
  obtain ⟨A2, c3, rfl, hcc3, hs4⟩ := hs4.form
  refine W.enter (n := 14) Try.func20 rfl rfl Sub.refl (by simp) (St.start w) fun R hR => ?_
  unfold alibkeep_ok at hF
  -- region 0: order.go:22
  refine W.seqR fun Q1 hQ1 => ?_
  refine WL.q (Y.assign (.pl rfl)) rfl ?_
  refine WL.next hQ1 (.cons (i := 0) rfl (.nil)) ?_
  obtain ⟨o2, hF2, hF⟩ := bnd hF
  refine W.join0 (Em := []) (M := []) (I := (.inl ()) = o2) (.nil) (fun K3 hK3 => ?_) ?_
  · -- up to
    -- region 1: order.go:23
    refine W.seqR fun Q4 hQ4 => ?_
    refine WL.q (Y.move (.pl rfl)) rfl ?_
    refine WL.q (Y.len Try.underlying75 (.pl rfl)) rfl ?_
    refine WL.q (Y.move (.pl rfl)) rfl ?_
    refine WL.next hQ4 (.cons (i := 5) rfl (.cons (i := 6) rfl (.cons (i := 7) rfl (.nil)))) ?_
    refine W.block ?_
    refine W.loop1 (Em := fun (v6 : Int) => [(7, .int .i64 v6)]) (M := fun v6 => []) (I := fun v6 k5 => iter (alibkeep_ok_L3 N l1) k5 v6 = some o2) 0 N (hF2) (.cons rfl (.nil)) (.cons (i := 5) rfl (.cons (i := 6) rfl (.nil))) (fun w hw => hw.pick [] rfl) (fun v6 k5 hI K6 hK6 => ?_)
    obtain ⟨k5, t5, rfl, hF5, hN5⟩ := iter_step hI
    -- region 2: order.go:23
    refine W.seqR fun Q7 hQ7 => ?_
    refine WL.q (Y.lss (.pl rfl) (.pl rfl)) rfl ?_
    refine WL.next hQ7 (.cons (i := 5) rfl (.cons (i := 6) rfl (.cons (i := 7) rfl (.cons (i := 8) rfl (.nil))))) ?_
    refine W.seq fun K8 hK8 => ?_
    refine W.cond (.pl rfl) (fun hC9 => ?_) (fun hC9 => ?_)
    · replace hF5 := cpos hC9 hF5
      refine W.skip ?_
      refine W.go hK8 (.cons (i := 5) rfl (.cons (i := 6) rfl (.cons (i := 7) rfl (.nil)))) ?_
      refine W.seq fun K10 hK10 => ?_
      refine W.block ?_
      -- region 3: order.go:23
      refine W.seqR fun Q11 hQ11 => ?_
      obtain ⟨x7, hx7, hF5⟩ := bnd hF5
      refine WL.q (Y.slEl Try.underlying75 cells26 hs4 (.pl rfl) (.pl rfl) (ix_lt (hx7))) rfl ?_
      refine WL.q (Y.loadS (enc := (eI .i64)) (v := .int .i64 x7) (j := 0) Try.underlying26 rfl hs4 (.pl rfl) (hx7) rfl rfl) rfl ?_
      refine WL.q (Y.assign (.pl rfl)) rfl ?_
      refine WL.next hQ11 (.cons (i := 4) rfl (.cons (i := 5) rfl (.cons (i := 6) rfl (.cons (i := 7) rfl (.nil))))) ?_
      -- region 4: order.go:24
      refine W.seqR fun Q12 hQ12 => ?_
      refine WL.q (Y.move (.pl rfl)) rfl ?_
      refine WL.q (Y.neq (.pl rfl) (.pl rfl)) rfl ?_
      refine WL.next hQ12 (.cons (i := 5) rfl (.cons (i := 6) rfl (.cons (i := 7) rfl (.cons (i := 12) rfl (.nil))))) ?_
      refine W.cond (.pl rfl) (fun hC13 => ?_) (fun hC13 => ?_)
      · replace hF5 := cpos hC13 hF5
        -- region 5: order.go:25
        refine W.seqR fun Q14 hQ14 => ?_
        refine WL.q (Y.assign (.pl rfl)) rfl ?_
        refine WL.next hQ14 (.cons (i := 2) rfl (.nil)) ?_
        obtain rfl := Option.some.inj hF5
        obtain rfl := einr hN5
        obtain rfl := Option.some.inj hF
        refine W.retV (fn := Try.f20) (vs := [.bool false]) Try.results20 ⟨.tmp rfl, trivial⟩ (fun _ _ h => h) (fun w hw => ?_)
        exact hR _ _ ⟨rfl, (hw.pick [] rfl)⟩
      · replace hF5 := cneg hC13 hF5
        refine W.skip ?_
        refine W.go hK10 (.cons (i := 5) rfl (.cons (i := 6) rfl (.cons (i := 7) rfl (.nil)))) ?_
        -- region 6: order.go:23
        refine W.reg ?_
        obtain ⟨hk8, hF5⟩ := ckh hF5
        refine WL.q (Y.add (.pl rfl) (.pl rfl) (ok64_lt (hk8))) rfl ?_
        refine WL.q (Y.move (.pl rfl)) rfl ?_
        refine WL.nil ?_
        obtain rfl := Option.some.inj hF5
        exact W.again1 hK6 (v6 + 1) k5 hN5 (Nat.lt_succ_self _) (.cons rfl (.nil)) (.cons (i := 5) rfl (.cons (i := 6) rfl (.nil))) (fun w hw => hw.pick [] rfl)
    · replace hF5 := cneg hC9 hF5
      refine W.exit ?_
      obtain rfl := Option.some.inj hF5
      exact W.joinAt0 hK3  (einr hN5) (.nil) (.nil) (fun w hw => hw.pick [] rfl)
  · -- behind
    rintro  rfl
    -- region 7: order.go:28
    refine W.seqR fun Q16 hQ16 => ?_
    refine WL.q (Y.assign (.pl rfl)) rfl ?_
    refine WL.next hQ16 (.cons (i := 2) rfl (.nil)) ?_
    obtain rfl := Option.some.inj hF
    refine W.retV (fn := Try.f20) (vs := [.bool true]) Try.results20 ⟨.tmp rfl, trivial⟩ (fun _ _ h => h) (fun w hw => ?_)
    exact hR _ _ ⟨rfl, (hw.pick [] rfl)⟩

def slices_Equal_int_int_L3 (N : Nat) (s11 : (List Int)) (s26 : (List Int)) : Int → Option (Int ⊕ (Unit ⊕ Bool))
  | v11 =>
    cond (decide (v11 < ((s11).length : Int)))
      (bd (ix s11 v11) fun (x12 : Int) =>
      bd (ix s26 v11) fun (x13 : Int) =>
      cond (!(decide (x12 = x13)))
        (some (.inr (.inr false)))
        (ck (ok64 (v11 + 1)) <|
        some (.inl (v11 + 1))))
      (some (.inr (.inl ())))

def slices_Equal_int_int (N : Nat) (s11 : (List Int)) (s26 : (List Int)) : Option Bool :=
  cond (!(decide (((s11).length : Int) = ((s26).length : Int))))
    (some false)
    (bd (α := (Unit ⊕ Bool)) (iter (slices_Equal_int_int_L3 N s11 s26) N 0) <|
    Sum.elim (fun _ => 
      some true) (fun p => some p))

theorem slices_Equal_int_int_ok {N : Nat} {s11 : (List Int)} {s26 : (List Int)} {res : Bool} (hF : slices_Equal_int_int N s11 s26 = some res) (w : World) {v5 : Value} (hs4 : SlIn (eI .i64) 1 w v5 s11) {v10 : Value} (hs9 : SlIn (eI .i64) 1 w v10 s26) :
    Pure Try.prog 39 [v5, v10] w (.bool res) := by
  obtain ⟨A2, c3, rfl, hcc3, hs4⟩ := hs4.form
  obtain ⟨A7, c8, rfl, hcc8, hs9⟩ := hs9.form
  refine W.enter (n := 26) Try.func39 rfl rfl Sub.refl (by simp) (St.start w) fun R hR => ?_
  unfold slices_Equal_int_int at hF
  -- region 0: slices.go:20
  refine W.seqR fun Q1 hQ1 => ?_
  refine WL.q (Y.assign (.pl rfl)) rfl ?_
  refine WL.next hQ1 (.cons (i := 0) rfl (.cons (i := 1) rfl (.nil))) ?_
  refine W.seq fun K2 hK2 => ?_
  -- region 1: slices.go:21
  refine W.seqR fun Q3 hQ3 => ?_
  refine WL.q (Y.move (.pl rfl)) rfl ?_
  refine WL.q (Y.len Try.underlying34 (.pl rfl)) rfl ?_
  refine WL.q (Y.move (.pl rfl)) rfl ?_
  refine WL.q (Y.len Try.underlying34 (.pl rfl)) rfl ?_
  refine WL.q (Y.neq (.pl rfl) (.pl rfl)) rfl ?_
  refine WL.next hQ3 (.cons (i := 0) rfl (.cons (i := 1) rfl (.cons (i := 10) rfl (.nil)))) ?_
  refine W.cond (.pl rfl) (fun hC4 => ?_) (fun hC4 => ?_)
  · replace hF := cpos hC4 hF
    -- region 2: slices.go:22
    refine W.seqR fun Q5 hQ5 => ?_
    refine WL.q (Y.assign (.pl rfl)) rfl ?_
    refine WL.next hQ5 (.cons (i := 4) rfl (.nil)) ?_
    obtain rfl := Option.some.inj hF
    refine W.retV (fn := Try.f39) (vs := [.bool false]) Try.results39 ⟨.tmp rfl, trivial⟩ (fun _ _ h => h) (fun w hw => ?_)
    exact hR _ _ ⟨rfl, (hw.pick [] rfl)⟩
  · replace hF := cneg hC4 hF
    refine W.skip ?_
    refine W.go hK2 (.cons (i := 0) rfl (.cons (i := 1) rfl (.nil))) ?_
    obtain ⟨o6, hF6, hF⟩ := bnd hF
    refine W.join0 (Em := []) (M := []) (I := (.inl ()) = o6) (.nil) (fun K7 hK7 => ?_) ?_
    · -- up to
      -- region 3: slices.go:24
      refine W.seqR fun Q8 hQ8 => ?_
      refine WL.q (Y.move (.pl rfl)) rfl ?_
      refine WL.q (Y.len Try.underlying34 (.pl rfl)) rfl ?_
      refine WL.q (Y.move (.pl rfl)) rfl ?_
      refine WL.next hQ8 (.cons (i := 0) rfl (.cons (i := 1) rfl (.cons (i := 12) rfl (.cons (i := 13) rfl (.nil))))) ?_
      refine W.block ?_
      refine W.loop1 (Em := fun (v11 : Int) => [(13, .int .i64 v11)]) (M := fun v11 => []) (I := fun v11 k9 => iter (slices_Equal_int_int_L3 N s11 s26) k9 v11 = some o6) 0 N (hF6) (.cons rfl (.nil)) (.cons (i := 0) rfl (.cons (i := 1) rfl (.cons (i := 12) rfl (.nil)))) (fun w hw => hw.pick [] rfl) (fun v11 k9 hI K10 hK10 => ?_)
      obtain ⟨k9, t9, rfl, hF9, hN9⟩ := iter_step hI
      -- region 4: slices.go:24
      refine W.seqR fun Q11 hQ11 => ?_
      refine WL.q (Y.lss (.pl rfl) (.pl rfl)) rfl ?_
      refine WL.next hQ11 (.cons (i := 0) rfl (.cons (i := 1) rfl (.cons (i := 12) rfl (.cons (i := 13) rfl (.cons (i := 14) rfl (.nil)))))) ?_
      refine W.seq fun K12 hK12 => ?_
      refine W.cond (.pl rfl) (fun hC13 => ?_) (fun hC13 => ?_)
      · replace hF9 := cpos hC13 hF9
        refine W.skip ?_
        refine W.go hK12 (.cons (i := 0) rfl (.cons (i := 1) rfl (.cons (i := 12) rfl (.cons (i := 13) rfl (.nil))))) ?_
        refine W.seq fun K14 hK14 => ?_
        refine W.block ?_
        -- region 5: slices.go:24
        refine W.seqR fun Q15 hQ15 => ?_
        refine WL.q (Y.move (.pl rfl)) rfl ?_
        refine WL.q (Y.assign (.pl rfl)) rfl ?_
        refine WL.next hQ15 (.cons (i := 0) rfl (.cons (i := 1) rfl (.cons (i := 5) rfl (.cons (i := 12) rfl (.cons (i := 13) rfl (.nil)))))) ?_
        -- region 6: slices.go:25
        refine W.seqD (by kernel_rfl) (by kernel_rfl) fun R16 hR16 => ?_
        refine WD.q (Y.move (.pl rfl)) rfl ?_
        refine WD.q (Y.move (.pl rfl)) rfl ?_
        obtain ⟨x12, hx12, hF9⟩ := bnd hF9
        refine WD.q (Y.slEl Try.underlying34 cells3 hs4 (.pl rfl) (.pl rfl) (ix_lt (hx12))) rfl ?_
        refine WD.q (Y.loadS (enc := (eI .i64)) (v := .int .i64 x12) (j := 0) Try.underlying3 rfl hs4 (.pl rfl) (hx12) rfl rfl) rfl ?_
        refine WD.q (Y.move (.pl rfl)) rfl ?_
        refine WD.q (Y.move (.pl rfl)) rfl ?_
        obtain ⟨x13, hx13, hF9⟩ := bnd hF9
        refine WD.q (Y.slEl Try.underlying34 cells3 hs9 (.pl rfl) (.pl rfl) (ix_lt (hx13))) rfl ?_
        refine WD.q (Y.loadS (enc := (eI .i64)) (v := .int .i64 x13) (j := 0) Try.underlying3 rfl hs9 (.pl rfl) (hx13) rfl rfl) rfl ?_
        refine WD.q (Y.neq (.pl rfl) (.pl rfl)) rfl ?_
        refine WD.next hR16 (.cons (i := 0) rfl (.cons (i := 1) rfl (.cons (i := 12) rfl (.cons (i := 13) rfl (.cons (i := 24) rfl (.nil)))))) ?_
        refine W.cond (.pl rfl) (fun hC17 => ?_) (fun hC17 => ?_)
        · replace hF9 := cpos hC17 hF9
          -- region 7: slices.go:26
          refine W.seqR fun Q18 hQ18 => ?_
          refine WL.q (Y.assign (.pl rfl)) rfl ?_
          refine WL.next hQ18 (.cons (i := 4) rfl (.nil)) ?_
          obtain rfl := Option.some.inj hF9
          obtain rfl := einr hN9
          obtain rfl := Option.some.inj hF
          refine W.retV (fn := Try.f39) (vs := [.bool false]) Try.results39 ⟨.tmp rfl, trivial⟩ (fun _ _ h => h) (fun w hw => ?_)
          exact hR _ _ ⟨rfl, (hw.pick [] rfl)⟩
        · replace hF9 := cneg hC17 hF9
          refine W.skip ?_
          refine W.go hK14 (.cons (i := 0) rfl (.cons (i := 1) rfl (.cons (i := 12) rfl (.cons (i := 13) rfl (.nil))))) ?_
          -- region 8: slices.go:24
          refine W.reg ?_
          obtain ⟨hk14, hF9⟩ := ckh hF9
          refine WL.q (Y.add (.pl rfl) (.pl rfl) (ok64_lt (hk14))) rfl ?_
          refine WL.q (Y.move (.pl rfl)) rfl ?_
          refine WL.nil ?_
          obtain rfl := Option.some.inj hF9
          exact W.again1 hK10 (v11 + 1) k9 hN9 (Nat.lt_succ_self _) (.cons rfl (.nil)) (.cons (i := 0) rfl (.cons (i := 1) rfl (.cons (i := 12) rfl (.nil)))) (fun w hw => hw.pick [] rfl)
      · replace hF9 := cneg hC13 hF9
        refine W.exit ?_
        obtain rfl := Option.some.inj hF9
        exact W.joinAt0 hK7  (einr hN9) (.nil) (.nil) (fun w hw => hw.pick [] rfl)
    · -- behind
      rintro  rfl
      -- region 9: slices.go:29
      refine W.seqR fun Q20 hQ20 => ?_
      refine WL.q (Y.assign (.pl rfl)) rfl ?_
      refine WL.next hQ20 (.cons (i := 4) rfl (.nil)) ?_
      obtain rfl := Option.some.inj hF
      refine W.retV (fn := Try.f39) (vs := [.bool true]) Try.results39 ⟨.tmp rfl, trivial⟩ (fun _ _ h => h) (fun w hw => ?_)
      exact hR _ _ ⟨rfl, (hw.pick [] rfl)⟩

def alibkeep_orderLives (N : Nat) : Option Bool :=
  bd (alibkeep_rel N 4 ([[2, 0], [3, 1]] : List (List Int))) fun (r2 : (List Int)) =>
  bd (order_Least N (Rel.mk 4 r2)) fun (r4 : ((List Int) × Int)) =>
  bd (order_Count N (Rel.mk 4 r2)) fun (r7 : (Int × Int)) =>
  bd (order_Apart N (Rel.mk 4 r2)) fun (r8 : ((List Int) × Int)) =>
  bd (order_Chains N (Rel.mk 4 r2)) fun (r11 : ((List Int) × Int)) =>
  bd (α := Bool) (bd (alibkeep_ok N ([r4.2, r7.2, r8.2, r11.2] : List Int)) fun (r16 : Bool) =>
    cond (r16 == true)
      (bd (slices_Equal_int_int N r4.1 ([2, 0, 3, 1] : List Int)) fun (r18 : Bool) =>
      cond (((r16 && r18) && (decide (r7.1 = 6))) == true)
        (bd (slices_Equal_int_int N r8.1 ([0, 1] : List Int)) fun (r20 : Bool) =>
        cond ((((r16 && r18) && (decide (r7.1 = 6))) && r20) == true)
          (bd (slices_Equal_int_int N r11.1 ([0, 1, 0, 1] : List Int)) fun (r22 : Bool) =>
          some ((((r16 && r18) && (decide (r7.1 = 6))) && r20) && r22))
          (some ((((r16 && r18) && (decide (r7.1 = 6))) && r20) && false)))
        (cond ((((r16 && r18) && (decide (r7.1 = 6))) && false) == true)
          (bd (slices_Equal_int_int N r11.1 ([0, 1, 0, 1] : List Int)) fun (r24 : Bool) =>
          some ((((r16 && r18) && (decide (r7.1 = 6))) && false) && r24))
          (some ((((r16 && r18) && (decide (r7.1 = 6))) && false) && false))))
      (cond (((r16 && false) && (decide (r7.1 = 6))) == true)
        (bd (slices_Equal_int_int N r8.1 ([0, 1] : List Int)) fun (r26 : Bool) =>
        cond ((((r16 && false) && (decide (r7.1 = 6))) && r26) == true)
          (bd (slices_Equal_int_int N r11.1 ([0, 1, 0, 1] : List Int)) fun (r28 : Bool) =>
          some ((((r16 && false) && (decide (r7.1 = 6))) && r26) && r28))
          (some ((((r16 && false) && (decide (r7.1 = 6))) && r26) && false)))
        (cond ((((r16 && false) && (decide (r7.1 = 6))) && false) == true)
          (bd (slices_Equal_int_int N r11.1 ([0, 1, 0, 1] : List Int)) fun (r30 : Bool) =>
          some ((((r16 && false) && (decide (r7.1 = 6))) && false) && r30))
          (some ((((r16 && false) && (decide (r7.1 = 6))) && false) && false))))) <|
  fun (v14 : Bool) => 
    some v14

theorem alibkeep_orderLives_ok {N : Nat} {res : Bool} (hF : alibkeep_orderLives N = some res) (w : World) :
    Pure Try.prog 16 [] w (.bool res) := by
  refine W.enter (n := 59) Try.func16 rfl rfl Sub.refl (by simp) (St.start w) fun R hR => ?_
  unfold alibkeep_orderLives at hF
  -- region 0: order.go:32
  refine W.seqR fun Q1 hQ1 => ?_
  refine WL.q (Y.assign (.pl rfl)) rfl ?_
  refine WL.next hQ1 (.nil) ?_
  -- region 1: order.go:33
  refine W.seqR fun Q2 hQ2 => ?_
  refine WL.q (Y.buildA (cs := ((encA 2 (eI .i64) 0) [2, 0]).toArray) Try.underlying65 cells3 azero65 (.cons (.pl rfl) (.cons (.pl rfl) (.nil))) rfl) rfl ?_
  refine WL.q (Y.buildA (cs := ((encA 2 (eI .i64) 0) [3, 1]).toArray) Try.underlying65 cells3 azero65 (.cons (.pl rfl) (.cons (.pl rfl) (.nil))) rfl) rfl ?_
  refine WL.step (WO.bsliceC (enc := (encA 2 (eI .i64) 0)) (ys := ([[2, 0], [3, 1]] : List (List Int))) Try.underlying92 bz65 (.cons (.pl rfl) (.cons (.pl rfl) (.nil))) rfl (fun _ => lenA (sz := 1) (fun _ => rfl)) rfl rfl (by decide) (by decide) rfl fun b1 => ?_)
  obtain ⟨r2, hr2, hF⟩ := bnd hF
  refine WL.step (WO.callP isGo38 (.cons (.pl rfl) (.cons (.pl rfl) (.nil))) rfl (fun w hw => alibkeep_rel_ok (hr2) w (SlIn.ofRow (fun _ => lenA (sz := 1) (fun _ => rfl)) hw (i := 0) rfl)) ?_)
  refine WL.step (WO.alloc (cs := (encRel (Rel.mk 0 [])).toArray) zero25 rfl rfl fun b3 => ?_)
  refine WL.step (WO.storeBA (ds := (encRel (Rel.mk 4 r2))) (cs' := (encRel (Rel.mk 4 r2))) cells25 (.pl rfl) (.pl rfl) rfl (oneRel _) (i := 0) rfl (lel (o := 0) (l := 13) (m := 13) (by decide) rfl rfl) (putW rfl) ?_)
  refine WL.next hQ2 (.cons (i := 1) rfl (.nil)) ?_
  -- region 2: order.go:34
  refine W.seqR fun Q3 hQ3 => ?_
  refine WL.q (Y.loadBA (ds := (encRel (Rel.mk 4 r2))) Try.underlying25 rfl cells25 (.pl rfl) (i := 0) rfl rfl subW) rfl ?_
  obtain ⟨r4, hr4, hF⟩ := bnd hF
  refine WL.step (WO.callM isGo24 (.cons (.pl rfl) (.nil)) rfl (fun w hw => order_Least_ok (hr4) w ) ?_)
  rintro ⟨A5, c6⟩ -
  refine WL.q (Y.move (.pl rfl)) rfl ?_
  refine WL.q (Y.extract (.pl rfl) rfl) rfl ?_
  refine WL.q (Y.extract (.pl rfl) rfl) rfl ?_
  refine WL.q (Y.assign (.pl rfl)) rfl ?_
  refine WL.q (Y.assign (.pl rfl)) rfl ?_
  refine WL.next hQ3 (.cons (i := 1) rfl (.cons (i := 2) rfl (.cons (i := 3) rfl (.nil)))) ?_
  -- region 3: order.go:35
  refine W.seqR fun Q4 hQ4 => ?_
  refine WL.q (Y.loadBA (ds := (encRel (Rel.mk 4 r2))) Try.underlying25 rfl cells25 (.pl rfl) (i := 1) rfl rfl subW) rfl ?_
  obtain ⟨r7, hr7, hF⟩ := bnd hF
  refine WL.step (WO.callP isGo17 (.cons (.pl rfl) (.nil)) rfl (fun w hw => order_Count_ok (hr7) w ) ?_)
  refine WL.q (Y.move (.pl rfl)) rfl ?_
  refine WL.q (Y.extract (.pl rfl) rfl) rfl ?_
  refine WL.q (Y.extract (.pl rfl) rfl) rfl ?_
  refine WL.q (Y.assign (.pl rfl)) rfl ?_
  refine WL.q (Y.assign (.pl rfl)) rfl ?_
  refine WL.next hQ4 (.cons (i := 1) rfl (.cons (i := 2) rfl (.cons (i := 3) rfl (.cons (i := 4) rfl (.cons (i := 5) rfl (.nil)))))) ?_
  -- region 4: order.go:36
  refine W.seqR fun Q5 hQ5 => ?_
  refine WL.q (Y.loadBA (ds := (encRel (Rel.mk 4 r2))) Try.underlying25 rfl cells25 (.pl rfl) (i := 1) rfl rfl subW) rfl ?_
  obtain ⟨r8, hr8, hF⟩ := bnd hF
  refine WL.step (WO.callM isGo18 (.cons (.pl rfl) (.nil)) rfl (fun w hw => order_Apart_ok (hr8) w ) ?_)
  rintro ⟨A9, c10⟩ -
  refine WL.q (Y.move (.pl rfl)) rfl ?_
  refine WL.q (Y.extract (.pl rfl) rfl) rfl ?_
  refine WL.q (Y.extract (.pl rfl) rfl) rfl ?_
  refine WL.q (Y.assign (.pl rfl)) rfl ?_
  refine WL.q (Y.assign (.pl rfl)) rfl ?_
  refine WL.next hQ5 (.cons (i := 1) rfl (.cons (i := 2) rfl (.cons (i := 3) rfl (.cons (i := 4) rfl (.cons (i := 5) rfl (.cons (i := 6) rfl (.cons (i := 7) rfl (.nil)))))))) ?_
  -- region 5: order.go:37
  refine W.seqR fun Q6 hQ6 => ?_
  refine WL.q (Y.loadBA (ds := (encRel (Rel.mk 4 r2))) Try.underlying25 rfl cells25 (.pl rfl) (i := 2) rfl rfl subW) rfl ?_
  obtain ⟨r11, hr11, hF⟩ := bnd hF
  refine WL.step (WO.callM isGo19 (.cons (.pl rfl) (.nil)) rfl (fun w hw => order_Chains_ok (hr11) w ) ?_)
  rintro ⟨A12, c13⟩ -
  refine WL.q (Y.move (.pl rfl)) rfl ?_
  refine WL.q (Y.extract (.pl rfl) rfl) rfl ?_
  refine WL.q (Y.extract (.pl rfl) rfl) rfl ?_
  refine WL.q (Y.assign (.pl rfl)) rfl ?_
  refine WL.q (Y.assign (.pl rfl)) rfl ?_
  refine WL.next hQ6 (.cons (i := 2) rfl (.cons (i := 3) rfl (.cons (i := 4) rfl (.cons (i := 5) rfl (.cons (i := 6) rfl (.cons (i := 7) rfl (.cons (i := 8) rfl (.cons (i := 9) rfl (.nil))))))))) ?_
  obtain ⟨o7, hF7, hF⟩ := bnd hF
  refine W.join1 (Em := fun (v14 : Bool) => [(0, .bool v14)]) (M := fun v14 => []) (I := fun v14 => v14 = o7) (.nil) (fun K8 hK8 => ?_) ?_
  · -- up to
    -- region 6: order.go:38
    refine W.reg ?_
    refine WL.q (Y.move (.pl rfl)) rfl ?_
    refine WL.q (Y.move (.pl rfl)) rfl ?_
    refine WL.q (Y.move (.pl rfl)) rfl ?_
    refine WL.q (Y.move (.pl rfl)) rfl ?_
    refine WL.step (WO.bsliceC (enc := (eI .i64)) (ys := ([r4.2, r7.2, r8.2, r11.2] : List Int)) Try.underlying75 bz26 (.cons (.pl rfl) (.cons (.pl rfl) (.cons (.pl rfl) (.cons (.pl rfl) (.nil))))) rfl (fun _ => rfl) rfl rfl (by decide) (by decide) rfl fun b15 => ?_)
    obtain ⟨r16, hr16, hF7⟩ := bnd hF7
    refine WL.step (WO.callP isGo20 (.cons (.pl rfl) (.nil)) rfl (fun w hw => alibkeep_ok_ok (hr16) w (SlIn.ofRow (fun _ => rfl) hw (i := 0) rfl)) ?_)
    refine WL.q (Y.move (.pl rfl)) rfl ?_
    refine WL.g (.pl rfl rfl rfl) (fun hg => Y.move (.pl rfl)) rfl ?_
    refine bsplit (r16 == true) (fun hg9 => ?_) (fun hg9 => ?_)
    · replace hF7 := cpos hg9 hF7
      refine WL.gd (.pl rfl rfl rfl) (hg9) ?_
      refine WL.step (WO.bsliceC (enc := (eI .i64)) (ys := ([2, 0, 3, 1] : List Int)) Try.underlying34 bz3 (.cons (.pl rfl) (.cons (.pl rfl) (.cons (.pl rfl) (.cons (.pl rfl) (.nil))))) rfl (fun _ => rfl) rfl rfl (by decide) (by decide) rfl fun b17 => ?_)
      refine WL.gd (.pl rfl rfl rfl) (hg9) ?_
      obtain ⟨r18, hr18, hF7⟩ := bnd hF7
      refine WL.step (WO.callP isGo39 (.cons (.gd (hg9) rfl) (.cons (.pl rfl) (.nil))) rfl (fun w hw => slices_Equal_int_int_ok (hr18) w (SlIn.ofRow (fun _ => rfl) hw (i := 4) rfl) (SlIn.ofRow (fun _ => rfl) hw (i := 0) rfl)) ?_)
      refine WL.q (Y.and (.pl rfl) (fun _ => .pl rfl)) rfl ?_
      refine WL.q (Y.move (.pl rfl)) rfl ?_
      refine WL.g (.pl rfl rfl rfl) (fun hg => Y.move (.pl rfl)) rfl ?_
      refine WL.g (.pl rfl rfl rfl) (fun hg => Y.eql (.gd (hg) rfl) (.pl rfl)) rfl ?_
      refine WL.q (Y.and (.pl rfl) (fun h2 => .gd (eqt h2) rfl)) rfl ?_
      refine WL.q (Y.move (.pl rfl)) rfl ?_
      refine WL.g (.pl rfl rfl rfl) (fun hg => Y.move (.pl rfl)) rfl ?_
      refine bsplit (((r16 && r18) && (decide (r7.1 = 6))) == true) (fun hg10 => ?_) (fun hg10 => ?_)
      · replace hF7 := cpos hg10 hF7
        refine WL.gd (.pl rfl rfl rfl) (hg10) ?_
        refine WL.step (WO.bsliceC (enc := (eI .i64)) (ys := ([0, 1] : List Int)) Try.underlying34 bz3 (.cons (.pl rfl) (.cons (.pl rfl) (.nil))) rfl (fun _ => rfl) rfl rfl (by decide) (by decide) rfl fun b19 => ?_)
        refine WL.gd (.pl rfl rfl rfl) (hg10) ?_
        obtain ⟨r20, hr20, hF7⟩ := bnd hF7
        refine WL.step (WO.callP isGo39 (.cons (.gd (hg10) rfl) (.cons (.pl rfl) (.nil))) rfl (fun w hw => slices_Equal_int_int_ok (hr20) w (SlIn.ofRow (fun _ => rfl) hw (i := 4) rfl) (SlIn.ofRow (fun _ => rfl) hw (i := 0) rfl)) ?_)
        refine WL.q (Y.and (.pl rfl) (fun _ => .pl rfl)) rfl ?_
        refine WL.q (Y.move (.pl rfl)) rfl ?_
        refine WL.g (.pl rfl rfl rfl) (fun hg => Y.move (.pl rfl)) rfl ?_
        refine bsplit ((((r16 && r18) && (decide (r7.1 = 6))) && r20) == true) (fun hg11 => ?_) (fun hg11 => ?_)
        · replace hF7 := cpos hg11 hF7
          refine WL.gd (.pl rfl rfl rfl) (hg11) ?_
          refine WL.step (WO.bsliceC (enc := (eI .i64)) (ys := ([0, 1, 0, 1] : List Int)) Try.underlying34 bz3 (.cons (.pl rfl) (.cons (.pl rfl) (.cons (.pl rfl) (.cons (.pl rfl) (.nil))))) rfl (fun _ => rfl) rfl rfl (by decide) (by decide) rfl fun b21 => ?_)
          refine WL.gd (.pl rfl rfl rfl) (hg11) ?_
          obtain ⟨r22, hr22, hF7⟩ := bnd hF7
          refine WL.step (WO.callP isGo39 (.cons (.gd (hg11) rfl) (.cons (.pl rfl) (.nil))) rfl (fun w hw => slices_Equal_int_int_ok (hr22) w (SlIn.ofRow (fun _ => rfl) hw (i := 4) rfl) (SlIn.ofRow (fun _ => rfl) hw (i := 0) rfl)) ?_)
          refine WL.q (Y.and (.pl rfl) (fun _ => .pl rfl)) rfl ?_
          refine WL.q (Y.assign (.pl rfl)) rfl ?_
          refine WL.nil ?_
          exact W.joinAt1 hK8 ((((r16 && r18) && (decide (r7.1 = 6))) && r20) && r22) (Option.some.inj hF7) (.cons rfl (.nil)) (.nil) (fun w hw => hw.pick [] rfl)
        · replace hF7 := cneg hg11 hF7
          refine WL.gn (.pl rfl rfl rfl) hg11 rfl ?_
          refine WL.gn (.pl rfl rfl rfl) hg11 rfl ?_
          refine WL.q (Y.and (b := false) (.pl rfl) (fun h2 => (gabsA hg11 h2).elim)) rfl ?_
          refine WL.q (Y.assign (.pl rfl)) rfl ?_
          refine WL.nil ?_
          exact W.joinAt1 hK8 ((((r16 && r18) && (decide (r7.1 = 6))) && r20) && false) (Option.some.inj hF7) (.cons rfl (.nil)) (.nil) (fun w hw => hw.pick [] rfl)
      · replace hF7 := cneg hg10 hF7
        refine WL.gn (.pl rfl rfl rfl) hg10 rfl ?_
        refine WL.gn (.pl rfl rfl rfl) hg10 rfl ?_
        refine WL.q (Y.and (b := false) (.pl rfl) (fun h2 => (gabsA hg10 h2).elim)) rfl ?_
        refine WL.q (Y.move (.pl rfl)) rfl ?_
        refine WL.g (.pl rfl rfl rfl) (fun hg => Y.move (.pl rfl)) rfl ?_
        refine bsplit ((((r16 && r18) && (decide (r7.1 = 6))) && false) == true) (fun hg12 => ?_) (fun hg12 => ?_)
        · replace hF7 := cpos hg12 hF7
          refine WL.gd (.pl rfl rfl rfl) (hg12) ?_
          refine WL.step (WO.bsliceC (enc := (eI .i64)) (ys := ([0, 1, 0, 1] : List Int)) Try.underlying34 bz3 (.cons (.pl rfl) (.cons (.pl rfl) (.cons (.pl rfl) (.cons (.pl rfl) (.nil))))) rfl (fun _ => rfl) rfl rfl (by decide) (by decide) rfl fun b23 => ?_)
          refine WL.gd (.pl rfl rfl rfl) (hg12) ?_
          obtain ⟨r24, hr24, hF7⟩ := bnd hF7
          refine WL.step (WO.callP isGo39 (.cons (.gd (hg12) rfl) (.cons (.pl rfl) (.nil))) rfl (fun w hw => slices_Equal_int_int_ok (hr24) w (SlIn.ofRow (fun _ => rfl) hw (i := 3) rfl) (SlIn.ofRow (fun _ => rfl) hw (i := 0) rfl)) ?_)
          refine WL.q (Y.and (.pl rfl) (fun _ => .pl rfl)) rfl ?_
          refine WL.q (Y.assign (.pl rfl)) rfl ?_
          refine WL.nil ?_
          exact W.joinAt1 hK8 ((((r16 && r18) && (decide (r7.1 = 6))) && false) && r24) (Option.some.inj hF7) (.cons rfl (.nil)) (.nil) (fun w hw => hw.pick [] rfl)
        · replace hF7 := cneg hg12 hF7
          refine WL.gn (.pl rfl rfl rfl) hg12 rfl ?_
          refine WL.gn (.pl rfl rfl rfl) hg12 rfl ?_
          refine WL.q (Y.and (b := false) (.pl rfl) (fun h2 => (gabsA hg12 h2).elim)) rfl ?_
          refine WL.q (Y.assign (.pl rfl)) rfl ?_
          refine WL.nil ?_
          exact W.joinAt1 hK8 ((((r16 && r18) && (decide (r7.1 = 6))) && false) && false) (Option.some.inj hF7) (.cons rfl (.nil)) (.nil) (fun w hw => hw.pick [] rfl)
    · replace hF7 := cneg hg9 hF7
      refine WL.gn (.pl rfl rfl rfl) hg9 rfl ?_
      refine WL.gn (.pl rfl rfl rfl) hg9 rfl ?_
      refine WL.q (Y.and (b := false) (.pl rfl) (fun h2 => (gabsA hg9 h2).elim)) rfl ?_
      refine WL.q (Y.move (.pl rfl)) rfl ?_
      refine WL.g (.pl rfl rfl rfl) (fun hg => Y.move (.pl rfl)) rfl ?_
      refine WL.g (.pl rfl rfl rfl) (fun hg => Y.eql (.gd (hg) rfl) (.pl rfl)) rfl ?_
      refine WL.q (Y.and (.pl rfl) (fun h2 => .gd (eqt h2) rfl)) rfl ?_
      refine WL.q (Y.move (.pl rfl)) rfl ?_
      refine WL.g (.pl rfl rfl rfl) (fun hg => Y.move (.pl rfl)) rfl ?_
      refine bsplit (((r16 && false) && (decide (r7.1 = 6))) == true) (fun hg13 => ?_) (fun hg13 => ?_)
      · replace hF7 := cpos hg13 hF7
        refine WL.gd (.pl rfl rfl rfl) (hg13) ?_
        refine WL.step (WO.bsliceC (enc := (eI .i64)) (ys := ([0, 1] : List Int)) Try.underlying34 bz3 (.cons (.pl rfl) (.cons (.pl rfl) (.nil))) rfl (fun _ => rfl) rfl rfl (by decide) (by decide) rfl fun b25 => ?_)
        refine WL.gd (.pl rfl rfl rfl) (hg13) ?_
        obtain ⟨r26, hr26, hF7⟩ := bnd hF7
        refine WL.step (WO.callP isGo39 (.cons (.gd (hg13) rfl) (.cons (.pl rfl) (.nil))) rfl (fun w hw => slices_Equal_int_int_ok (hr26) w (SlIn.ofRow (fun _ => rfl) hw (i := 3) rfl) (SlIn.ofRow (fun _ => rfl) hw (i := 0) rfl)) ?_)
        refine WL.q (Y.and (.pl rfl) (fun _ => .pl rfl)) rfl ?_
        refine WL.q (Y.move (.pl rfl)) rfl ?_
        refine WL.g (.pl rfl rfl rfl) (fun hg => Y.move (.pl rfl)) rfl ?_
        refine bsplit ((((r16 && false) && (decide (r7.1 = 6))) && r26) == true) (fun hg14 => ?_) (fun hg14 => ?_)
        · replace hF7 := cpos hg14 hF7
          refine WL.gd (.pl rfl rfl rfl) (hg14) ?_
          refine WL.step (WO.bsliceC (enc := (eI .i64)) (ys := ([0, 1, 0, 1] : List Int)) Try.underlying34 bz3 (.cons (.pl rfl) (.cons (.pl rfl) (.cons (.pl rfl) (.cons (.pl rfl) (.nil))))) rfl (fun _ => rfl) rfl rfl (by decide) (by decide) rfl fun b27 => ?_)
          refine WL.gd (.pl rfl rfl rfl) (hg14) ?_
          obtain ⟨r28, hr28, hF7⟩ := bnd hF7
          refine WL.step (WO.callP isGo39 (.cons (.gd (hg14) rfl) (.cons (.pl rfl) (.nil))) rfl (fun w hw => slices_Equal_int_int_ok (hr28) w (SlIn.ofRow (fun _ => rfl) hw (i := 3) rfl) (SlIn.ofRow (fun _ => rfl) hw (i := 0) rfl)) ?_)
          refine WL.q (Y.and (.pl rfl) (fun _ => .pl rfl)) rfl ?_
          refine WL.q (Y.assign (.pl rfl)) rfl ?_
          refine WL.nil ?_
          exact W.joinAt1 hK8 ((((r16 && false) && (decide (r7.1 = 6))) && r26) && r28) (Option.some.inj hF7) (.cons rfl (.nil)) (.nil) (fun w hw => hw.pick [] rfl)
        · replace hF7 := cneg hg14 hF7
          refine WL.gn (.pl rfl rfl rfl) hg14 rfl ?_
          refine WL.gn (.pl rfl rfl rfl) hg14 rfl ?_
          refine WL.q (Y.and (b := false) (.pl rfl) (fun h2 => (gabsA hg14 h2).elim)) rfl ?_
          refine WL.q (Y.assign (.pl rfl)) rfl ?_
          refine WL.nil ?_
          exact W.joinAt1 hK8 ((((r16 && false) && (decide (r7.1 = 6))) && r26) && false) (Option.some.inj hF7) (.cons rfl (.nil)) (.nil) (fun w hw => hw.pick [] rfl)
      · replace hF7 := cneg hg13 hF7
        refine WL.gn (.pl rfl rfl rfl) hg13 rfl ?_
        refine WL.gn (.pl rfl rfl rfl) hg13 rfl ?_
        refine WL.q (Y.and (b := false) (.pl rfl) (fun h2 => (gabsA hg13 h2).elim)) rfl ?_
        refine WL.q (Y.move (.pl rfl)) rfl ?_
        refine WL.g (.pl rfl rfl rfl) (fun hg => Y.move (.pl rfl)) rfl ?_
        refine bsplit ((((r16 && false) && (decide (r7.1 = 6))) && false) == true) (fun hg15 => ?_) (fun hg15 => ?_)
        · replace hF7 := cpos hg15 hF7
          refine WL.gd (.pl rfl rfl rfl) (hg15) ?_
          refine WL.step (WO.bsliceC (enc := (eI .i64)) (ys := ([0, 1, 0, 1] : List Int)) Try.underlying34 bz3 (.cons (.pl rfl) (.cons (.pl rfl) (.cons (.pl rfl) (.cons (.pl rfl) (.nil))))) rfl (fun _ => rfl) rfl rfl (by decide) (by decide) rfl fun b29 => ?_)
          refine WL.gd (.pl rfl rfl rfl) (hg15) ?_
          obtain ⟨r30, hr30, hF7⟩ := bnd hF7
          refine WL.step (WO.callP isGo39 (.cons (.gd (hg15) rfl) (.cons (.pl rfl) (.nil))) rfl (fun w hw => slices_Equal_int_int_ok (hr30) w (SlIn.ofRow (fun _ => rfl) hw (i := 2) rfl) (SlIn.ofRow (fun _ => rfl) hw (i := 0) rfl)) ?_)
          refine WL.q (Y.and (.pl rfl) (fun _ => .pl rfl)) rfl ?_
          refine WL.q (Y.assign (.pl rfl)) rfl ?_
          refine WL.nil ?_
          exact W.joinAt1 hK8 ((((r16 && false) && (decide (r7.1 = 6))) && false) && r30) (Option.some.inj hF7) (.cons rfl (.nil)) (.nil) (fun w hw => hw.pick [] rfl)
        · replace hF7 := cneg hg15 hF7
          refine WL.gn (.pl rfl rfl rfl) hg15 rfl ?_
          refine WL.gn (.pl rfl rfl rfl) hg15 rfl ?_
          refine WL.q (Y.and (b := false) (.pl rfl) (fun h2 => (gabsA hg15 h2).elim)) rfl ?_
          refine WL.q (Y.assign (.pl rfl)) rfl ?_
          refine WL.nil ?_
          exact W.joinAt1 hK8 ((((r16 && false) && (decide (r7.1 = 6))) && false) && false) (Option.some.inj hF7) (.cons rfl (.nil)) (.nil) (fun w hw => hw.pick [] rfl)
  · -- behind
    rintro v14 rfl
    obtain rfl := Option.some.inj hF
    refine W.retV (fn := Try.f16) (vs := [.bool v14]) Try.results16 ⟨.tmp rfl, trivial⟩ (fun _ _ h => h) (fun w hw => ?_)
    exact hR _ _ ⟨rfl, (hw.pick [] rfl)⟩

end Go.Proofs.Ytemckhkicfpgeaa
