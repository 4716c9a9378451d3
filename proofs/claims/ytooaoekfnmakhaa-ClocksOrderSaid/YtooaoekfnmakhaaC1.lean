/- The laws of clocks: what their code computes, and the walks. -/
import Derived.Test.YtooaoekfnmakhaaProg
import Derived.Test.YtooaoekfnmakhaaNest
set_option linter.unusedVariables false
set_option linter.unusedSimpArgs false
set_option linter.unusedSectionVars false
set_option maxRecDepth 100000
namespace Go.Proofs.Ytooaoekfnmakhaa
open Go.RowKit
structure Mark where
  who : Int
  kind : Int
  letter : Int
deriving DecidableEq
def Mark.z : Mark := ⟨0, 0, 0⟩
def encMark (x : Mark) : List Value := (Value.int .i64 x.who :: (Value.int .i64 x.kind :: (Value.int .i64 x.letter :: [])))
theorem lenMark (x : Mark) : (encMark x).length = 3 := rfl
theorem eqMark (x y : Mark) : eqCells [true, true, true] (encMark x) (encMark y) = some (decide (x = y)) := by
  cases x; cases y; simp [encMark, eqCells, Mark.mk.injEq, Bool.beq_eq_decide_eq]
theorem oneMark : ∀ x, ∀ v ∈ encMark x, v.oneCell' = true := fun x => (one_cons rfl (one_cons rfl (one_cons rfl one_nil)))
theorem cells3 : Try.prog.cellsOf 3 = 0 + 1 := by kernel_rfl
theorem cells22 : Try.prog.cellsOf 22 = 0 + 1 := by kernel_rfl
theorem cells25 : Try.prog.cellsOf 25 = 0 + 1 := by kernel_rfl
theorem cells64 : Try.prog.cellsOf 64 = 2 + 1 := by kernel_rfl
theorem cells101 : Try.prog.cellsOf 101 = 7 + 1 := by kernel_rfl
theorem isGo25 : IsGo Try.prog 25 := ⟨_, Try.func25, by kernel_rfl, rfl⟩
theorem isGo28 : IsGo Try.prog 28 := ⟨_, Try.func28, by kernel_rfl, rfl⟩
theorem isGo29 : IsGo Try.prog 29 := ⟨_, Try.func29, by kernel_rfl, rfl⟩
theorem isGo30 : IsGo Try.prog 30 := ⟨_, Try.func30, by kernel_rfl, rfl⟩
theorem isGo31 : IsGo Try.prog 31 := ⟨_, Try.func31, by kernel_rfl, rfl⟩
theorem isGo32 : IsGo Try.prog 32 := ⟨_, Try.func32, by kernel_rfl, rfl⟩
theorem isGo47 : IsGo Try.prog 47 := ⟨_, Try.func47, by kernel_rfl, rfl⟩
theorem isGo48 : IsGo Try.prog 48 := ⟨_, Try.func48, by kernel_rfl, rfl⟩
theorem isGo49 : IsGo Try.prog 49 := ⟨_, Try.func49, by kernel_rfl, rfl⟩
theorem isGo50 : IsGo Try.prog 50 := ⟨_, Try.func50, by kernel_rfl, rfl⟩
theorem isGo51 : IsGo Try.prog 51 := ⟨_, Try.func51, by kernel_rfl, rfl⟩
theorem isGo61 : IsGo Try.prog 61 := ⟨_, Try.func61, by kernel_rfl, rfl⟩
theorem zero3 : ∃ i, Try.prog.info? 3 = some i ∧ i.zero = some (Value.int .i64 0) := ⟨_, rfl, by kernel_rfl⟩
theorem zero4 : ∃ i, Try.prog.info? 4 = some i ∧ i.zero = some (Value.bool false) := ⟨_, rfl, by kernel_rfl⟩
theorem zero64 : ∃ i, Try.prog.info? 64 = some i ∧ i.zero = some (Value.agg #[(Value.int .i64 0), (Value.int .i64 0), (Value.int .i64 0)]) := ⟨_, rfl, by kernel_rfl⟩
theorem zero101 : ∃ i, Try.prog.info? 101 = some i ∧ i.zero = some (Value.agg #[(Value.int .i64 0), (Value.int .i64 0), (Value.int .i64 0), (Value.int .i64 0), (Value.int .i64 0), (Value.int .i64 0), (Value.int .i64 0), (Value.int .i64 0)]) := ⟨_, rfl, by kernel_rfl⟩
theorem zero119 : ∃ i, Try.prog.info? 119 = some i ∧ i.zero = some (Value.agg #[(Value.int .i64 0), (Value.int .i64 0), (Value.int .i64 0), (Value.int .i64 0), (Value.int .i64 0), (Value.int .i64 0), (Value.int .i64 0), (Value.int .i64 0), (Value.int .i64 0), (Value.int .i64 0), (Value.int .i64 0), (Value.int .i64 0), (Value.int .i64 0), (Value.int .i64 0), (Value.int .i64 0), (Value.int .i64 0), (Value.int .i64 0), (Value.int .i64 0), (Value.int .i64 0), (Value.int .i64 0), (Value.int .i64 0), (Value.int .i64 0), (Value.int .i64 0), (Value.int .i64 0), (Value.int .i64 0), (Value.int .i64 0), (Value.int .i64 0), (Value.int .i64 0), (Value.int .i64 0), (Value.int .i64 0), (Value.int .i64 0), (Value.int .i64 0), (Value.int .i64 0), (Value.int .i64 0), (Value.int .i64 0), (Value.int .i64 0), (Value.int .i64 0), (Value.int .i64 0), (Value.int .i64 0), (Value.int .i64 0), (Value.int .i64 0), (Value.int .i64 0), (Value.int .i64 0), (Value.int .i64 0), (Value.int .i64 0), (Value.int .i64 0), (Value.int .i64 0), (Value.int .i64 0), (Value.int .i64 0), (Value.int .i64 0), (Value.int .i64 0), (Value.int .i64 0), (Value.int .i64 0), (Value.int .i64 0), (Value.int .i64 0), (Value.int .i64 0), (Value.int .i64 0), (Value.int .i64 0), (Value.int .i64 0), (Value.int .i64 0), (Value.int .i64 0), (Value.int .i64 0), (Value.int .i64 0), (Value.int .i64 0)]) := ⟨_, rfl, by kernel_rfl⟩
theorem bz3 : ∃ i, Try.prog.info? 3 = some i ∧ i.zero = some (Value.int .i64 0) ∧ i.size = 1 := ⟨_, rfl, by kernel_rfl, by kernel_rfl⟩
theorem bz22 : ∃ i, Try.prog.info? 22 = some i ∧ i.zero = some (Value.slice none 0 0) ∧ i.size = 1 := ⟨_, rfl, by kernel_rfl, by kernel_rfl⟩
theorem bz25 : ∃ i, Try.prog.info? 25 = some i ∧ i.zero = some (Value.int .i64 0) ∧ i.size = 1 := ⟨_, rfl, by kernel_rfl, by kernel_rfl⟩
theorem bz64 : ∃ i, Try.prog.info? 64 = some i ∧ i.zero = some (Value.agg #[(Value.int .i64 0), (Value.int .i64 0), (Value.int .i64 0)]) ∧ i.size = 3 := ⟨_, rfl, by kernel_rfl, by kernel_rfl⟩
theorem mka3 : ∃ i z, Try.prog.info? 3 = some i ∧ i.zero = some z ∧ i.size = 1 ∧ i.bytes = 8 ∧ z.cells = ([(Value.int .i64 0)] : List Value).toArray ∧ ([(Value.int .i64 0)] : List Value).length = 1 ∧ 0 < 1 := ⟨_, (Value.int .i64 0), rfl, by kernel_rfl, by kernel_rfl, by kernel_rfl, rfl, rfl, by decide⟩
theorem mka101 : ∃ i z, Try.prog.info? 101 = some i ∧ i.zero = some z ∧ i.size = 8 ∧ i.bytes = 64 ∧ z.cells = ([(Value.int .i64 0), (Value.int .i64 0), (Value.int .i64 0), (Value.int .i64 0), (Value.int .i64 0), (Value.int .i64 0), (Value.int .i64 0), (Value.int .i64 0)] : List Value).toArray ∧ ([(Value.int .i64 0), (Value.int .i64 0), (Value.int .i64 0), (Value.int .i64 0), (Value.int .i64 0), (Value.int .i64 0), (Value.int .i64 0), (Value.int .i64 0)] : List Value).length = 8 ∧ 0 < 8 := ⟨_, (Value.agg #[(Value.int .i64 0), (Value.int .i64 0), (Value.int .i64 0), (Value.int .i64 0), (Value.int .i64 0), (Value.int .i64 0), (Value.int .i64 0), (Value.int .i64 0)]), rfl, by kernel_rfl, by kernel_rfl, by kernel_rfl, rfl, rfl, by decide⟩
theorem ap3 : ∃ i z, Try.prog.info? 3 = some i ∧ i.zero = some z ∧ i.size = 1 ∧ i.bytes = 8 ∧ z.cells.size = 1 ∧ 0 < 1 := ⟨_, (Value.int .i64 0), rfl, by kernel_rfl, by kernel_rfl, by kernel_rfl, by kernel_rfl, by decide⟩
theorem ap22 : ∃ i z, Try.prog.info? 22 = some i ∧ i.zero = some z ∧ i.size = 1 ∧ i.bytes = 24 ∧ z.cells.size = 1 ∧ 0 < 1 := ⟨_, (Value.slice none 0 0), rfl, by kernel_rfl, by kernel_rfl, by kernel_rfl, by kernel_rfl, by decide⟩
theorem shape64 : Shape Try.prog 64 [(0, 1), (1, 1), (2, 1)] #[(Value.int .i64 0), (Value.int .i64 0), (Value.int .i64 0)] := ⟨_, _, Value.agg #[(Value.int .i64 0), (Value.int .i64 0), (Value.int .i64 0)], Try.underlying64, rfl, by kernel_rfl, rfl, by kernel_rfl, by decide⟩
def clocks_letters_L3 (N : Nat) (l1 : (List Mark)) : ((List (Int × Int)) × (List (Int × Bool)) × Int) → Option (((List (Int × Int)) × (List (Int × Bool)) × Int) ⊕ ((List (Int × Int)) ⊕ ((List (Int × Int)) × Int × Int)))
  | (sent9, got10, v11) =>
    cond (decide (v11 < ((l1).length : Int)))
      (bd (ix l1 v11) fun (x12 : Mark) =>
      cond ((((decide (x12.who < 0)) || (decide (8 ≤ x12.who))) || (decide (x12.kind < 0))) || (decide (2 < x12.kind)))
        (some (.inr (.inr ([], 3, v11))))
        (cond ((decide (x12.kind = 1)) && (!(decide (x12.letter = ((sent9).length : Int)))))
          (some (.inr (.inr ([], 1, v11))))
          (cond (decide (x12.kind = 1))
            (ck (ok64 (v11 + 1)) <|
            some (.inl ((mput sent9 x12.letter v11), got10, (v11 + 1))))
            (cond ((decide (x12.kind = 2)) && (!(mget sent9 x12.letter).isSome))
              (some (.inr (.inr ([], 4, v11))))
              (cond ((decide (x12.kind = 2)) && ((mget got10 x12.letter).getD false))
                (some (.inr (.inr ([], 5, v11))))
                (cond (decide (x12.kind = 2))
                  (ck (ok64 (v11 + 1)) <|
                  some (.inl (sent9, (mput got10 x12.letter true), (v11 + 1))))
                  (cond (!(decide (x12.letter = 0)))
                    (some (.inr (.inr ([], 3, v11))))
                    (ck (ok64 (v11 + 1)) <|
                    some (.inl (sent9, got10, (v11 + 1)))))))))))
      (some (.inr (.inl sent9)))

def clocks_letters (N : Nat) (l1 : (List Mark)) : Option ((List (Int × Int)) × Int × Int) :=
  bd (α := ((List (Int × Int)) ⊕ ((List (Int × Int)) × Int × Int))) (iter (clocks_letters_L3 N l1) N (([] : List (Int × Int)), ([] : List (Int × Bool)), 0)) <|
  Sum.elim (fun (sent8 : (List (Int × Int))) => 
    some (sent8, 0, 0)) (fun p => some p)

theorem clocks_letters_ok {N : Nat} {l1 : (List Mark)} {res : ((List (Int × Int)) × Int × Int)} (hF : clocks_letters N l1 = some res) (w : World) {v5 : Value} (hs4 : SlIn encMark 3 w v5 l1) :
    Made Try.prog 51 [v5] w (fun g : Option Nat => .tuple #[.map g, .int .i64 res.2.1, .int .i64 res.2.2]) (fun g => [cM (Value.int .i64) g res.1]) (fun _ => True) := by
  obtain ⟨A2, c3, rfl, hcc3, hs4⟩ := hs4.form
  refine W.enter (n := 100) Try.func51 rfl rfl Sub.refl (by simp) (St.start w) fun R hR => ?_
  unfold clocks_letters at hF
  -- region 0: clocks.go:18
  refine W.seqR fun Q1 hQ1 => ?_
  refine WL.q (Y.assign (.pl rfl)) rfl ?_
  refine WL.q (Y.assign (.pl rfl)) rfl ?_
  refine WL.q (Y.assign (.pl rfl)) rfl ?_
  refine WL.next hQ1 (.cons (i := 0) rfl (.nil)) ?_
  -- region 1: clocks.go:19
  refine W.seqR fun Q2 hQ2 => ?_
  refine WL.step (WO.mmake (Value.int .i64) rfl fun b6 => ?_)
  refine WL.q (Y.assign (.pl rfl)) rfl ?_
  refine WL.next hQ2 (.cons (i := 0) rfl (.cons (i := 2) rfl (.nil))) ?_
  -- region 2: clocks.go:20
  refine W.seqR fun Q3 hQ3 => ?_
  refine WL.step (WO.mmake Value.bool rfl fun b7 => ?_)
  refine WL.q (Y.assign (.pl rfl)) rfl ?_
  refine WL.next hQ3 (.cons (i := 0) rfl (.cons (i := 2) rfl (.cons (i := 5) rfl (.nil)))) ?_
  obtain ⟨o4, hF4, hF⟩ := bnd hF
  refine W.join1 (Em := fun (sent8 : (List (Int × Int))) => []) (M := fun sent8 => [cM (Value.int .i64) (some b6) sent8]) (I := fun sent8 => (.inl sent8) = o4) (.cons (i := 2) rfl (.nil)) (fun K5 hK5 => ?_) ?_
  · -- up to
    -- region 3: clocks.go:21
    refine W.seqR fun Q6 hQ6 => ?_
    refine WL.q (Y.move (.pl rfl)) rfl ?_
    refine WL.q (Y.len Try.underlying57 (.pl rfl)) rfl ?_
    refine WL.q (Y.move (.pl rfl)) rfl ?_
    refine WL.next hQ6 (.cons (i := 2) rfl (.cons (i := 5) rfl (.cons (i := 12) rfl (.cons (i := 13) rfl (.cons (i := 14) rfl (.nil)))))) ?_
    refine W.block ?_
    refine W.loop3 (Em := fun (sent9 : (List (Int × Int))) (got10 : (List (Int × Bool))) (v11 : Int) => [(14, .int .i64 v11)]) (M := fun sent9 got10 v11 => [cM (Value.int .i64) (some b6) sent9, cM Value.bool (some b7) got10]) (I := fun sent9 got10 v11 k7 => iter (clocks_letters_L3 N l1) k7 (sent9, got10, v11) = some o4) ([] : List (Int × Int)) ([] : List (Int × Bool)) 0 N (hF4) (.cons rfl (.nil)) (.cons (i := 2) rfl (.cons (i := 5) rfl (.cons (i := 12) rfl (.cons (i := 13) rfl (.nil))))) (fun w hw => hw.pick [1, 0] rfl) (fun sent9 got10 v11 k7 hI K8 hK8 => ?_)
    obtain ⟨k7, t7, rfl, hF7, hN7⟩ := iter_step hI
    -- region 4: clocks.go:21
    refine W.seqR fun Q9 hQ9 => ?_
    refine WL.q (Y.lss (.pl rfl) (.pl rfl)) rfl ?_
    refine WL.next hQ9 (.cons (i := 2) rfl (.cons (i := 5) rfl (.cons (i := 12) rfl (.cons (i := 13) rfl (.cons (i := 14) rfl (.cons (i := 15) rfl (.nil))))))) ?_
    refine W.seq fun K10 hK10 => ?_
    refine W.cond (.pl rfl) (fun hC11 => ?_) (fun hC11 => ?_)
    · replace hF7 := cpos hC11 hF7
      refine W.skip ?_
      refine W.go hK10 (.cons (i := 2) rfl (.cons (i := 5) rfl (.cons (i := 12) rfl (.cons (i := 13) rfl (.cons (i := 14) rfl (.nil)))))) ?_
      refine W.seq fun K12 hK12 => ?_
      refine W.block ?_
      -- region 5: clocks.go:21
      refine W.seqR fun Q13 hQ13 => ?_
      refine WL.q (Y.move (.pl rfl)) rfl ?_
      obtain ⟨x12, hx12, hF7⟩ := bnd hF7
      refine WL.q (Y.slEl Try.underlying57 cells64 hs4 (.pl rfl) (.pl rfl) (ix_lt (hx12))) rfl ?_
      refine WL.q (Y.loadSA (enc := encMark) (ds := (encMark x12)) (j := 0) Try.underlying64 rfl cells64 hs4 (.pl rfl) (hx12) rfl rfl subW) rfl ?_
      refine WL.step (WO.alloc (cs := (encMark (Mark.mk 0 0 0)).toArray) zero64 rfl rfl fun b13 => ?_)
      refine WL.q (Y.assign (.pl rfl)) rfl ?_
      refine WL.step (WO.storeBA (ds := (encMark x12)) (cs' := (encMark x12)) cells64 (.pl rfl) (.pl rfl) rfl (oneMark _) (i := 0) rfl (lel (o := 0) (l := 3) (m := 3) (by decide) rfl rfl) (putW rfl) ?_)
      refine WL.next hQ13 (.cons (i := 2) rfl (.cons (i := 5) rfl (.cons (i := 6) rfl (.cons (i := 7) rfl (.cons (i := 12) rfl (.cons (i := 13) rfl (.cons (i := 14) rfl (.nil)))))))) ?_
      -- region 6: clocks.go:22
      refine W.seqR fun Q14 hQ14 => ?_
      refine WL.q (Y.move (.pl rfl)) rfl ?_
      refine WL.q (Y.fieldAddr0 (off := 2) (ft := 3) Try.underlying64 rfl cells3 (.pl rfl)) rfl ?_
      refine WL.q (Y.loadB (v := .int .i64 x12.letter) Try.underlying3 rfl (.pl rfl) (i := 0) rfl (rfl)) rfl ?_
      refine WL.q (Y.mhas (f := (Value.int .i64)) (dv := 0) Try.underlying104 Try.underlying3 zero3 (.pl rfl) (.pl rfl) (i := 1) rfl) rfl ?_
      refine WL.q (Y.move (.pl rfl)) rfl ?_
      refine WL.q (Y.extract (.pl rfl) rfl) rfl ?_
      refine WL.q (Y.extract (.pl rfl) rfl) rfl ?_
      refine WL.q (Y.assign (.pl rfl)) rfl ?_
      refine WL.q (Y.assign (.pl rfl)) rfl ?_
      refine WL.next hQ14 (.cons (i := 2) rfl (.cons (i := 5) rfl (.cons (i := 6) rfl (.cons (i := 7) rfl (.cons (i := 9) rfl (.cons (i := 12) rfl (.cons (i := 13) rfl (.cons (i := 14) rfl (.nil))))))))) ?_
      refine W.block ?_
      -- region 7: clocks.go:24
      refine W.seqR fun Q15 hQ15 => ?_
      refine WL.q (Y.fieldAddr0 (off := 0) (ft := 3) Try.underlying64 rfl cells3 (.pl rfl)) rfl ?_
      refine WL.q (Y.loadB (v := .int .i64 x12.who) Try.underlying3 rfl (.pl rfl) (i := 0) rfl (rfl)) rfl ?_
      refine WL.q (Y.lss (.pl rfl) (.pl rfl)) rfl ?_
      refine WL.q (Y.move (.pl rfl)) rfl ?_
      refine WL.g (.pl rfl rfl rfl) (fun hg => Y.fieldAddr0 (off := 0) (ft := 3) Try.underlying64 rfl cells3 (.pl rfl)) rfl ?_
      refine WL.g (.pl rfl rfl rfl) (fun hg => Y.loadB (v := .int .i64 x12.who) Try.underlying3 rfl (.gd (hg) rfl) (i := 0) rfl (rfl)) rfl ?_
      refine WL.g (.pl rfl rfl rfl) (fun hg => Y.geq (.gd (hg) rfl) (.pl rfl)) rfl ?_
      refine WL.q (Y.or (.pl rfl) (fun h2 => .gd (eqf h2) rfl)) rfl ?_
      refine WL.q (Y.move (.pl rfl)) rfl ?_
      refine WL.g (.pl rfl rfl rfl) (fun hg => Y.fieldAddr0 (off := 1) (ft := 3) Try.underlying64 rfl cells3 (.pl rfl)) rfl ?_
      refine WL.g (.pl rfl rfl rfl) (fun hg => Y.loadB (v := .int .i64 x12.kind) Try.underlying3 rfl (.gd (hg) rfl) (i := 0) rfl (rfl)) rfl ?_
      refine WL.g (.pl rfl rfl rfl) (fun hg => Y.lss (.gd (hg) rfl) (.pl rfl)) rfl ?_
      refine WL.q (Y.or (.pl rfl) (fun h2 => .gd (eqf h2) rfl)) rfl ?_
      refine WL.q (Y.move (.pl rfl)) rfl ?_
      refine WL.g (.pl rfl rfl rfl) (fun hg => Y.fieldAddr0 (off := 1) (ft := 3) Try.underlying64 rfl cells3 (.pl rfl)) rfl ?_
      refine WL.g (.pl rfl rfl rfl) (fun hg => Y.loadB (v := .int .i64 x12.kind) Try.underlying3 rfl (.gd (hg) rfl) (i := 0) rfl (rfl)) rfl ?_
      refine WL.g (.pl rfl rfl rfl) (fun hg => Y.gtr (.gd (hg) rfl) (.pl rfl)) rfl ?_
      refine WL.q (Y.or (.pl rfl) (fun h2 => .gd (eqf h2) rfl)) rfl ?_
      refine WL.q (Y.assign (.pl rfl)) rfl ?_
      refine WL.next hQ15 (.cons (i := 2) rfl (.cons (i := 5) rfl (.cons (i := 6) rfl (.cons (i := 7) rfl (.cons (i := 9) rfl (.cons (i := 12) rfl (.cons (i := 13) rfl (.cons (i := 14) rfl (.cons (i := 26) rfl (.nil)))))))))) ?_
      refine W.cond (.pl rfl) (fun hC16 => ?_) (fun hC16 => ?_)
      · replace hF7 := cpos hC16 hF7
        -- region 8: clocks.go:25
        refine W.seqR fun Q17 hQ17 => ?_
        refine WL.q (Y.move (.pl rfl)) rfl ?_
        refine WL.q (Y.assign (.pl rfl)) rfl ?_
        refine WL.q (Y.assign (.pl rfl)) rfl ?_
        refine WL.q (Y.assign (.pl rfl)) rfl ?_
        refine WL.next hQ17 (.cons (i := 2) rfl (.cons (i := 3) rfl (.cons (i := 4) rfl (.nil)))) ?_
        obtain rfl := Option.some.inj hF7
        obtain rfl := einr hN7
        obtain rfl := Option.some.inj hF
        refine W.retV (fn := Try.f51) (vs := [.map none, .int .i64 3, .int .i64 v11]) Try.results51 ⟨.tmp rfl, ⟨.tmp rfl, ⟨.tmp rfl, trivial⟩⟩⟩ (fun _ _ h => h) (fun w hw => ?_)
        exact hR _ _ ⟨none, trivial, rfl, ((St.nilM (hw.pick [] rfl) (Value.int .i64)).pick [0] rfl)⟩
      · replace hF7 := cneg hC16 hF7
        -- region 9: clocks.go:26
        refine W.seqR fun Q18 hQ18 => ?_
        refine WL.q (Y.fieldAddr0 (off := 1) (ft := 3) Try.underlying64 rfl cells3 (.pl rfl)) rfl ?_
        refine WL.q (Y.loadB (v := .int .i64 x12.kind) Try.underlying3 rfl (.pl rfl) (i := 0) rfl (rfl)) rfl ?_
        refine WL.q (Y.eql (.pl rfl) (.pl rfl)) rfl ?_
        refine WL.q (Y.move (.pl rfl)) rfl ?_
        refine WL.g (.pl rfl rfl rfl) (fun hg => Y.fieldAddr0 (off := 2) (ft := 3) Try.underlying64 rfl cells3 (.pl rfl)) rfl ?_
        refine WL.g (.pl rfl rfl rfl) (fun hg => Y.loadB (v := .int .i64 x12.letter) Try.underlying3 rfl (.gd (hg) rfl) (i := 0) rfl (rfl)) rfl ?_
        refine WL.g (.pl rfl rfl rfl) (fun hg => Y.move (.pl rfl)) rfl ?_
        refine WL.g (.pl rfl rfl rfl) (fun hg => Y.mlen Try.underlying104 (.gd (hg) rfl) (i := 1) rfl) rfl ?_
        refine WL.g (.pl rfl rfl rfl) (fun hg => Y.neq (.gd (hg) rfl) (.gd (hg) rfl)) rfl ?_
        refine WL.q (Y.and (.pl rfl) (fun h2 => .gd (eqt h2) rfl)) rfl ?_
        refine WL.q (Y.assign (.pl rfl)) rfl ?_
        refine WL.next hQ18 (.cons (i := 2) rfl (.cons (i := 5) rfl (.cons (i := 6) rfl (.cons (i := 7) rfl (.cons (i := 9) rfl (.cons (i := 12) rfl (.cons (i := 13) rfl (.cons (i := 14) rfl (.cons (i := 46) rfl (.nil)))))))))) ?_
        refine W.cond (.pl rfl) (fun hC19 => ?_) (fun hC19 => ?_)
        · replace hF7 := cpos hC19 hF7
          -- region 10: clocks.go:27
          refine W.seqR fun Q20 hQ20 => ?_
          refine WL.q (Y.move (.pl rfl)) rfl ?_
          refine WL.q (Y.assign (.pl rfl)) rfl ?_
          refine WL.q (Y.assign (.pl rfl)) rfl ?_
          refine WL.q (Y.assign (.pl rfl)) rfl ?_
          refine WL.next hQ20 (.cons (i := 2) rfl (.cons (i := 3) rfl (.cons (i := 4) rfl (.nil)))) ?_
          obtain rfl := Option.some.inj hF7
          obtain rfl := einr hN7
          obtain rfl := Option.some.inj hF
          refine W.retV (fn := Try.f51) (vs := [.map none, .int .i64 1, .int .i64 v11]) Try.results51 ⟨.tmp rfl, ⟨.tmp rfl, ⟨.tmp rfl, trivial⟩⟩⟩ (fun _ _ h => h) (fun w hw => ?_)
          exact hR _ _ ⟨none, trivial, rfl, ((St.nilM (hw.pick [] rfl) (Value.int .i64)).pick [0] rfl)⟩
        · replace hF7 := cneg hC19 hF7
          -- region 11: clocks.go:28
          refine W.seqR fun Q21 hQ21 => ?_
          refine WL.q (Y.fieldAddr0 (off := 1) (ft := 3) Try.underlying64 rfl cells3 (.pl rfl)) rfl ?_
          refine WL.q (Y.loadB (v := .int .i64 x12.kind) Try.underlying3 rfl (.pl rfl) (i := 0) rfl (rfl)) rfl ?_
          refine WL.q (Y.eql (.pl rfl) (.pl rfl)) rfl ?_
          refine WL.q (Y.assign (.pl rfl)) rfl ?_
          refine WL.next hQ21 (.cons (i := 2) rfl (.cons (i := 5) rfl (.cons (i := 6) rfl (.cons (i := 7) rfl (.cons (i := 9) rfl (.cons (i := 12) rfl (.cons (i := 13) rfl (.cons (i := 14) rfl (.cons (i := 58) rfl (.nil)))))))))) ?_
          refine W.cond (.pl rfl) (fun hC22 => ?_) (fun hC22 => ?_)
          · replace hF7 := cpos hC22 hF7
            -- region 12: clocks.go:29
            refine W.reg ?_
            refine WL.q (Y.move (.pl rfl)) rfl ?_
            refine WL.q (Y.fieldAddr0 (off := 2) (ft := 3) Try.underlying64 rfl cells3 (.pl rfl)) rfl ?_
            refine WL.q (Y.loadB (v := .int .i64 x12.letter) Try.underlying3 rfl (.pl rfl) (i := 0) rfl (rfl)) rfl ?_
            refine WL.q (Y.move (.pl rfl)) rfl ?_
            refine WL.step (WO.mset (f := (Value.int .i64)) (a := v11) Try.underlying104 Try.underlying3 (.pl rfl) (.pl rfl) (.pl rfl) (i := 1) rfl ?_)
            refine WL.nil ?_
            refine W.go hK12 (.cons (i := 2) rfl (.cons (i := 5) rfl (.cons (i := 12) rfl (.cons (i := 13) rfl (.cons (i := 14) rfl (.nil)))))) ?_
            -- region 21: clocks.go:21
            refine W.reg ?_
            obtain ⟨hk14, hF7⟩ := ckh hF7
            refine WL.q (Y.add (.pl rfl) (.pl rfl) (ok64_lt (hk14))) rfl ?_
            refine WL.q (Y.move (.pl rfl)) rfl ?_
            refine WL.nil ?_
            obtain rfl := Option.some.inj hF7
            exact W.again3 hK8 (mput sent9 x12.letter v11) got10 (v11 + 1) k7 hN7 (Nat.lt_succ_self _) (.cons rfl (.nil)) (.cons (i := 2) rfl (.cons (i := 5) rfl (.cons (i := 12) rfl (.cons (i := 13) rfl (.nil))))) (fun w hw => hw.pick [1, 2] rfl)
          · replace hF7 := cneg hC22 hF7
            -- region 13: clocks.go:30
            refine W.seqR fun Q25 hQ25 => ?_
            refine WL.q (Y.fieldAddr0 (off := 1) (ft := 3) Try.underlying64 rfl cells3 (.pl rfl)) rfl ?_
            refine WL.q (Y.loadB (v := .int .i64 x12.kind) Try.underlying3 rfl (.pl rfl) (i := 0) rfl (rfl)) rfl ?_
            refine WL.q (Y.eql (.pl rfl) (.pl rfl)) rfl ?_
            refine WL.q (Y.move (.pl rfl)) rfl ?_
            refine WL.g (.pl rfl rfl rfl) (fun hg => Y.move (.pl rfl)) rfl ?_
            refine WL.g (.pl rfl rfl rfl) (fun hg => Y.not (.gd (hg) rfl)) rfl ?_
            refine WL.q (Y.and (.pl rfl) (fun h2 => .gd (eqt h2) rfl)) rfl ?_
            refine WL.q (Y.assign (.pl rfl)) rfl ?_
            refine WL.next hQ25 (.cons (i := 2) rfl (.cons (i := 5) rfl (.cons (i := 6) rfl (.cons (i := 7) rfl (.cons (i := 12) rfl (.cons (i := 13) rfl (.cons (i := 14) rfl (.cons (i := 66) rfl (.nil))))))))) ?_
            refine W.cond (.pl rfl) (fun hC26 => ?_) (fun hC26 => ?_)
            · replace hF7 := cpos hC26 hF7
              -- region 14: clocks.go:31
              refine W.seqR fun Q27 hQ27 => ?_
              refine WL.q (Y.move (.pl rfl)) rfl ?_
              refine WL.q (Y.assign (.pl rfl)) rfl ?_
              refine WL.q (Y.assign (.pl rfl)) rfl ?_
              refine WL.q (Y.assign (.pl rfl)) rfl ?_
              refine WL.next hQ27 (.cons (i := 2) rfl (.cons (i := 3) rfl (.cons (i := 4) rfl (.nil)))) ?_
              obtain rfl := Option.some.inj hF7
              obtain rfl := einr hN7
              obtain rfl := Option.some.inj hF
              refine W.retV (fn := Try.f51) (vs := [.map none, .int .i64 4, .int .i64 v11]) Try.results51 ⟨.tmp rfl, ⟨.tmp rfl, ⟨.tmp rfl, trivial⟩⟩⟩ (fun _ _ h => h) (fun w hw => ?_)
              exact hR _ _ ⟨none, trivial, rfl, ((St.nilM (hw.pick [] rfl) (Value.int .i64)).pick [0] rfl)⟩
            · replace hF7 := cneg hC26 hF7
              -- region 15: clocks.go:32
              refine W.seqR fun Q28 hQ28 => ?_
              refine WL.q (Y.fieldAddr0 (off := 1) (ft := 3) Try.underlying64 rfl cells3 (.pl rfl)) rfl ?_
              refine WL.q (Y.loadB (v := .int .i64 x12.kind) Try.underlying3 rfl (.pl rfl) (i := 0) rfl (rfl)) rfl ?_
              refine WL.q (Y.eql (.pl rfl) (.pl rfl)) rfl ?_
              refine WL.q (Y.move (.pl rfl)) rfl ?_
              refine WL.g (.pl rfl rfl rfl) (fun hg => Y.move (.pl rfl)) rfl ?_
              refine WL.g (.pl rfl rfl rfl) (fun hg => Y.fieldAddr0 (off := 2) (ft := 3) Try.underlying64 rfl cells3 (.pl rfl)) rfl ?_
              refine WL.g (.pl rfl rfl rfl) (fun hg => Y.loadB (v := .int .i64 x12.letter) Try.underlying3 rfl (.gd (hg) rfl) (i := 0) rfl (rfl)) rfl ?_
              refine WL.g (.pl rfl rfl rfl) (fun hg => Y.mget (f := Value.bool) (dv := false) Try.underlying121 Try.underlying3 zero4 (.gd (hg) rfl) (.gd (hg) rfl) (i := 2) rfl) rfl ?_
              refine WL.q (Y.and (.pl rfl) (fun h2 => .gd (eqt h2) rfl)) rfl ?_
              refine WL.q (Y.assign (.pl rfl)) rfl ?_
              refine WL.next hQ28 (.cons (i := 2) rfl (.cons (i := 5) rfl (.cons (i := 6) rfl (.cons (i := 7) rfl (.cons (i := 12) rfl (.cons (i := 13) rfl (.cons (i := 14) rfl (.cons (i := 75) rfl (.nil))))))))) ?_
              refine W.cond (.pl rfl) (fun hC29 => ?_) (fun hC29 => ?_)
              · replace hF7 := cpos hC29 hF7
                -- region 16: clocks.go:33
                refine W.seqR fun Q30 hQ30 => ?_
                refine WL.q (Y.move (.pl rfl)) rfl ?_
                refine WL.q (Y.assign (.pl rfl)) rfl ?_
                refine WL.q (Y.assign (.pl rfl)) rfl ?_
                refine WL.q (Y.assign (.pl rfl)) rfl ?_
                refine WL.next hQ30 (.cons (i := 2) rfl (.cons (i := 3) rfl (.cons (i := 4) rfl (.nil)))) ?_
                obtain rfl := Option.some.inj hF7
                obtain rfl := einr hN7
                obtain rfl := Option.some.inj hF
                refine W.retV (fn := Try.f51) (vs := [.map none, .int .i64 5, .int .i64 v11]) Try.results51 ⟨.tmp rfl, ⟨.tmp rfl, ⟨.tmp rfl, trivial⟩⟩⟩ (fun _ _ h => h) (fun w hw => ?_)
                exact hR _ _ ⟨none, trivial, rfl, ((St.nilM (hw.pick [] rfl) (Value.int .i64)).pick [0] rfl)⟩
              · replace hF7 := cneg hC29 hF7
                -- region 17: clocks.go:34
                refine W.seqR fun Q31 hQ31 => ?_
                refine WL.q (Y.fieldAddr0 (off := 1) (ft := 3) Try.underlying64 rfl cells3 (.pl rfl)) rfl ?_
                refine WL.q (Y.loadB (v := .int .i64 x12.kind) Try.underlying3 rfl (.pl rfl) (i := 0) rfl (rfl)) rfl ?_
                refine WL.q (Y.eql (.pl rfl) (.pl rfl)) rfl ?_
                refine WL.q (Y.assign (.pl rfl)) rfl ?_
                refine WL.next hQ31 (.cons (i := 2) rfl (.cons (i := 5) rfl (.cons (i := 6) rfl (.cons (i := 7) rfl (.cons (i := 12) rfl (.cons (i := 13) rfl (.cons (i := 14) rfl (.cons (i := 86) rfl (.nil))))))))) ?_
                refine W.cond (.pl rfl) (fun hC32 => ?_) (fun hC32 => ?_)
                · replace hF7 := cpos hC32 hF7
                  -- region 18: clocks.go:35
                  refine W.reg ?_
                  refine WL.q (Y.move (.pl rfl)) rfl ?_
                  refine WL.q (Y.fieldAddr0 (off := 2) (ft := 3) Try.underlying64 rfl cells3 (.pl rfl)) rfl ?_
                  refine WL.q (Y.loadB (v := .int .i64 x12.letter) Try.underlying3 rfl (.pl rfl) (i := 0) rfl (rfl)) rfl ?_
                  refine WL.step (WO.mset (f := Value.bool) (a := true) Try.underlying121 Try.underlying3 (.pl rfl) (.pl rfl) (.pl rfl) (i := 2) rfl ?_)
                  refine WL.nil ?_
                  refine W.go hK12 (.cons (i := 2) rfl (.cons (i := 5) rfl (.cons (i := 12) rfl (.cons (i := 13) rfl (.cons (i := 14) rfl (.nil)))))) ?_
                  -- region 21: clocks.go:21
                  refine W.reg ?_
                  obtain ⟨hk15, hF7⟩ := ckh hF7
                  refine WL.q (Y.add (.pl rfl) (.pl rfl) (ok64_lt (hk15))) rfl ?_
                  refine WL.q (Y.move (.pl rfl)) rfl ?_
                  refine WL.nil ?_
                  obtain rfl := Option.some.inj hF7
                  exact W.again3 hK8 sent9 (mput got10 x12.letter true) (v11 + 1) k7 hN7 (Nat.lt_succ_self _) (.cons rfl (.nil)) (.cons (i := 2) rfl (.cons (i := 5) rfl (.cons (i := 12) rfl (.cons (i := 13) rfl (.nil))))) (fun w hw => hw.pick [1, 2] rfl)
                · replace hF7 := cneg hC32 hF7
                  -- region 19: clocks.go:36
                  refine W.seqR fun Q35 hQ35 => ?_
                  refine WL.q (Y.fieldAddr0 (off := 2) (ft := 3) Try.underlying64 rfl cells3 (.pl rfl)) rfl ?_
                  refine WL.q (Y.loadB (v := .int .i64 x12.letter) Try.underlying3 rfl (.pl rfl) (i := 0) rfl (rfl)) rfl ?_
                  refine WL.q (Y.neq (.pl rfl) (.pl rfl)) rfl ?_
                  refine WL.q (Y.assign (.pl rfl)) rfl ?_
                  refine WL.next hQ35 (.cons (i := 2) rfl (.cons (i := 5) rfl (.cons (i := 6) rfl (.cons (i := 12) rfl (.cons (i := 13) rfl (.cons (i := 14) rfl (.cons (i := 93) rfl (.nil)))))))) ?_
                  refine W.cond (.pl rfl) (fun hC36 => ?_) (fun hC36 => ?_)
                  · replace hF7 := cpos hC36 hF7
                    -- region 20: clocks.go:37
                    refine W.seqR fun Q37 hQ37 => ?_
                    refine WL.q (Y.move (.pl rfl)) rfl ?_
                    refine WL.q (Y.assign (.pl rfl)) rfl ?_
                    refine WL.q (Y.assign (.pl rfl)) rfl ?_
                    refine WL.q (Y.assign (.pl rfl)) rfl ?_
                    refine WL.next hQ37 (.cons (i := 2) rfl (.cons (i := 3) rfl (.cons (i := 4) rfl (.nil)))) ?_
                    obtain rfl := Option.some.inj hF7
                    obtain rfl := einr hN7
                    obtain rfl := Option.some.inj hF
                    refine W.retV (fn := Try.f51) (vs := [.map none, .int .i64 3, .int .i64 v11]) Try.results51 ⟨.tmp rfl, ⟨.tmp rfl, ⟨.tmp rfl, trivial⟩⟩⟩ (fun _ _ h => h) (fun w hw => ?_)
                    exact hR _ _ ⟨none, trivial, rfl, ((St.nilM (hw.pick [] rfl) (Value.int .i64)).pick [0] rfl)⟩
                  · replace hF7 := cneg hC36 hF7
                    refine W.skip ?_
                    refine W.go hK12 (.cons (i := 2) rfl (.cons (i := 5) rfl (.cons (i := 12) rfl (.cons (i := 13) rfl (.cons (i := 14) rfl (.nil)))))) ?_
                    -- region 21: clocks.go:21
                    refine W.reg ?_
                    obtain ⟨hk16, hF7⟩ := ckh hF7
                    refine WL.q (Y.add (.pl rfl) (.pl rfl) (ok64_lt (hk16))) rfl ?_
                    refine WL.q (Y.move (.pl rfl)) rfl ?_
                    refine WL.nil ?_
                    obtain rfl := Option.some.inj hF7
                    exact W.again3 hK8 sent9 got10 (v11 + 1) k7 hN7 (Nat.lt_succ_self _) (.cons rfl (.nil)) (.cons (i := 2) rfl (.cons (i := 5) rfl (.cons (i := 12) rfl (.cons (i := 13) rfl (.nil))))) (fun w hw => hw.pick [1, 2] rfl)
    · replace hF7 := cneg hC11 hF7
      refine W.exit ?_
      obtain rfl := Option.some.inj hF7
      exact W.joinAt1 hK5 sent9 (einr hN7) (.nil) (.cons (i := 2) rfl (.nil)) (fun w hw => hw.pick [0] rfl)
  · -- behind
    rintro sent8 rfl
    -- region 22: clocks.go:40
    refine W.seqR fun Q39 hQ39 => ?_
    refine WL.q (Y.move (.pl rfl)) rfl ?_
    refine WL.q (Y.assign (.pl rfl)) rfl ?_
    refine WL.q (Y.assign (.pl rfl)) rfl ?_
    refine WL.q (Y.assign (.pl rfl)) rfl ?_
    refine WL.next hQ39 (.cons (i := 2) rfl (.cons (i := 3) rfl (.cons (i := 4) rfl (.nil)))) ?_
    obtain rfl := Option.some.inj hF
    refine W.retV (fn := Try.f51) (vs := [.map (some b6), .int .i64 0, .int .i64 0]) Try.results51 ⟨.tmp rfl, ⟨.tmp rfl, ⟨.tmp rfl, trivial⟩⟩⟩ (fun _ _ h => h) (fun w hw => ?_)
    exact hR _ _ ⟨(some b6), trivial, rfl, (hw.pick [0] rfl)⟩

def clocks_Check (N : Nat) (l1 : (List Mark)) : Option (Int × Int) :=
  cond (decide (200 < ((l1).length : Int)))
    (some (0, 2))
    (bd (clocks_letters N l1) fun (r6 : ((List (Int × Int)) × Int × Int)) =>
    some (r6.2.2, r6.2.1))

theorem clocks_Check_ok {N : Nat} {l1 : (List Mark)} {res : (Int × Int)} (hF : clocks_Check N l1 = some res) (w : World) {v5 : Value} (hs4 : SlIn encMark 3 w v5 l1) :
    Pure Try.prog 47 [v5] w (.tuple #[.int .i64 res.1, .int .i64 res.2]) := by
  obtain ⟨A2, c3, rfl, hcc3, hs4⟩ := hs4.form
  refine W.enter (n := 18) Try.func47 rfl rfl Sub.refl (by simp) (St.start w) fun R hR => ?_
  unfold clocks_Check at hF
  -- region 0: clocks.go:44
  refine W.seqR fun Q1 hQ1 => ?_
  refine WL.q (Y.assign (.pl rfl)) rfl ?_
  refine WL.q (Y.assign (.pl rfl)) rfl ?_
  refine WL.next hQ1 (.cons (i := 0) rfl (.nil)) ?_
  refine W.seq fun K2 hK2 => ?_
  -- region 1: clocks.go:45
  refine W.seqR fun Q3 hQ3 => ?_
  refine WL.q (Y.move (.pl rfl)) rfl ?_
  refine WL.q (Y.len Try.underlying57 (.pl rfl)) rfl ?_
  refine WL.q (Y.gtr (.pl rfl) (.pl rfl)) rfl ?_
  refine WL.next hQ3 (.cons (i := 0) rfl (.cons (i := 9) rfl (.nil))) ?_
  refine W.cond (.pl rfl) (fun hC4 => ?_) (fun hC4 => ?_)
  · replace hF := cpos hC4 hF
    -- region 2: clocks.go:46
    refine W.seqR fun Q5 hQ5 => ?_
    refine WL.q (Y.assign (.pl rfl)) rfl ?_
    refine WL.q (Y.assign (.pl rfl)) rfl ?_
    refine WL.next hQ5 (.cons (i := 2) rfl (.cons (i := 3) rfl (.nil))) ?_
    obtain rfl := Option.some.inj hF
    refine W.retV (fn := Try.f47) (vs := [.int .i64 0, .int .i64 2]) Try.results47 ⟨.tmp rfl, ⟨.tmp rfl, trivial⟩⟩ (fun _ _ h => h) (fun w hw => ?_)
    exact hR _ _ ⟨rfl, (hw.pick [] rfl)⟩
  · replace hF := cneg hC4 hF
    refine W.skip ?_
    refine W.go hK2 (.cons (i := 0) rfl (.nil)) ?_
    -- region 3: clocks.go:48
    refine W.seqR fun Q6 hQ6 => ?_
    refine WL.q (Y.move (.pl rfl)) rfl ?_
    obtain ⟨r6, hr6, hF⟩ := bnd hF
    refine WL.step (WO.callM isGo51 (.cons (.pl rfl) (.nil)) rfl (fun w hw => clocks_letters_ok (hr6) w (hs4.mono hw)) ?_)
    rintro b7 -
    refine WL.q (Y.move (.pl rfl)) rfl ?_
    refine WL.q (Y.extract (.pl rfl) rfl) rfl ?_
    refine WL.q (Y.extract (.pl rfl) rfl) rfl ?_
    refine WL.q (Y.extract (.pl rfl) rfl) rfl ?_
    refine WL.q (Y.assign (.pl rfl)) rfl ?_
    refine WL.q (Y.assign (.pl rfl)) rfl ?_
    refine WL.q (Y.assign (.pl rfl)) rfl ?_
    refine WL.next hQ6 (.cons (i := 5) rfl (.cons (i := 6) rfl (.nil))) ?_
    -- region 4: clocks.go:49
    refine W.seqR fun Q7 hQ7 => ?_
    refine WL.q (Y.move (.pl rfl)) rfl ?_
    refine WL.q (Y.move (.pl rfl)) rfl ?_
    refine WL.q (Y.assign (.pl rfl)) rfl ?_
    refine WL.q (Y.assign (.pl rfl)) rfl ?_
    refine WL.next hQ7 (.cons (i := 2) rfl (.cons (i := 3) rfl (.nil))) ?_
    obtain rfl := Option.some.inj hF
    refine W.retV (fn := Try.f47) (vs := [.int .i64 r6.2.2, .int .i64 r6.2.1]) Try.results47 ⟨.tmp rfl, ⟨.tmp rfl, trivial⟩⟩ (fun _ _ h => h) (fun w hw => ?_)
    exact hR _ _ ⟨rfl, (hw.pick [] rfl)⟩

def clocks_vector_join_L3 (N : Nat) (w2 : (List Int)) : ((List Int) × Int) → Option (((List Int) × Int) ⊕ (List Int))
  | (v7, v8) =>
    cond (decide (v8 < 8))
      (bd (ax 8 0 v7 v8) fun (x9 : Int) =>
      bd (ax 8 0 w2 v8) fun (x10 : Int) =>
      bd (ax 8 0 v7 v8) fun (x11 : Int) =>
      ck (ok64 (v8 + 1)) <|
      some (.inl ((setA 8 0 v7 v8 (max x9 x10)), (v8 + 1))))
      (some (.inr v7))

def clocks_vector_join (N : Nat) (v1 : (List Int)) (w2 : (List Int)) : Option (List Int) :=
  bd (α := (List Int)) (iter (clocks_vector_join_L3 N w2) N (v1, 0)) <|
  fun (v6 : (List Int)) => 
    some v6

theorem clocks_vector_join_ok {N : Nat} {v1 : (List Int)} {w2 : (List Int)} {res : (List Int)} (hF : clocks_vector_join N v1 w2 = some res) (w : World) :
    Pure Try.prog 61 [.agg ((encA 8 (eI .i64) 0) v1).toArray, .agg ((encA 8 (eI .i64) 0) w2).toArray] w (.agg ((encA 8 (eI .i64) 0) res).toArray) := by
  refine W.enter (n := 20) Try.func61 rfl rfl Sub.refl (by simp) (St.start w) fun R hR => ?_
  unfold clocks_vector_join at hF
  -- region 0: clocks.go:10
  refine W.seqR fun Q1 hQ1 => ?_
  refine WL.step (WO.boxA (.pl rfl) rfl fun b3 => ?_)
  refine WL.step (WO.boxA (.pl rfl) rfl fun b4 => ?_)
  refine WL.step (WO.alloc (cs := ((encA 8 (eI .i64) 0) []).toArray) zero101 rfl rfl fun b5 => ?_)
  refine WL.next hQ1 (.cons (i := 2) rfl (.cons (i := 3) rfl (.cons (i := 4) rfl (.nil)))) ?_
  obtain ⟨o2, hF2, hF⟩ := bnd hF
  refine W.join1 (Em := fun (v6 : (List Int)) => []) (M := fun v6 => [cBx b3 101 ((encA 8 (eI .i64) 0) v6), cBx b5 101 ((encA 8 (eI .i64) 0) [])]) (I := fun v6 => v6 = o2) (.cons (i := 2) rfl (.cons (i := 4) rfl (.nil))) (fun K3 hK3 => ?_) ?_
  · -- up to
    -- region 1: clocks.go:11
    refine W.seqR fun Q4 hQ4 => ?_
    refine WL.q (Y.move (.pl rfl)) rfl ?_
    refine WL.next hQ4 (.cons (i := 2) rfl (.cons (i := 3) rfl (.cons (i := 4) rfl (.cons (i := 6) rfl (.nil))))) ?_
    refine W.block ?_
    refine W.loop2 (Em := fun (v7 : (List Int)) (v8 : Int) => [(6, .int .i64 v8)]) (M := fun v7 v8 => [cBx b3 101 ((encA 8 (eI .i64) 0) v7), cBx b4 101 ((encA 8 (eI .i64) 0) w2), cBx b5 101 ((encA 8 (eI .i64) 0) [])]) (I := fun v7 v8 k5 => iter (clocks_vector_join_L3 N w2) k5 (v7, v8) = some o2) v1 0 N (hF2) (.cons rfl (.nil)) (.cons (i := 2) rfl (.cons (i := 3) rfl (.cons (i := 4) rfl (.nil)))) (fun w hw => hw.pick [2, 1, 0] rfl) (fun v7 v8 k5 hI K6 hK6 => ?_)
    obtain ⟨k5, t5, rfl, hF5, hN5⟩ := iter_step hI
    -- region 2: clocks.go:11
    refine W.seqR fun Q7 hQ7 => ?_
    refine WL.q (Y.lss (.pl rfl) (.pl rfl)) rfl ?_
    refine WL.next hQ7 (.cons (i := 2) rfl (.cons (i := 3) rfl (.cons (i := 4) rfl (.cons (i := 6) rfl (.cons (i := 7) rfl (.nil)))))) ?_
    refine W.seq fun K8 hK8 => ?_
    refine W.cond (.pl rfl) (fun hC9 => ?_) (fun hC9 => ?_)
    · replace hF5 := cpos hC9 hF5
      refine W.skip ?_
      refine W.go hK8 (.cons (i := 2) rfl (.cons (i := 3) rfl (.cons (i := 4) rfl (.cons (i := 6) rfl (.nil))))) ?_
      refine W.seq fun K10 hK10 => ?_
      refine W.block ?_
      -- region 3: clocks.go:11
      refine W.seqR fun Q11 hQ11 => ?_
      refine WL.q (Y.move (.pl rfl)) rfl ?_
      refine WL.q (Y.assign (.pl rfl)) rfl ?_
      refine WL.next hQ11 (.cons (i := 2) rfl (.cons (i := 3) rfl (.cons (i := 4) rfl (.cons (i := 5) rfl (.cons (i := 6) rfl (.nil)))))) ?_
      -- region 4: clocks.go:12
      refine W.regT 9 (by kernel_rfl) (by kernel_rfl) ?_
      refine WS.q (Y.move (.pl rfl)) rfl ?_
      refine WS.q (Y.move (.pl rfl)) rfl ?_
      obtain ⟨x9, hx9, hF5⟩ := bnd hF5
      refine WS.q (Y.arrZ Try.underlying101 cells3 (.pl rfl) (.pl rfl) (ax_lt (hx9))) rfl ?_
      refine WS.q (Y.loadB (v := .int .i64 x9) Try.underlying3 rfl (.pl rfl) (i := 0) rfl (cellsA (pre := []) (off := 0) (post := []) (a := v7) (enc := (eI .i64)) (d := 0) (n := 8) (sz := 1) (j := 0) (fun _ => rfl) rfl (ax_nat (hx9)) (ax_get (hx9)) rfl)) rfl ?_
      refine WS.q (Y.move (.pl rfl)) rfl ?_
      obtain ⟨x10, hx10, hF5⟩ := bnd hF5
      refine WS.q (Y.arrZ Try.underlying101 cells3 (.pl rfl) (.pl rfl) (ax_lt (hx10))) rfl ?_
      refine WS.q (Y.loadB (v := .int .i64 x10) Try.underlying3 rfl (.pl rfl) (i := 1) rfl (cellsA (pre := []) (off := 0) (post := []) (a := w2) (enc := (eI .i64)) (d := 0) (n := 8) (sz := 1) (j := 0) (fun _ => rfl) rfl (ax_nat (hx10)) (ax_get (hx10)) rfl)) rfl ?_
      refine WS.q (Y.max (.pl rfl) (.pl rfl)) rfl ?_
      obtain ⟨x11, hx11, hF5⟩ := bnd hF5
      refine WS.q (Y.arrZ Try.underlying101 cells3 (.pl rfl) (.pl rfl) (ax_lt (hx11))) rfl ?_
      refine WS.tail ?_
      refine WL.step (WO.storeB (cs' := ((encA 8 (eI .i64) 0) (setA 8 0 v7 v8 (max x9 x10)))) cells3 (.pl rfl) (.pl rfl) rfl (i := 0) rfl (ltl (m := 8) (offlt (off := 0) (sz := 1) (j := 0) (ax_nat (hx11)) (by decide)) rfl) (cellsSet (pre := []) (off := 0) (post := []) (a := v7) (enc := (eI .i64)) (d := 0) (n := 8) (sz := 1) (j := 0) (x := x11) (x' := (max x9 x10)) (fun _ => rfl) rfl (ax_lt (hx11)) (ax_get (hx11)) (by decide) rfl rfl) ?_)
      refine WL.nil ?_
      refine W.go hK10 (.cons (i := 2) rfl (.cons (i := 3) rfl (.cons (i := 4) rfl (.cons (i := 6) rfl (.nil))))) ?_
      -- region 5: clocks.go:11
      refine W.reg ?_
      obtain ⟨hk12, hF5⟩ := ckh hF5
      refine WL.q (Y.add (.pl rfl) (.pl rfl) (ok64_lt (hk12))) rfl ?_
      refine WL.q (Y.move (.pl rfl)) rfl ?_
      refine WL.nil ?_
      obtain rfl := Option.some.inj hF5
      exact W.again2 hK6 (setA 8 0 v7 v8 (max x9 x10)) (v8 + 1) k5 hN5 (Nat.lt_succ_self _) (.cons rfl (.nil)) (.cons (i := 2) rfl (.cons (i := 3) rfl (.cons (i := 4) rfl (.nil)))) (fun w hw => hw.pick [0, 1, 2] rfl)
    · replace hF5 := cneg hC9 hF5
      refine W.exit ?_
      obtain rfl := Option.some.inj hF5
      exact W.joinAt1 hK3 v7 (einr hN5) (.nil) (.cons (i := 2) rfl (.cons (i := 4) rfl (.nil))) (fun w hw => hw.pick [0, 2] rfl)
  · -- behind
    rintro v6 rfl
    -- region 6: clocks.go:14
    refine W.seqR fun Q14 hQ14 => ?_
    refine WL.q (Y.loadBA (ds := ((encA 8 (eI .i64) 0) v6)) Try.underlying101 rfl cells101 (.pl rfl) (i := 0) rfl rfl subW) rfl ?_
    refine WL.step (WO.storeBA (ds := ((encA 8 (eI .i64) 0) v6)) (cs' := ((encA 8 (eI .i64) 0) v6)) cells101 (.pl rfl) (.pl rfl) rfl ((oneA oneI) _) (i := 1) rfl (lel (o := 0) (l := 8) (m := 8) (by decide) rfl rfl) (putW rfl) ?_)
    refine WL.next hQ14 (.cons (i := 4) rfl (.nil)) ?_
    obtain rfl := Option.some.inj hF
    refine W.retV (fn := Try.f61) (vs := [.agg ((encA 8 (eI .i64) 0) v6).toArray]) Try.results61 ⟨.cellA Try.underlying101 rfl cells101 rfl (i := 1) rfl rfl, trivial⟩ (fun _ _ h => h) (fun w hw => ?_)
    exact hR _ _ ⟨rfl, (hw.pick [] rfl)⟩

def clocks_knows_L3 (N : Nat) (l1 : (List Mark)) (r6 : ((List (Int × Int)) × Int × Int)) : ((List (List Int)) × (List (List Int)) × Int) → Option (((List (List Int)) × (List (List Int)) × Int) ⊕ (List (List Int)))
  | (last12, out13, v14) =>
    cond (decide (v14 < ((l1).length : Int)))
      (bd (ix l1 v14) fun (x15 : Mark) =>
      bd (ax 8 [] last12 x15.who) fun (x17 : (List Int)) =>
      bd (α := (List Int)) (cond (decide (x15.kind = 2))
          (bd (ix out13 ((mget r6.1 x15.letter).getD 0)) fun (x20 : (List Int)) =>
          bd (clocks_vector_join N x17 x20) fun (r21 : (List Int)) =>
          some r21)
          (some x17)) <|
      fun (v19 : (List Int)) => 
        bd (ax 8 0 v19 x15.who) fun (x22 : Int) =>
        ck (ok64 (x22 + 1)) <|
        bd (ax 8 0 v19 x15.who) fun (x24 : Int) =>
        bd (ix out13 v14) fun (x25 : (List Int)) =>
        bd (ax 8 [] last12 x15.who) fun (x26 : (List Int)) =>
        ck (ok64 (v14 + 1)) <|
        some (.inl ((setA 8 [] last12 x15.who (setA 8 0 v19 x15.who (x22 + 1))), (out13.set v14.toNat (setA 8 0 v19 x15.who (x22 + 1))), (v14 + 1))))
      (some (.inr out13))

def clocks_knows (N : Nat) (l1 : (List Mark)) : Option (List (List Int)) :=
  bd (clocks_letters N l1) fun (r6 : ((List (Int × Int)) × Int × Int)) =>
  ck (mkB 64 ((l1).length : Int)) <|
  bd (α := (List (List Int))) (iter (clocks_knows_L3 N l1 r6) N ([], (List.replicate ((l1).length : Int).toNat ([] : (List Int))), 0)) <|
  fun (out11 : (List (List Int))) => 
    some out11

theorem clocks_knows_ok {N : Nat} {l1 : (List Mark)} {res : (List (List Int))} (hF : clocks_knows N l1 = some res) (w : World) {v5 : Value} (hs4 : SlIn encMark 3 w v5 l1) :
    Made Try.prog 48 [v5] w (fun g : Option Addr => .slice g (res).length ((l1).length : Int).toNat) (fun g => [cR (encA 8 (eI .i64) 0) 8 g ((l1).length : Int).toNat 101 res]) (fun _ => True) := by
  obtain ⟨A2, c3, rfl, hcc3, hs4⟩ := hs4.form
  refine W.enter (n := 59) Try.func48 rfl rfl Sub.refl (by simp) (St.start w) fun R hR => ?_
  unfold clocks_knows at hF
  -- region 0: clocks.go:72
  refine W.seqR fun Q1 hQ1 => ?_
  refine WL.q (Y.assign (.pl rfl)) rfl ?_
  refine WL.next hQ1 (.cons (i := 0) rfl (.nil)) ?_
  -- region 1: clocks.go:73
  refine W.seqR fun Q2 hQ2 => ?_
  refine WL.q (Y.move (.pl rfl)) rfl ?_
  obtain ⟨r6, hr6, hF⟩ := bnd hF
  refine WL.step (WO.callM isGo51 (.cons (.pl rfl) (.nil)) rfl (fun w hw => clocks_letters_ok (hr6) w (hs4.mono hw)) ?_)
  rintro b7 -
  refine WL.q (Y.move (.pl rfl)) rfl ?_
  refine WL.q (Y.extract (.pl rfl) rfl) rfl ?_
  refine WL.q (Y.extract (.pl rfl) rfl) rfl ?_
  refine WL.q (Y.extract (.pl rfl) rfl) rfl ?_
  refine WL.q (Y.assign (.pl rfl)) rfl ?_
  refine WL.q (Y.assign (.pl rfl)) rfl ?_
  refine WL.q (Y.assign (.pl rfl)) rfl ?_
  refine WL.next hQ2 (.cons (i := 0) rfl (.cons (i := 3) rfl (.nil))) ?_
  -- region 2: clocks.go:74
  refine W.seqR fun Q3 hQ3 => ?_
  refine WL.step (WO.alloc (cs := ((encA 8 (encA 8 (eI .i64) 0) []) []).toArray) zero119 rfl rfl fun b8 => ?_)
  refine WL.next hQ3 (.cons (i := 0) rfl (.cons (i := 3) rfl (.cons (i := 6) rfl (.nil)))) ?_
  -- region 3: clocks.go:75
  refine W.seqR fun Q4 hQ4 => ?_
  refine WL.q (Y.move (.pl rfl)) rfl ?_
  refine WL.q (Y.len Try.underlying57 (.pl rfl)) rfl ?_
  obtain ⟨hk10, hF⟩ := ckh hF
  refine WL.step (WO.makeC (enc := (encA 8 (eI .i64) 0)) (z := []) Try.underlying99 mka101 rfl (.pl rfl) (hk10) rfl fun b9 => ?_)
  refine WL.q (Y.assign (.pl rfl)) rfl ?_
  refine WL.next hQ4 (.cons (i := 0) rfl (.cons (i := 3) rfl (.cons (i := 6) rfl (.cons (i := 7) rfl (.nil))))) ?_
  obtain ⟨o5, hF5, hF⟩ := bnd hF
  refine W.join1 (Em := fun (out11 : (List (List Int))) => [(7, .slice (some ⟨b9, 0, none⟩) (out11).length ((l1).length : Int).toNat)]) (M := fun out11 => [cR (encA 8 (eI .i64) 0) 8 (some ⟨b9, 0, none⟩) ((l1).length : Int).toNat 101 out11]) (I := fun out11 => out11 = o5) (.nil) (fun K6 hK6 => ?_) ?_
  · -- up to
    -- region 4: clocks.go:76
    refine W.seqR fun Q7 hQ7 => ?_
    refine WL.q (Y.move (.pl rfl)) rfl ?_
    refine WL.q (Y.len Try.underlying57 (.pl rfl)) rfl ?_
    refine WL.q (Y.move (.pl rfl)) rfl ?_
    refine WL.next hQ7 (.cons (i := 3) rfl (.cons (i := 6) rfl (.cons (i := 7) rfl (.cons (i := 20) rfl (.cons (i := 21) rfl (.cons (i := 22) rfl (.nil))))))) ?_
    refine W.block ?_
    refine W.loop3 (Em := fun (last12 : (List (List Int))) (out13 : (List (List Int))) (v14 : Int) => [(7, .slice (some ⟨b9, 0, none⟩) (out13).length ((l1).length : Int).toNat), (22, .int .i64 v14)]) (M := fun last12 out13 v14 => [cM (Value.int .i64) b7 r6.1, cBx b8 119 ((encA 8 (encA 8 (eI .i64) 0) []) last12), cR (encA 8 (eI .i64) 0) 8 (some ⟨b9, 0, none⟩) ((l1).length : Int).toNat 101 out13]) (I := fun last12 out13 v14 k8 => iter (clocks_knows_L3 N l1 r6) k8 (last12, out13, v14) = some o5) [] (List.replicate ((l1).length : Int).toNat ([] : (List Int))) 0 N (hF5) (.cons rfl (.cons rfl (.nil))) (.cons (i := 3) rfl (.cons (i := 6) rfl (.cons (i := 20) rfl (.cons (i := 21) rfl (.nil))))) (fun w hw => hw.pick [2, 1, 0] rfl) (fun last12 out13 v14 k8 hI K9 hK9 => ?_)
    obtain ⟨k8, t8, rfl, hF8, hN8⟩ := iter_step hI
    -- region 5: clocks.go:76
    refine W.seqR fun Q10 hQ10 => ?_
    refine WL.q (Y.lss (.pl rfl) (.pl rfl)) rfl ?_
    refine WL.next hQ10 (.cons (i := 3) rfl (.cons (i := 6) rfl (.cons (i := 7) rfl (.cons (i := 20) rfl (.cons (i := 21) rfl (.cons (i := 22) rfl (.cons (i := 23) rfl (.nil)))))))) ?_
    refine W.seq fun K11 hK11 => ?_
    refine W.cond (.pl rfl) (fun hC12 => ?_) (fun hC12 => ?_)
    · replace hF8 := cpos hC12 hF8
      refine W.skip ?_
      refine W.go hK11 (.cons (i := 3) rfl (.cons (i := 6) rfl (.cons (i := 7) rfl (.cons (i := 20) rfl (.cons (i := 21) rfl (.cons (i := 22) rfl (.nil))))))) ?_
      refine W.seq fun K13 hK13 => ?_
      refine W.block ?_
      -- region 6: clocks.go:76
      refine W.seqR fun Q14 hQ14 => ?_
      refine WL.q (Y.move (.pl rfl)) rfl ?_
      obtain ⟨x15, hx15, hF8⟩ := bnd hF8
      refine WL.q (Y.slEl Try.underlying57 cells64 hs4 (.pl rfl) (.pl rfl) (ix_lt (hx15))) rfl ?_
      refine WL.q (Y.loadSA (enc := encMark) (ds := (encMark x15)) (j := 0) Try.underlying64 rfl cells64 hs4 (.pl rfl) (hx15) rfl rfl subW) rfl ?_
      refine WL.step (WO.alloc (cs := (encMark (Mark.mk 0 0 0)).toArray) zero64 rfl rfl fun b16 => ?_)
      refine WL.q (Y.assign (.pl rfl)) rfl ?_
      refine WL.step (WO.storeBA (ds := (encMark x15)) (cs' := (encMark x15)) cells64 (.pl rfl) (.pl rfl) rfl (oneMark _) (i := 0) rfl (lel (o := 0) (l := 3) (m := 3) (by decide) rfl rfl) (putW rfl) ?_)
      refine WL.next hQ14 (.cons (i := 3) rfl (.cons (i := 6) rfl (.cons (i := 7) rfl (.cons (i := 8) rfl (.cons (i := 9) rfl (.cons (i := 20) rfl (.cons (i := 21) rfl (.cons (i := 22) rfl (.nil))))))))) ?_
      -- region 7: clocks.go:77
      refine W.seqR fun Q15 hQ15 => ?_
      refine WL.q (Y.fieldAddr0 (off := 0) (ft := 3) Try.underlying64 rfl cells3 (.pl rfl)) rfl ?_
      refine WL.q (Y.loadB (v := .int .i64 x15.who) Try.underlying3 rfl (.pl rfl) (i := 0) rfl (rfl)) rfl ?_
      obtain ⟨x17, hx17, hF8⟩ := bnd hF8
      refine WL.q (Y.arrZ Try.underlying119 cells101 (.pl rfl) (.pl rfl) (ax_lt (hx17))) rfl ?_
      refine WL.q (Y.loadBA (ds := ((encA 8 (eI .i64) 0) x17)) Try.underlying101 rfl cells101 (.pl rfl) (i := 2) rfl rfl (fun q v h => cellsA (pre := []) (off := 0) (post := []) (a := last12) (enc := (encA 8 (eI .i64) 0)) (d := []) (n := 8) (sz := 8) (fun _ => lenA (sz := 1) (fun _ => rfl)) rfl (ax_nat (hx17)) (ax_get (hx17)) h)) rfl ?_
      refine WL.step (WO.alloc (cs := ((encA 8 (eI .i64) 0) []).toArray) zero101 rfl rfl fun b18 => ?_)
      refine WL.step (WO.storeBA (ds := ((encA 8 (eI .i64) 0) x17)) (cs' := ((encA 8 (eI .i64) 0) x17)) cells101 (.pl rfl) (.pl rfl) rfl ((oneA oneI) _) (i := 0) rfl (lel (o := 0) (l := 8) (m := 8) (by decide) rfl rfl) (putW rfl) ?_)
      refine WL.next hQ15 (.cons (i := 3) rfl (.cons (i := 6) rfl (.cons (i := 7) rfl (.cons (i := 8) rfl (.cons (i := 9) rfl (.cons (i := 10) rfl (.cons (i := 20) rfl (.cons (i := 21) rfl (.cons (i := 22) rfl (.nil)))))))))) ?_
      obtain ⟨o16, hF16, hF8⟩ := bnd hF8
      refine W.join1 (Em := fun (v19 : (List Int)) => []) (M := fun v19 => [cM (Value.int .i64) b7 r6.1, cBx b8 119 ((encA 8 (encA 8 (eI .i64) 0) []) last12), cR (encA 8 (eI .i64) 0) 8 (some ⟨b9, 0, none⟩) ((l1).length : Int).toNat 101 out13, cBx b16 64 (encMark x15), cBx b18 101 ((encA 8 (eI .i64) 0) v19)]) (I := fun v19 => v19 = o16) (.cons (i := 3) rfl (.cons (i := 6) rfl (.cons (i := 7) rfl (.cons (i := 8) rfl (.cons (i := 9) rfl (.cons (i := 10) rfl (.cons (i := 20) rfl (.cons (i := 21) rfl (.cons (i := 22) rfl (.nil)))))))))) (fun K17 hK17 => ?_) ?_
      · -- up to
        -- region 8: clocks.go:78
        refine W.seqR fun Q18 hQ18 => ?_
        refine WL.q (Y.fieldAddr0 (off := 1) (ft := 3) Try.underlying64 rfl cells3 (.pl rfl)) rfl ?_
        refine WL.q (Y.loadB (v := .int .i64 x15.kind) Try.underlying3 rfl (.pl rfl) (i := 1) rfl (rfl)) rfl ?_
        refine WL.q (Y.eql (.pl rfl) (.pl rfl)) rfl ?_
        refine WL.next hQ18 (.cons (i := 3) rfl (.cons (i := 6) rfl (.cons (i := 7) rfl (.cons (i := 8) rfl (.cons (i := 9) rfl (.cons (i := 10) rfl (.cons (i := 20) rfl (.cons (i := 21) rfl (.cons (i := 22) rfl (.cons (i := 33) rfl (.nil))))))))))) ?_
        refine W.cond (.pl rfl) (fun hC19 => ?_) (fun hC19 => ?_)
        · replace hF16 := cpos hC19 hF16
          -- region 9: clocks.go:79
          refine W.regX 9 (by kernel_rfl) ?_
          refine WX.take 0 #[true, false, false, false, false, false, false, false, false, false] (fun w hw => St.tail [] hw) rfl (by kernel_rfl) (Y.loadBA (ds := ((encA 8 (eI .i64) 0) x17)) Try.underlying101 rfl cells101 (.pl rfl) (i := 0) rfl rfl subW) rfl ?_
          refine WX.pure 1 #[true, true, false, false, false, false, false, false, false, false] rfl (by kernel_rfl) (fun _ _ => Y.move (.pl rfl)) rfl ?_
          refine WX.pure 2 #[true, true, true, false, false, false, false, false, false, false] rfl (by kernel_rfl) (fun _ _ => Y.move (.pl rfl)) rfl ?_
          refine WX.pure 3 #[true, true, true, true, false, false, false, false, false, false] rfl (by kernel_rfl) (fun _ _ => Y.fieldAddr0 (off := 2) (ft := 3) Try.underlying64 rfl cells3 (.pl rfl)) rfl ?_
          refine WX.take 4 #[true, true, true, true, true, false, false, false, false, false] (fun w hw => St.tail [] hw) rfl (by kernel_rfl) (Y.loadB (v := .int .i64 x15.letter) Try.underlying3 rfl (.pl rfl) (i := 1) rfl (rfl)) rfl ?_
          refine WX.take 5 #[true, true, true, true, true, true, false, false, false, false] (fun w hw => St.tail [] hw) rfl (by kernel_rfl) (Y.mget (f := (Value.int .i64)) (dv := 0) Try.underlying104 Try.underlying3 zero3 (.pl rfl) (.pl rfl) (i := 2) rfl) rfl ?_
          obtain ⟨x20, hx20, hF16⟩ := bnd hF16
          refine WX.pure 6 #[true, true, true, true, true, true, true, false, false, false] rfl (by kernel_rfl) (fun _ _ => Y.litEl (xs := out13) Try.underlying99 cells101 (.pl rfl) rfl (.pl rfl) (ix_lt (hx20))) rfl ?_
          refine WX.take 7 #[true, true, true, true, true, true, true, true, false, false] (fun w hw => St.tail [] hw) rfl (by kernel_rfl) (Y.loadRA (enc := (encA 8 (eI .i64) 0)) (ds := ((encA 8 (eI .i64) 0) x20)) (a := x20) (idx := ((mget r6.1 x15.letter).getD 0)) (j := 0) Try.underlying101 rfl cells101 (fun _ => lenA (sz := 1) (fun _ => rfl)) (i := 4) rfl (.pl rfl) (ix_get (hx20)) rfl rfl subW) rfl ?_
          obtain ⟨r21, hr21, hF16⟩ := bnd hF16
          refine WX.one 8 #[true, true, true, true, true, true, true, true, true, false] (fun w hw => St.tail [] hw) rfl (by kernel_rfl) (WO.callP isGo61 (.cons (.pl rfl) (.cons (.pl rfl) (.nil))) rfl (fun w hw => clocks_vector_join_ok (hr21) w ) ?_)
          refine WX.stop #[true, true, true, true, true, true, true, true, true, true] (fun w hw => St.tail [] hw) rfl (by kernel_rfl) (WO.storeBA (ds := ((encA 8 (eI .i64) 0) r21)) (cs' := ((encA 8 (eI .i64) 0) r21)) cells101 (.pl rfl) (.pl rfl) rfl ((oneA oneI) _) (i := 0) rfl (lel (o := 0) (l := 8) (m := 8) (by decide) rfl rfl) (putW rfl) ?_)
          refine WA.done (by kernel_rfl) ?_
          exact W.joinAt1 hK17 r21 (Option.some.inj hF16) (.nil) (.cons (i := 3) rfl (.cons (i := 6) rfl (.cons (i := 7) rfl (.cons (i := 8) rfl (.cons (i := 9) rfl (.cons (i := 10) rfl (.cons (i := 20) rfl (.cons (i := 21) rfl (.cons (i := 22) rfl (.nil)))))))))) (fun w hw => hw.pick [2, 3, 4, 1, 0] rfl)
        · replace hF16 := cneg hC19 hF16
          refine W.skip ?_
          exact W.joinAt1 hK17 x17 (Option.some.inj hF16) (.nil) (.cons (i := 3) rfl (.cons (i := 6) rfl (.cons (i := 7) rfl (.cons (i := 8) rfl (.cons (i := 9) rfl (.cons (i := 10) rfl (.cons (i := 20) rfl (.cons (i := 21) rfl (.cons (i := 22) rfl (.nil)))))))))) (fun w hw => hw.pick [2, 3, 4, 1, 0] rfl)
      · -- behind
        rintro v19 rfl
        -- region 10: clocks.go:81
        refine W.seqR fun Q21 hQ21 => ?_
        refine WL.q (Y.fieldAddr0 (off := 0) (ft := 3) Try.underlying64 rfl cells3 (.pl rfl)) rfl ?_
        refine WL.q (Y.loadB (v := .int .i64 x15.who) Try.underlying3 rfl (.pl rfl) (i := 3) rfl (rfl)) rfl ?_
        obtain ⟨x22, hx22, hF8⟩ := bnd hF8
        refine WL.q (Y.arrZ Try.underlying101 cells3 (.pl rfl) (.pl rfl) (ax_lt (hx22))) rfl ?_
        refine WL.q (Y.loadB (v := .int .i64 x22) Try.underlying3 rfl (.pl rfl) (i := 4) rfl (cellsA (pre := []) (off := 0) (post := []) (a := v19) (enc := (eI .i64)) (d := 0) (n := 8) (sz := 1) (j := 0) (fun _ => rfl) rfl (ax_nat (hx22)) (ax_get (hx22)) rfl)) rfl ?_
        obtain ⟨hk23, hF8⟩ := ckh hF8
        refine WL.q (Y.add (.pl rfl) (.pl rfl) (ok64_lt (hk23))) rfl ?_
        obtain ⟨x24, hx24, hF8⟩ := bnd hF8
        refine WL.q (Y.arrZ Try.underlying101 cells3 (.pl rfl) (.pl rfl) (ax_lt (hx24))) rfl ?_
        refine WL.step (WO.storeB (cs' := ((encA 8 (eI .i64) 0) (setA 8 0 v19 x15.who (x22 + 1)))) cells3 (.pl rfl) (.pl rfl) rfl (i := 4) rfl (ltl (m := 8) (offlt (off := 0) (sz := 1) (j := 0) (ax_nat (hx24)) (by decide)) rfl) (cellsSet (pre := []) (off := 0) (post := []) (a := v19) (enc := (eI .i64)) (d := 0) (n := 8) (sz := 1) (j := 0) (x := x24) (x' := (x22 + 1)) (fun _ => rfl) rfl (ax_lt (hx24)) (ax_get (hx24)) (by decide) rfl rfl) ?_)
        refine WL.next hQ21 (.cons (i := 3) rfl (.cons (i := 6) rfl (.cons (i := 7) rfl (.cons (i := 8) rfl (.cons (i := 9) rfl (.cons (i := 10) rfl (.cons (i := 20) rfl (.cons (i := 21) rfl (.cons (i := 22) rfl (.nil)))))))))) ?_
        -- region 11: clocks.go:82
        refine W.regXK 9 [0, 1, 3, 4] (by kernel_rfl) ?_
        refine WX.pure 0 #[true, false, false, false, false, false, false, false, false, false] rfl (by kernel_rfl) (fun _ _ => Y.move (.pl rfl)) rfl ?_
        refine WX.pure 1 #[true, true, false, false, false, false, false, false, false, false] rfl (by kernel_rfl) (fun _ _ => Y.move (.pl rfl)) rfl ?_
        refine WX.pure 2 #[true, true, true, false, false, false, false, false, false, false] rfl (by kernel_rfl) (fun _ _ => Y.fieldAddr0 (off := 0) (ft := 3) Try.underlying64 rfl cells3 (.pl rfl)) rfl ?_
        refine WX.take 3 #[true, true, true, true, false, false, false, false, false, false] (fun w hw => hw.pick [0, 1, 3, 4] rfl) rfl (by kernel_rfl) (Y.loadB (v := .int .i64 x15.who) Try.underlying3 rfl (.pl rfl) (i := 2) rfl (rfl)) rfl ?_
        refine WX.take 4 #[true, true, true, true, true, false, false, false, false, false] (fun w hw => hw.pick [0, 1, 3, 4] rfl) rfl (by kernel_rfl) (Y.loadBA (ds := ((encA 8 (eI .i64) 0) (setA 8 0 v19 x15.who (x22 + 1)))) Try.underlying101 rfl cells101 (.pl rfl) (i := 3) rfl rfl subW) rfl ?_
        refine WX.take 5 #[true, true, true, true, true, true, false, false, false, false] (fun w hw => hw.pick [0, 1, 3, 4] rfl) rfl (by kernel_rfl) (Y.loadBA (ds := ((encA 8 (eI .i64) 0) (setA 8 0 v19 x15.who (x22 + 1)))) Try.underlying101 rfl cells101 (.pl rfl) (i := 3) rfl rfl subW) rfl ?_
        obtain ⟨x25, hx25, hF8⟩ := bnd hF8
        refine WX.pure 6 #[true, true, true, true, true, true, true, false, false, false] rfl (by kernel_rfl) (fun _ _ => Y.litEl (xs := out13) Try.underlying99 cells101 (.pl rfl) rfl (.pl rfl) (ix_lt (hx25))) rfl ?_
        refine WX.one 7 #[true, true, true, true, true, true, true, true, false, false] (fun w hw => hw.pick [0, 1, 3, 4] rfl) rfl (by kernel_rfl) (WO.storeSA (enc := (encA 8 (eI .i64) 0)) (a' := (setA 8 0 v19 x15.who (x22 + 1))) (idx := v14) cells101 (.pl rfl) (.pl rfl) (fun _ => lenA (sz := 1) (fun _ => rfl)) rfl ((oneA oneI) _) (i := 2) rfl (ix_lt (hx25)) rfl ?_)
        obtain ⟨x26, hx26, hF8⟩ := bnd hF8
        refine WX.pure 8 #[true, true, true, true, true, true, true, true, true, false] rfl (by kernel_rfl) (fun _ _ => Y.arrZ Try.underlying119 cells101 (.pl rfl) (.pl rfl) (ax_lt (hx26))) rfl ?_
        refine WX.stop #[true, true, true, true, true, true, true, true, true, true] (fun w hw => hw.pick [0, 1, 3, 4] rfl) rfl (by kernel_rfl) (WO.storeBA (ds := ((encA 8 (eI .i64) 0) (setA 8 0 v19 x15.who (x22 + 1)))) (cs' := ((encA 8 (encA 8 (eI .i64) 0) []) (setA 8 [] last12 x15.who (setA 8 0 v19 x15.who (x22 + 1))))) cells101 (.pl rfl) (.pl rfl) rfl ((oneA oneI) _) (i := 1) rfl (lel (l := 8) (m := 64) (offle (off := 0) (sz := 8) (ax_nat (hx26)) (by decide)) rfl rfl) (cellsPut (pre := []) (off := 0) (post := []) (a := last12) (enc := (encA 8 (eI .i64) 0)) (d := []) (n := 8) (sz := 8) (fun _ => lenA (sz := 1) (fun _ => rfl)) rfl (ax_lt (hx26)) rfl) ?_)
        refine WA.done (by kernel_rfl) ?_
        refine W.go hK13 (.cons (i := 3) rfl (.cons (i := 6) rfl (.cons (i := 7) rfl (.cons (i := 20) rfl (.cons (i := 21) rfl (.cons (i := 22) rfl (.nil))))))) ?_
        -- region 12: clocks.go:76
        refine W.reg ?_
        obtain ⟨hk27, hF8⟩ := ckh hF8
        refine WL.q (Y.add (.pl rfl) (.pl rfl) (ok64_lt (hk27))) rfl ?_
        refine WL.q (Y.move (.pl rfl)) rfl ?_
        refine WL.nil ?_
        obtain rfl := Option.some.inj hF8
        exact W.again3 hK9 (setA 8 [] last12 x15.who (setA 8 0 v19 x15.who (x22 + 1))) (out13.set v14.toNat (setA 8 0 v19 x15.who (x22 + 1))) (v14 + 1) k8 hN8 (Nat.lt_succ_self _) (.cons (eqSl (by simp)) (.cons rfl (.nil))) (.cons (i := 3) rfl (.cons (i := 6) rfl (.cons (i := 20) rfl (.cons (i := 21) rfl (.nil))))) (fun w hw => hw.pick [0, 1, 2] rfl)
    · replace hF8 := cneg hC12 hF8
      refine W.exit ?_
      obtain rfl := Option.some.inj hF8
      exact W.joinAt1 hK6 out13 (einr hN8) (.cons rfl (.nil)) (.nil) (fun w hw => hw.pick [2] rfl)
  · -- behind
    rintro out11 rfl
    -- region 13: clocks.go:84
    refine W.seqR fun Q24 hQ24 => ?_
    refine WL.q (Y.move (.pl rfl)) rfl ?_
    refine WL.q (Y.assign (.pl rfl)) rfl ?_
    refine WL.next hQ24 (.cons (i := 2) rfl (.nil)) ?_
    obtain rfl := Option.some.inj hF
    refine W.retV (fn := Try.f48) (vs := [.slice (some ⟨b9, 0, none⟩) (out11).length ((l1).length : Int).toNat]) Try.results48 ⟨.tmp rfl, trivial⟩ (fun _ _ h => h) (fun w hw => ?_)
    exact hR _ _ ⟨(some ⟨b9, 0, none⟩), trivial, rfl, (hw.pick [0] rfl)⟩

def clocks_Knows_L3 (N : Nat) (r11 : (List (List Int))) : ((List (List Int)) × Int) → Option (((List (List Int)) × Int) ⊕ (List (List Int)))
  | (out15, v17) =>
    cond (decide (v17 < ((r11).length : Int)))
      (bd (ix r11 v17) fun (x18 : (List Int)) =>
      ck (limB 8 ((arrL 8 0 x18)).length) <|
      ck (limB 24 ((out15).length + (([(arrL 8 0 x18)] : List (List Int))).length)) <|
      ck (ok64 (v17 + 1)) <|
      some (.inl ((out15 ++ ([(arrL 8 0 x18)] : List (List Int))), (v17 + 1))))
      (some (.inr out15))

def clocks_Knows (N : Nat) (l1 : (List Mark)) : Option ((List (List Int)) × Int) :=
  bd (clocks_Check N l1) fun (r6 : (Int × Int)) =>
  cond (!(decide (r6.2 = 0)))
    (some ([], r6.2))
    (bd (α := (List (List Int))) (bd (clocks_knows N l1) fun (r11 : (List (List Int))) =>
      iter (clocks_Knows_L3 N r11) N ([], 0)) <|
    fun (out9 : (List (List Int))) => 
      some (out9, 0))

theorem clocks_Knows_ok {N : Nat} {l1 : (List Mark)} {res : ((List (List Int)) × Int)} (hF : clocks_Knows N l1 = some res) (w : World) {v5 : Value} (hs4 : SlIn encMark 3 w v5 l1) :
    Made Try.prog 28 [v5] w (fun g : (Option Addr × Nat × List Hd) => .tuple #[.slice g.1 (res.1).length g.2.1, .int .i64 res.2]) (fun g => [cN encSl (innSl (eI .i64) 1 3) 1 g.1 g.2.1 22 g.2.2 res.1]) (fun _ => True) := by
  obtain ⟨A2, c3, rfl, hcc3, hs4⟩ := hs4.form
  refine W.enter (n := 31) Try.func28 rfl rfl Sub.refl (by simp) (St.start w) fun R hR => ?_
  unfold clocks_Knows at hF
  -- region 0: clocks.go:88
  refine W.seqR fun Q1 hQ1 => ?_
  refine WL.q (Y.assign (.pl rfl)) rfl ?_
  refine WL.q (Y.assign (.pl rfl)) rfl ?_
  refine WL.next hQ1 (.cons (i := 0) rfl (.nil)) ?_
  refine W.seq fun K2 hK2 => ?_
  -- region 1: clocks.go:89
  refine W.seqR fun Q3 hQ3 => ?_
  refine WL.q (Y.move (.pl rfl)) rfl ?_
  obtain ⟨r6, hr6, hF⟩ := bnd hF
  refine WL.step (WO.callP isGo47 (.cons (.pl rfl) (.nil)) rfl (fun w hw => clocks_Check_ok (hr6) w (hs4.mono hw)) ?_)
  refine WL.q (Y.move (.pl rfl)) rfl ?_
  refine WL.q (Y.extract (.pl rfl) rfl) rfl ?_
  refine WL.q (Y.extract (.pl rfl) rfl) rfl ?_
  refine WL.q (Y.assign (.pl rfl)) rfl ?_
  refine WL.q (Y.assign (.pl rfl)) rfl ?_
  refine WL.next hQ3 (.cons (i := 0) rfl (.cons (i := 5) rfl (.nil))) ?_
  -- region 2: clocks.go:89
  refine W.seqR fun Q4 hQ4 => ?_
  refine WL.q (Y.move (.pl rfl)) rfl ?_
  refine WL.q (Y.neq (.pl rfl) (.pl rfl)) rfl ?_
  refine WL.next hQ4 (.cons (i := 0) rfl (.cons (i := 5) rfl (.cons (i := 15) rfl (.nil)))) ?_
  refine W.cond (.pl rfl) (fun hC5 => ?_) (fun hC5 => ?_)
  · replace hF := cpos hC5 hF
    -- region 3: clocks.go:90
    refine W.seqR fun Q6 hQ6 => ?_
    refine WL.q (Y.move (.pl rfl)) rfl ?_
    refine WL.q (Y.assign (.pl rfl)) rfl ?_
    refine WL.q (Y.assign (.pl rfl)) rfl ?_
    refine WL.next hQ6 (.cons (i := 2) rfl (.cons (i := 3) rfl (.nil))) ?_
    obtain rfl := Option.some.inj hF
    refine W.retV (fn := Try.f28) (vs := [.slice none 0 0, .int .i64 r6.2]) Try.results28 ⟨.tmp rfl, ⟨.tmp rfl, trivial⟩⟩ (fun _ _ h => h) (fun w hw => ?_)
    exact hR _ _ ⟨(none, 0, []), trivial, rfl, ((St.nilN (hw.pick [] rfl) encSl (innSl (eI .i64) 1 3) 1 22).pick [0] rfl)⟩
  · replace hF := cneg hC5 hF
    refine W.skip ?_
    refine W.go hK2 (.cons (i := 0) rfl (.nil)) ?_
    -- region 4: clocks.go:92
    refine W.seqR fun Q7 hQ7 => ?_
    refine WL.q (Y.assign (.pl rfl)) rfl ?_
    refine WL.next hQ7 (.cons (i := 0) rfl (.cons (i := 6) rfl (.nil))) ?_
    obtain ⟨o8, hF8, hF⟩ := bnd hF
    refine W.join4 (Em := fun (out9 : (List (List Int))) (A7 : Option Addr) (c8 : Nat) (hd10 : List Hd) => [(6, .slice A7 (out9).length c8)]) (M := fun out9 A7 c8 hd10 => [cN encSl (innSl (eI .i64) 1 3) 1 A7 c8 22 hd10 out9]) (I := fun out9 A7 c8 hd10 => out9 = o8) (.nil) (fun K9 hK9 => ?_) ?_
    · -- up to
      -- region 5: clocks.go:93
      refine W.seqR fun Q10 hQ10 => ?_
      refine WL.q (Y.move (.pl rfl)) rfl ?_
      obtain ⟨r11, hr11, hF8⟩ := bnd hF8
      refine WL.step (WO.callM isGo48 (.cons (.pl rfl) (.nil)) rfl (fun w hw => clocks_knows_ok (hr11) w (hs4.mono hw)) ?_)
      rintro A12 -
      refine WL.q (Y.len Try.underlying99 (.pl rfl)) rfl ?_
      refine WL.q (Y.move (.pl rfl)) rfl ?_
      refine WL.next hQ10 (.cons (i := 6) rfl (.cons (i := 18) rfl (.cons (i := 19) rfl (.cons (i := 20) rfl (.nil))))) ?_
      refine W.block ?_
      refine W.loop5 (Em := fun (out15 : (List (List Int))) (v17 : Int) (A13 : Option Addr) (c14 : Nat) (hd16 : List Hd) => [(6, .slice A13 (out15).length c14), (20, .int .i64 v17)]) (M := fun out15 v17 A13 c14 hd16 => [cN encSl (innSl (eI .i64) 1 3) 1 A13 c14 22 hd16 out15, cR (encA 8 (eI .i64) 0) 8 A12 ((l1).length : Int).toNat 101 r11]) (I := fun out15 v17 A13 c14 hd16 k11 => iter (clocks_Knows_L3 N r11) k11 (out15, v17) = some o8) [] 0 none 0 [] N (hF8) (.cons rfl (.cons rfl (.nil))) (.cons (i := 18) rfl (.cons (i := 19) rfl (.nil))) (fun w hw => (St.nilN (hw.pick [0] rfl) encSl (innSl (eI .i64) 1 3) 1 22).pick [0, 1] rfl) (fun out15 v17 A13 c14 hd16 k11 hI K12 hK12 => ?_)
      obtain ⟨k11, t11, rfl, hF11, hN11⟩ := iter_step hI
      -- region 6: clocks.go:93
      refine W.seqR fun Q13 hQ13 => ?_
      refine WL.q (Y.lss (.pl rfl) (.pl rfl)) rfl ?_
      refine WL.next hQ13 (.cons (i := 6) rfl (.cons (i := 18) rfl (.cons (i := 19) rfl (.cons (i := 20) rfl (.cons (i := 21) rfl (.nil)))))) ?_
      refine W.seq fun K14 hK14 => ?_
      refine W.cond (.pl rfl) (fun hC15 => ?_) (fun hC15 => ?_)
      · replace hF11 := cpos hC15 hF11
        refine W.skip ?_
        refine W.go hK14 (.cons (i := 6) rfl (.cons (i := 18) rfl (.cons (i := 19) rfl (.cons (i := 20) rfl (.nil))))) ?_
        refine W.seq fun K16 hK16 => ?_
        refine W.block ?_
        -- region 7: clocks.go:93
        refine W.seqR fun Q17 hQ17 => ?_
        obtain ⟨x18, hx18, hF11⟩ := bnd hF11
        refine WL.q (Y.rowEl Try.underlying99 cells101 (i := 1) rfl (.pl rfl) rfl (.pl rfl) (ix_lt (hx18))) rfl ?_
        refine WL.q (Y.loadRA (enc := (encA 8 (eI .i64) 0)) (ds := ((encA 8 (eI .i64) 0) x18)) (a := x18) (idx := v17) (j := 0) Try.underlying101 rfl cells101 (fun _ => lenA (sz := 1) (fun _ => rfl)) (i := 1) rfl (.pl rfl) (ix_get (hx18)) rfl rfl subW) rfl ?_
        refine WL.step (WO.alloc (cs := ((encA 8 (eI .i64) 0) []).toArray) zero101 rfl rfl fun b19 => ?_)
        refine WL.step (WO.storeBA (ds := ((encA 8 (eI .i64) 0) x18)) (cs' := ((encA 8 (eI .i64) 0) x18)) cells101 (.pl rfl) (.pl rfl) rfl ((oneA oneI) _) (i := 0) rfl (lel (o := 0) (l := 8) (m := 8) (by decide) rfl rfl) (putW rfl) ?_)
        refine WL.next hQ17 (.cons (i := 6) rfl (.cons (i := 8) rfl (.cons (i := 18) rfl (.cons (i := 19) rfl (.cons (i := 20) rfl (.nil)))))) ?_
        -- region 8: clocks.go:94
        refine W.reg ?_
        refine WL.q (Y.move (.pl rfl)) rfl ?_
        refine WL.q (Y.sliceArr Try.underlying101 cells3 (by decide) (.pl rfl)) rfl ?_
        obtain ⟨hk22, hF11⟩ := ckh hF11
        refine WL.step (WO.appendNilS (enc := (eI .i64)) (ys := (arrL 8 0 x18)) Try.underlying22 ap3 (fun _ => rfl) oneI (.pl rfl) (.pl rfl) (fun w hw => SlIn.ofArr (n := 8) (a := x18) (fun _ => rfl) hw (i := 0) rfl) (hk22) rfl fun A20 c21 => ?_)
        refine WL.step (WO.bsliceN (enc := encSl) (inn := (innSl (eI .i64) 1 3)) (hs := ([((A20, c21) : Hd)] : List Hd)) (xs := ([(arrL 8 0 x18)] : List (List Int))) Try.underlying58 bz22 (.cons (.pl rfl) (.nil)) rfl rfl rfl rfl rfl lenSl (by decide) (by decide) (.pick [0, 1, 2, 3] rfl) rfl fun b23 => ?_)
        obtain ⟨hk26, hF11⟩ := ckh hF11
        refine WL.step (WO.appendN (enc := encSl) (inn := (innSl (eI .i64) 1 3)) (hs := hd16) Try.underlying58 ap22 lenSl oneSl (.pl rfl) rfl (.pl rfl) (i := 1) rfl (hk26) rfl fun A24 c25 => ?_)
        refine WL.q (Y.assign (.pl rfl)) rfl ?_
        refine WL.nil ?_
        refine W.go hK16 (.cons (i := 6) rfl (.cons (i := 18) rfl (.cons (i := 19) rfl (.cons (i := 20) rfl (.nil))))) ?_
        -- region 9: clocks.go:93
        refine W.reg ?_
        obtain ⟨hk27, hF11⟩ := ckh hF11
        refine WL.q (Y.add (.pl rfl) (.pl rfl) (ok64_lt (hk27))) rfl ?_
        refine WL.q (Y.move (.pl rfl)) rfl ?_
        refine WL.nil ?_
        obtain rfl := Option.some.inj hF11
        exact W.again5 hK12 (out15 ++ ([(arrL 8 0 x18)] : List (List Int))) (v17 + 1) A24 c25 (hd16 ++ ([((A20, c21) : Hd)] : List Hd)) k11 hN11 (Nat.lt_succ_self _) (.cons rfl (.cons rfl (.nil))) (.cons (i := 18) rfl (.cons (i := 19) rfl (.nil))) (fun w hw => hw.pick [0, 2] rfl)
      · replace hF11 := cneg hC15 hF11
        refine W.exit ?_
        obtain rfl := Option.some.inj hF11
        exact W.joinAt4 hK9 out15 A13 c14 hd16 (einr hN11) (.cons rfl (.nil)) (.nil) (fun w hw => hw.pick [0] rfl)
    · -- behind
      rintro out9 A7 c8 hd10 rfl
      -- region 10: clocks.go:96
      refine W.seqR fun Q20 hQ20 => ?_
      refine WL.q (Y.move (.pl rfl)) rfl ?_
      refine WL.q (Y.assign (.pl rfl)) rfl ?_
      refine WL.q (Y.assign (.pl rfl)) rfl ?_
      refine WL.next hQ20 (.cons (i := 2) rfl (.cons (i := 3) rfl (.nil))) ?_
      obtain rfl := Option.some.inj hF
      refine W.retV (fn := Try.f28) (vs := [.slice A7 (out9).length c8, .int .i64 0]) Try.results28 ⟨.tmp rfl, ⟨.tmp rfl, trivial⟩⟩ (fun _ _ h => h) (fun w hw => ?_)
      exact hR _ _ ⟨(A7, c8, hd10), trivial, rfl, (hw.pick [0] rfl)⟩

def alibkeep_posted (N : Nat) : Option Unit :=
  some ()

theorem alibkeep_posted_ok {N : Nat} {res : Unit} (hF : alibkeep_posted N = some res) (w : World) :
    Made Try.prog 49 [] w (fun g : Option Addr => .slice g (([(Mark.mk 0 0 0), (Mark.mk 0 1 0), (Mark.mk 1 0 0), (Mark.mk 1 2 0), (Mark.mk 0 0 0)] : List Mark)).length (([(Mark.mk 0 0 0), (Mark.mk 0 1 0), (Mark.mk 1 0 0), (Mark.mk 1 2 0), (Mark.mk 0 0 0)] : List Mark)).length) (fun g => [cR encMark 3 g (([(Mark.mk 0 0 0), (Mark.mk 0 1 0), (Mark.mk 1 0 0), (Mark.mk 1 2 0), (Mark.mk 0 0 0)] : List Mark)).length 64 ([(Mark.mk 0 0 0), (Mark.mk 0 1 0), (Mark.mk 1 0 0), (Mark.mk 1 2 0), (Mark.mk 0 0 0)] : List Mark)]) (fun _ => True) := by
  refine W.enter (n := 7) Try.func49 rfl rfl Sub.refl (by simp) (St.start w) fun R hR => ?_
  unfold alibkeep_posted at hF
  -- region 0: clocks.go:12
  refine W.seqR fun Q1 hQ1 => ?_
  refine WL.q (Y.assign (.pl rfl)) rfl ?_
  refine WL.next hQ1 (.nil) ?_
  -- region 1: clocks.go:13
  refine W.seqR fun Q2 hQ2 => ?_
  refine WL.q (Y.build (cs := (encMark (Mark.mk 0 0 0)).toArray) shape64 (.cons (.pl rfl) (.nil)) (one_parts ⟨rfl, trivial⟩) rfl) rfl ?_
  refine WL.q (Y.build (cs := (encMark (Mark.mk 0 1 0)).toArray) shape64 (.cons (.pl rfl) (.cons (.pl rfl) (.nil))) (one_parts ⟨rfl, ⟨rfl, trivial⟩⟩) rfl) rfl ?_
  refine WL.q (Y.build (cs := (encMark (Mark.mk 1 0 0)).toArray) shape64 (.cons (.pl rfl) (.nil)) (one_parts ⟨rfl, trivial⟩) rfl) rfl ?_
  refine WL.q (Y.build (cs := (encMark (Mark.mk 1 2 0)).toArray) shape64 (.cons (.pl rfl) (.cons (.pl rfl) (.nil))) (one_parts ⟨rfl, ⟨rfl, trivial⟩⟩) rfl) rfl ?_
  refine WL.q (Y.build (cs := (encMark (Mark.mk 0 0 0)).toArray) shape64 (.cons (.pl rfl) (.nil)) (one_parts ⟨rfl, trivial⟩) rfl) rfl ?_
  refine WL.step (WO.bsliceC (enc := encMark) (ys := ([(Mark.mk 0 0 0), (Mark.mk 0 1 0), (Mark.mk 1 0 0), (Mark.mk 1 2 0), (Mark.mk 0 0 0)] : List Mark)) Try.underlying57 bz64 (.cons (.pl rfl) (.cons (.pl rfl) (.cons (.pl rfl) (.cons (.pl rfl) (.cons (.pl rfl) (.nil)))))) rfl lenMark rfl rfl (by decide) (by decide) rfl fun b1 => ?_)
  refine WL.q (Y.assign (.pl rfl)) rfl ?_
  refine WL.next hQ2 (.cons (i := 0) rfl (.nil)) ?_
  obtain rfl := Option.some.inj hF
  refine W.retV (fn := Try.f49) (vs := [.slice (some ⟨b1, 0, none⟩) (([(Mark.mk 0 0 0), (Mark.mk 0 1 0), (Mark.mk 1 0 0), (Mark.mk 1 2 0), (Mark.mk 0 0 0)] : List Mark)).length (([(Mark.mk 0 0 0), (Mark.mk 0 1 0), (Mark.mk 1 0 0), (Mark.mk 1 2 0), (Mark.mk 0 0 0)] : List Mark)).length]) Try.results49 ⟨.tmp rfl, trivial⟩ (fun _ _ h => h) (fun w hw => ?_)
  exact hR _ _ ⟨(some ⟨b1, 0, none⟩), trivial, rfl, (hw.pick [0] rfl)⟩

def clocks_Times_L3 (N : Nat) (l1 : (List Mark)) (r7 : ((List (Int × Int)) × Int × Int)) : ((List Int) × (List Int) × Int) → Option (((List Int) × (List Int) × Int) ⊕ (List Int))
  | (last13, out14, v15) =>
    cond (decide (v15 < ((l1).length : Int)))
      (bd (ix l1 v15) fun (x16 : Mark) =>
      bd (ax 8 0 last13 x16.who) fun (x18 : Int) =>
      bd (α := Int) (cond (decide (x16.kind = 2))
          (bd (ix out14 ((mget r7.1 x16.letter).getD 0)) fun (x20 : Int) =>
          some (max x18 x20))
          (some x18)) <|
      fun (n19 : Int) => 
        ck (ok64 (n19 + 1)) <|
        bd (ix out14 v15) fun (x22 : Int) =>
        ck (ok64 (n19 + 1)) <|
        bd (ax 8 0 last13 x16.who) fun (x24 : Int) =>
        ck (ok64 (v15 + 1)) <|
        some (.inl ((setA 8 0 last13 x16.who (n19 + 1)), (out14.set v15.toNat (n19 + 1)), (v15 + 1))))
      (some (.inr out14))

def clocks_Times (N : Nat) (l1 : (List Mark)) : Option ((List Int) × Int) :=
  bd (clocks_Check N l1) fun (r6 : (Int × Int)) =>
  cond (!(decide (r6.2 = 0)))
    (some ([], r6.2))
    (bd (clocks_letters N l1) fun (r7 : ((List (Int × Int)) × Int × Int)) =>
    ck (mkB 8 ((l1).length : Int)) <|
    bd (α := (List Int)) (iter (clocks_Times_L3 N l1 r7) N ([], (List.replicate ((l1).length : Int).toNat (0 : Int)), 0)) <|
    fun (out12 : (List Int)) => 
      some (out12, 0))

theorem clocks_Times_ok {N : Nat} {l1 : (List Mark)} {res : ((List Int) × Int)} (hF : clocks_Times N l1 = some res) (w : World) {v5 : Value} (hs4 : SlIn encMark 3 w v5 l1) :
    Made Try.prog 32 [v5] w (fun g : (Option Addr × Nat) => .tuple #[.slice g.1 (res.1).length g.2, .int .i64 res.2]) (fun g => [cR (eI .i64) 1 g.1 g.2 3 res.1]) (fun _ => True) := by
  obtain ⟨A2, c3, rfl, hcc3, hs4⟩ := hs4.form
  refine W.enter (n := 66) Try.func32 rfl rfl Sub.refl (by simp) (St.start w) fun R hR => ?_
  unfold clocks_Times at hF
  -- region 0: clocks.go:53
  refine W.seqR fun Q1 hQ1 => ?_
  refine WL.q (Y.assign (.pl rfl)) rfl ?_
  refine WL.q (Y.assign (.pl rfl)) rfl ?_
  refine WL.next hQ1 (.cons (i := 0) rfl (.nil)) ?_
  refine W.seq fun K2 hK2 => ?_
  -- region 1: clocks.go:54
  refine W.seqR fun Q3 hQ3 => ?_
  refine WL.q (Y.move (.pl rfl)) rfl ?_
  obtain ⟨r6, hr6, hF⟩ := bnd hF
  refine WL.step (WO.callP isGo47 (.cons (.pl rfl) (.nil)) rfl (fun w hw => clocks_Check_ok (hr6) w (hs4.mono hw)) ?_)
  refine WL.q (Y.move (.pl rfl)) rfl ?_
  refine WL.q (Y.extract (.pl rfl) rfl) rfl ?_
  refine WL.q (Y.extract (.pl rfl) rfl) rfl ?_
  refine WL.q (Y.assign (.pl rfl)) rfl ?_
  refine WL.q (Y.assign (.pl rfl)) rfl ?_
  refine WL.next hQ3 (.cons (i := 0) rfl (.cons (i := 5) rfl (.nil))) ?_
  -- region 2: clocks.go:54
  refine W.seqR fun Q4 hQ4 => ?_
  refine WL.q (Y.move (.pl rfl)) rfl ?_
  refine WL.q (Y.neq (.pl rfl) (.pl rfl)) rfl ?_
  refine WL.next hQ4 (.cons (i := 0) rfl (.cons (i := 5) rfl (.cons (i := 20) rfl (.nil)))) ?_
  refine W.cond (.pl rfl) (fun hC5 => ?_) (fun hC5 => ?_)
  · replace hF := cpos hC5 hF
    -- region 3: clocks.go:55
    refine W.seqR fun Q6 hQ6 => ?_
    refine WL.q (Y.move (.pl rfl)) rfl ?_
    refine WL.q (Y.assign (.pl rfl)) rfl ?_
    refine WL.q (Y.assign (.pl rfl)) rfl ?_
    refine WL.next hQ6 (.cons (i := 2) rfl (.cons (i := 3) rfl (.nil))) ?_
    obtain rfl := Option.some.inj hF
    refine W.retV (fn := Try.f32) (vs := [.slice none 0 0, .int .i64 r6.2]) Try.results32 ⟨.tmp rfl, ⟨.tmp rfl, trivial⟩⟩ (fun _ _ h => h) (fun w hw => ?_)
    exact hR _ _ ⟨(none, 0), trivial, rfl, ((St.nilR (hw.pick [] rfl) (eI .i64) 1 3).pick [0] rfl)⟩
  · replace hF := cneg hC5 hF
    refine W.skip ?_
    refine W.go hK2 (.cons (i := 0) rfl (.nil)) ?_
    -- region 4: clocks.go:57
    refine W.seqR fun Q7 hQ7 => ?_
    refine WL.q (Y.move (.pl rfl)) rfl ?_
    obtain ⟨r7, hr7, hF⟩ := bnd hF
    refine WL.step (WO.callM isGo51 (.cons (.pl rfl) (.nil)) rfl (fun w hw => clocks_letters_ok (hr7) w (hs4.mono hw)) ?_)
    rintro b8 -
    refine WL.q (Y.move (.pl rfl)) rfl ?_
    refine WL.q (Y.extract (.pl rfl) rfl) rfl ?_
    refine WL.q (Y.extract (.pl rfl) rfl) rfl ?_
    refine WL.q (Y.extract (.pl rfl) rfl) rfl ?_
    refine WL.q (Y.assign (.pl rfl)) rfl ?_
    refine WL.q (Y.assign (.pl rfl)) rfl ?_
    refine WL.q (Y.assign (.pl rfl)) rfl ?_
    refine WL.next hQ7 (.cons (i := 0) rfl (.cons (i := 6) rfl (.nil))) ?_
    -- region 5: clocks.go:58
    refine W.seqR fun Q8 hQ8 => ?_
    refine WL.step (WO.alloc (cs := ((encA 8 (eI .i64) 0) []).toArray) zero101 rfl rfl fun b9 => ?_)
    refine WL.next hQ8 (.cons (i := 0) rfl (.cons (i := 6) rfl (.cons (i := 9) rfl (.nil)))) ?_
    -- region 6: clocks.go:59
    refine W.seqR fun Q9 hQ9 => ?_
    refine WL.q (Y.move (.pl rfl)) rfl ?_
    refine WL.q (Y.len Try.underlying57 (.pl rfl)) rfl ?_
    obtain ⟨hk11, hF⟩ := ckh hF
    refine WL.step (WO.makeC (enc := (eI .i64)) (z := 0) Try.underlying22 mka3 rfl (.pl rfl) (hk11) rfl fun b10 => ?_)
    refine WL.q (Y.assign (.pl rfl)) rfl ?_
    refine WL.next hQ9 (.cons (i := 0) rfl (.cons (i := 6) rfl (.cons (i := 9) rfl (.cons (i := 10) rfl (.nil))))) ?_
    obtain ⟨o10, hF10, hF⟩ := bnd hF
    refine W.join1 (Em := fun (out12 : (List Int)) => [(10, .slice (some ⟨b10, 0, none⟩) (out12).length ((l1).length : Int).toNat)]) (M := fun out12 => [cR (eI .i64) 1 (some ⟨b10, 0, none⟩) ((l1).length : Int).toNat 3 out12]) (I := fun out12 => out12 = o10) (.nil) (fun K11 hK11 => ?_) ?_
    · -- up to
      -- region 7: clocks.go:60
      refine W.seqR fun Q12 hQ12 => ?_
      refine WL.q (Y.move (.pl rfl)) rfl ?_
      refine WL.q (Y.len Try.underlying57 (.pl rfl)) rfl ?_
      refine WL.q (Y.move (.pl rfl)) rfl ?_
      refine WL.next hQ12 (.cons (i := 6) rfl (.cons (i := 9) rfl (.cons (i := 10) rfl (.cons (i := 31) rfl (.cons (i := 32) rfl (.cons (i := 33) rfl (.nil))))))) ?_
      refine W.block ?_
      refine W.loop3 (Em := fun (last13 : (List Int)) (out14 : (List Int)) (v15 : Int) => [(10, .slice (some ⟨b10, 0, none⟩) (out14).length ((l1).length : Int).toNat), (33, .int .i64 v15)]) (M := fun last13 out14 v15 => [cM (Value.int .i64) b8 r7.1, cBx b9 101 ((encA 8 (eI .i64) 0) last13), cR (eI .i64) 1 (some ⟨b10, 0, none⟩) ((l1).length : Int).toNat 3 out14]) (I := fun last13 out14 v15 k13 => iter (clocks_Times_L3 N l1 r7) k13 (last13, out14, v15) = some o10) [] (List.replicate ((l1).length : Int).toNat (0 : Int)) 0 N (hF10) (.cons rfl (.cons rfl (.nil))) (.cons (i := 6) rfl (.cons (i := 9) rfl (.cons (i := 31) rfl (.cons (i := 32) rfl (.nil))))) (fun w hw => hw.pick [2, 1, 0] rfl) (fun last13 out14 v15 k13 hI K14 hK14 => ?_)
      obtain ⟨k13, t13, rfl, hF13, hN13⟩ := iter_step hI
      -- region 8: clocks.go:60
      refine W.seqR fun Q15 hQ15 => ?_
      refine WL.q (Y.lss (.pl rfl) (.pl rfl)) rfl ?_
      refine WL.next hQ15 (.cons (i := 6) rfl (.cons (i := 9) rfl (.cons (i := 10) rfl (.cons (i := 31) rfl (.cons (i := 32) rfl (.cons (i := 33) rfl (.cons (i := 34) rfl (.nil)))))))) ?_
      refine W.seq fun K16 hK16 => ?_
      refine W.cond (.pl rfl) (fun hC17 => ?_) (fun hC17 => ?_)
      · replace hF13 := cpos hC17 hF13
        refine W.skip ?_
        refine W.go hK16 (.cons (i := 6) rfl (.cons (i := 9) rfl (.cons (i := 10) rfl (.cons (i := 31) rfl (.cons (i := 32) rfl (.cons (i := 33) rfl (.nil))))))) ?_
        refine W.seq fun K18 hK18 => ?_
        refine W.block ?_
        -- region 9: clocks.go:60
        refine W.seqR fun Q19 hQ19 => ?_
        refine WL.q (Y.move (.pl rfl)) rfl ?_
        obtain ⟨x16, hx16, hF13⟩ := bnd hF13
        refine WL.q (Y.slEl Try.underlying57 cells64 hs4 (.pl rfl) (.pl rfl) (ix_lt (hx16))) rfl ?_
        refine WL.q (Y.loadSA (enc := encMark) (ds := (encMark x16)) (j := 0) Try.underlying64 rfl cells64 hs4 (.pl rfl) (hx16) rfl rfl subW) rfl ?_
        refine WL.step (WO.alloc (cs := (encMark (Mark.mk 0 0 0)).toArray) zero64 rfl rfl fun b17 => ?_)
        refine WL.q (Y.assign (.pl rfl)) rfl ?_
        refine WL.step (WO.storeBA (ds := (encMark x16)) (cs' := (encMark x16)) cells64 (.pl rfl) (.pl rfl) rfl (oneMark _) (i := 0) rfl (lel (o := 0) (l := 3) (m := 3) (by decide) rfl rfl) (putW rfl) ?_)
        refine WL.next hQ19 (.cons (i := 6) rfl (.cons (i := 9) rfl (.cons (i := 10) rfl (.cons (i := 11) rfl (.cons (i := 12) rfl (.cons (i := 31) rfl (.cons (i := 32) rfl (.cons (i := 33) rfl (.nil))))))))) ?_
        -- region 10: clocks.go:61
        refine W.seqR fun Q20 hQ20 => ?_
        refine WL.q (Y.fieldAddr0 (off := 0) (ft := 3) Try.underlying64 rfl cells3 (.pl rfl)) rfl ?_
        refine WL.q (Y.loadB (v := .int .i64 x16.who) Try.underlying3 rfl (.pl rfl) (i := 0) rfl (rfl)) rfl ?_
        obtain ⟨x18, hx18, hF13⟩ := bnd hF13
        refine WL.q (Y.arrZ Try.underlying101 cells3 (.pl rfl) (.pl rfl) (ax_lt (hx18))) rfl ?_
        refine WL.q (Y.loadB (v := .int .i64 x18) Try.underlying3 rfl (.pl rfl) (i := 2) rfl (cellsA (pre := []) (off := 0) (post := []) (a := last13) (enc := (eI .i64)) (d := 0) (n := 8) (sz := 1) (j := 0) (fun _ => rfl) rfl (ax_nat (hx18)) (ax_get (hx18)) rfl)) rfl ?_
        refine WL.q (Y.assign (.pl rfl)) rfl ?_
        refine WL.next hQ20 (.cons (i := 6) rfl (.cons (i := 9) rfl (.cons (i := 10) rfl (.cons (i := 11) rfl (.cons (i := 12) rfl (.cons (i := 13) rfl (.cons (i := 31) rfl (.cons (i := 32) rfl (.cons (i := 33) rfl (.nil)))))))))) ?_
        obtain ⟨o21, hF21, hF13⟩ := bnd hF13
        refine W.join1 (Em := fun (n19 : Int) => [(13, .int .i64 n19)]) (M := fun n19 => [cM (Value.int .i64) b8 r7.1, cBx b9 101 ((encA 8 (eI .i64) 0) last13), cR (eI .i64) 1 (some ⟨b10, 0, none⟩) ((l1).length : Int).toNat 3 out14, cBx b17 64 (encMark x16)]) (I := fun n19 => n19 = o21) (.cons (i := 6) rfl (.cons (i := 9) rfl (.cons (i := 10) rfl (.cons (i := 11) rfl (.cons (i := 12) rfl (.cons (i := 31) rfl (.cons (i := 32) rfl (.cons (i := 33) rfl (.nil))))))))) (fun K22 hK22 => ?_) ?_
        · -- up to
          -- region 11: clocks.go:62
          refine W.seqR fun Q23 hQ23 => ?_
          refine WL.q (Y.fieldAddr0 (off := 1) (ft := 3) Try.underlying64 rfl cells3 (.pl rfl)) rfl ?_
          refine WL.q (Y.loadB (v := .int .i64 x16.kind) Try.underlying3 rfl (.pl rfl) (i := 0) rfl (rfl)) rfl ?_
          refine WL.q (Y.eql (.pl rfl) (.pl rfl)) rfl ?_
          refine WL.next hQ23 (.cons (i := 6) rfl (.cons (i := 9) rfl (.cons (i := 10) rfl (.cons (i := 11) rfl (.cons (i := 12) rfl (.cons (i := 13) rfl (.cons (i := 31) rfl (.cons (i := 32) rfl (.cons (i := 33) rfl (.cons (i := 44) rfl (.nil))))))))))) ?_
          refine W.cond (.pl rfl) (fun hC24 => ?_) (fun hC24 => ?_)
          · replace hF21 := cpos hC24 hF21
            -- region 12: clocks.go:63
            refine W.reg ?_
            refine WL.q (Y.move (.pl rfl)) rfl ?_
            refine WL.q (Y.move (.pl rfl)) rfl ?_
            refine WL.q (Y.move (.pl rfl)) rfl ?_
            refine WL.q (Y.fieldAddr0 (off := 2) (ft := 3) Try.underlying64 rfl cells3 (.pl rfl)) rfl ?_
            refine WL.q (Y.loadB (v := .int .i64 x16.letter) Try.underlying3 rfl (.pl rfl) (i := 0) rfl (rfl)) rfl ?_
            refine WL.q (Y.mget (f := (Value.int .i64)) (dv := 0) Try.underlying104 Try.underlying3 zero3 (.pl rfl) (.pl rfl) (i := 1) rfl) rfl ?_
            obtain ⟨x20, hx20, hF21⟩ := bnd hF21
            refine WL.q (Y.litEl (xs := out14) Try.underlying22 cells3 (.pl rfl) rfl (.pl rfl) (ix_lt (hx20))) rfl ?_
            refine WL.q (Y.loadR (enc := (eI .i64)) (v := .int .i64 x20) (a := x20) (idx := ((mget r7.1 x16.letter).getD 0)) (j := 0) Try.underlying3 rfl (fun _ => rfl) (i := 3) rfl (.pl rfl) (ix_get (hx20)) rfl rfl) rfl ?_
            refine WL.q (Y.max (.pl rfl) (.pl rfl)) rfl ?_
            refine WL.q (Y.assign (.pl rfl)) rfl ?_
            refine WL.nil ?_
            exact W.joinAt1 hK22 (max x18 x20) (Option.some.inj hF21) (.cons rfl (.nil)) (.cons (i := 6) rfl (.cons (i := 9) rfl (.cons (i := 10) rfl (.cons (i := 11) rfl (.cons (i := 12) rfl (.cons (i := 31) rfl (.cons (i := 32) rfl (.cons (i := 33) rfl (.nil))))))))) (fun w hw => hw.pick [1, 2, 3, 0] rfl)
          · replace hF21 := cneg hC24 hF21
            refine W.skip ?_
            exact W.joinAt1 hK22 x18 (Option.some.inj hF21) (.cons rfl (.nil)) (.cons (i := 6) rfl (.cons (i := 9) rfl (.cons (i := 10) rfl (.cons (i := 11) rfl (.cons (i := 12) rfl (.cons (i := 31) rfl (.cons (i := 32) rfl (.cons (i := 33) rfl (.nil))))))))) (fun w hw => hw.pick [1, 2, 3, 0] rfl)
        · -- behind
          rintro n19 rfl
          -- region 13: clocks.go:65
          refine W.seqR fun Q26 hQ26 => ?_
          refine WL.q (Y.move (.pl rfl)) rfl ?_
          refine WL.q (Y.move (.pl rfl)) rfl ?_
          refine WL.q (Y.move (.pl rfl)) rfl ?_
          obtain ⟨hk21, hF13⟩ := ckh hF13
          refine WL.q (Y.add (.pl rfl) (.pl rfl) (ok64_lt (hk21))) rfl ?_
          obtain ⟨x22, hx22, hF13⟩ := bnd hF13
          refine WL.q (Y.litEl (xs := out14) Try.underlying22 cells3 (.pl rfl) rfl (.pl rfl) (ix_lt (hx22))) rfl ?_
          refine WL.step (WO.storeS (enc := (eI .i64)) (a := x22) (a' := (n19 + 1)) (idx := v15) (j := 0) cells3 (.pl rfl) (.pl rfl) rfl (fun _ => rfl) (i := 2) rfl (ix_get (hx22)) rfl (by decide) rfl ?_)
          refine WL.next hQ26 (.cons (i := 6) rfl (.cons (i := 9) rfl (.cons (i := 10) rfl (.cons (i := 12) rfl (.cons (i := 13) rfl (.cons (i := 31) rfl (.cons (i := 32) rfl (.cons (i := 33) rfl (.nil))))))))) ?_
          -- region 14: clocks.go:66
          refine W.reg ?_
          refine WL.q (Y.fieldAddr0 (off := 0) (ft := 3) Try.underlying64 rfl cells3 (.pl rfl)) rfl ?_
          refine WL.q (Y.loadB (v := .int .i64 x16.who) Try.underlying3 rfl (.pl rfl) (i := 3) rfl (rfl)) rfl ?_
          refine WL.q (Y.move (.pl rfl)) rfl ?_
          obtain ⟨hk23, hF13⟩ := ckh hF13
          refine WL.q (Y.add (.pl rfl) (.pl rfl) (ok64_lt (hk23))) rfl ?_
          obtain ⟨x24, hx24, hF13⟩ := bnd hF13
          refine WL.q (Y.arrZ Try.underlying101 cells3 (.pl rfl) (.pl rfl) (ax_lt (hx24))) rfl ?_
          refine WL.step (WO.storeB (cs' := ((encA 8 (eI .i64) 0) (setA 8 0 last13 x16.who (n19 + 1)))) cells3 (.pl rfl) (.pl rfl) rfl (i := 1) rfl (ltl (m := 8) (offlt (off := 0) (sz := 1) (j := 0) (ax_nat (hx24)) (by decide)) rfl) (cellsSet (pre := []) (off := 0) (post := []) (a := last13) (enc := (eI .i64)) (d := 0) (n := 8) (sz := 1) (j := 0) (x := x24) (x' := (n19 + 1)) (fun _ => rfl) rfl (ax_lt (hx24)) (ax_get (hx24)) (by decide) rfl rfl) ?_)
          refine WL.nil ?_
          refine W.go hK18 (.cons (i := 6) rfl (.cons (i := 9) rfl (.cons (i := 10) rfl (.cons (i := 31) rfl (.cons (i := 32) rfl (.cons (i := 33) rfl (.nil))))))) ?_
          -- region 15: clocks.go:60
          refine W.reg ?_
          obtain ⟨hk25, hF13⟩ := ckh hF13
          refine WL.q (Y.add (.pl rfl) (.pl rfl) (ok64_lt (hk25))) rfl ?_
          refine WL.q (Y.move (.pl rfl)) rfl ?_
          refine WL.nil ?_
          obtain rfl := Option.some.inj hF13
          exact W.again3 hK14 (setA 8 0 last13 x16.who (n19 + 1)) (out14.set v15.toNat (n19 + 1)) (v15 + 1) k13 hN13 (Nat.lt_succ_self _) (.cons (eqSl (by simp)) (.cons rfl (.nil))) (.cons (i := 6) rfl (.cons (i := 9) rfl (.cons (i := 31) rfl (.cons (i := 32) rfl (.nil))))) (fun w hw => hw.pick [0, 1, 2] rfl)
      · replace hF13 := cneg hC17 hF13
        refine W.exit ?_
        obtain rfl := Option.some.inj hF13
        exact W.joinAt1 hK11 out14 (einr hN13) (.cons rfl (.nil)) (.nil) (fun w hw => hw.pick [2] rfl)
    · -- behind
      rintro out12 rfl
      -- region 16: clocks.go:68
      refine W.seqR fun Q29 hQ29 => ?_
      refine WL.q (Y.move (.pl rfl)) rfl ?_
      refine WL.q (Y.assign (.pl rfl)) rfl ?_
      refine WL.q (Y.assign (.pl rfl)) rfl ?_
      refine WL.next hQ29 (.cons (i := 2) rfl (.cons (i := 3) rfl (.nil))) ?_
      obtain rfl := Option.some.inj hF
      refine W.retV (fn := Try.f32) (vs := [.slice (some ⟨b10, 0, none⟩) (out12).length ((l1).length : Int).toNat, .int .i64 0]) Try.results32 ⟨.tmp rfl, ⟨.tmp rfl, trivial⟩⟩ (fun _ _ h => h) (fun w hw => ?_)
      exact hR _ _ ⟨((some ⟨b10, 0, none⟩), ((l1).length : Int).toNat), trivial, rfl, (hw.pick [0] rfl)⟩

def clocks_Cut_L19 (N : Nat) (l1 : (List Mark)) : ((List Int) × Int) → Option (((List Int) × Int) ⊕ (List Int))
  | (count14, v15) =>
    cond (decide (v15 < ((l1).length : Int)))
      (bd (ix l1 v15) fun (x16 : Mark) =>
      bd (ax 8 0 count14 x16.who) fun (x18 : Int) =>
      ck (ok64 (x18 + 1)) <|
      bd (ax 8 0 count14 x16.who) fun (x20 : Int) =>
      ck (ok64 (v15 + 1)) <|
      some (.inl ((setA 8 0 count14 x16.who (x18 + 1)), (v15 + 1))))
      (some (.inr count14))

def clocks_Cut_L21 (N : Nat) (ends6 : (List Int)) (count13 : (List Int)) : Int → Option (Int ⊕ (Unit ⊕ (Bool × Int)))
  | v22 =>
    cond (decide (v22 < ((ends6).length : Int)))
      (bd (ix ends6 v22) fun (x23 : Int) =>
      bd ((cond ((decide (x23 < 0)) == false) (ax 8 0 count13 v22) (some 0))) fun (x24 : Int) =>
      cond ((decide (x23 < 0)) || (decide (x24 < x23)))
        (some (.inr (.inr (false, 1))))
        (ck (ok64 (v22 + 1)) <|
        some (.inl (v22 + 1))))
      (some (.inr (.inl ())))

def clocks_Cut_L35 (N : Nat) (x34 : (List Int)) (ends6 : (List Int)) : Int → Option (Int ⊕ (Unit ⊕ (Bool × Int)))
  | v35 =>
    cond (decide (v35 < 8))
      (bd (ax 8 0 x34 v35) fun (x36 : Int) =>
      bd (ix ends6 v35) fun (x37 : Int) =>
      cond (decide (x37 < x36))
        (some (.inr (.inr (false, 0))))
        (ck (ok64 (v35 + 1)) <|
        some (.inl (v35 + 1))))
      (some (.inr (.inl ())))

def clocks_Cut_L33 (N : Nat) (l1 : (List Mark)) (r26 : (List (List Int))) (ends6 : (List Int)) : Int → Option (Int ⊕ (Unit ⊕ (Bool × Int)))
  | v28 =>
    cond (decide (v28 < ((l1).length : Int)))
      (bd (α := (Unit ⊕ (Bool × Int))) (bd (ix l1 v28) fun (x29 : Mark) =>
        bd (ix r26 v28) fun (x31 : (List Int)) =>
        bd (ax 8 0 x31 x29.who) fun (x32 : Int) =>
        bd (ix ends6 x29.who) fun (x33 : Int) =>
        cond (decide (x33 < x32))
          (some (.inl ()))
          (bd (ix r26 v28) fun (x34 : (List Int)) =>
          iter (clocks_Cut_L35 N x34 ends6) N 0)) <|
      Sum.elim (fun _ => 
        ck (ok64 (v28 + 1)) <|
        some (.inl (v28 + 1))) (fun p => some (.inr (.inr p))))
      (some (.inr (.inl ())))

def clocks_Cut (N : Nat) (l1 : (List Mark)) (ends6 : (List Int)) : Option (Bool × Int) :=
  bd (clocks_Check N l1) fun (r11 : (Int × Int)) =>
  cond (!(decide (r11.2 = 0)))
    (some (false, r11.2))
    (bd (α := (List Int)) (iter (clocks_Cut_L19 N l1) N ([], 0)) <|
    fun (count13 : (List Int)) => 
      cond (!(decide (((ends6).length : Int) = 8)))
        (some (false, 1))
        (bd (α := (Unit ⊕ (Bool × Int))) (iter (clocks_Cut_L21 N ends6 count13) N 0) <|
        Sum.elim (fun _ => 
          bd (clocks_knows N l1) fun (r26 : (List (List Int))) =>
          bd (α := (Unit ⊕ (Bool × Int))) (iter (clocks_Cut_L33 N l1 r26 ends6) N 0) <|
          Sum.elim (fun _ => 
            some (true, 0)) (fun p => some p)) (fun p => some p)))

theorem clocks_Cut_ok {N : Nat} {l1 : (List Mark)} {ends6 : (List Int)} {res : (Bool × Int)} (hF : clocks_Cut N l1 ends6 = some res) (w : World) {v5 : Value} (hs4 : SlIn encMark 3 w v5 l1) {v10 : Value} (hs9 : SlIn (eI .i64) 1 w v10 ends6) :
    Pure Try.prog 30 [v5, v10] w (.tuple #[.bool res.1, .int .i64 res.2]) := by
  obtain ⟨A2, c3, rfl, hcc3, hs4⟩ := hs4.form
  obtain ⟨A7, c8, rfl, hcc8, hs9⟩ := hs9.form
  refine W.enter (n := 97) Try.func30 rfl rfl Sub.refl (by simp) (St.start w) fun R hR => ?_
  unfold clocks_Cut at hF
  -- region 0: clocks.go:120
  refine W.seqR fun Q1 hQ1 => ?_
  refine WL.q (Y.assign (.pl rfl)) rfl ?_
  refine WL.q (Y.assign (.pl rfl)) rfl ?_
  refine WL.next hQ1 (.cons (i := 0) rfl (.cons (i := 1) rfl (.nil))) ?_
  refine W.seq fun K2 hK2 => ?_
  -- region 1: clocks.go:121
  refine W.seqR fun Q3 hQ3 => ?_
  refine WL.q (Y.move (.pl rfl)) rfl ?_
  obtain ⟨r11, hr11, hF⟩ := bnd hF
  refine WL.step (WO.callP isGo47 (.cons (.pl rfl) (.nil)) rfl (fun w hw => clocks_Check_ok (hr11) w (hs4.mono hw)) ?_)
  refine WL.q (Y.move (.pl rfl)) rfl ?_
  refine WL.q (Y.extract (.pl rfl) rfl) rfl ?_
  refine WL.q (Y.extract (.pl rfl) rfl) rfl ?_
  refine WL.q (Y.assign (.pl rfl)) rfl ?_
  refine WL.q (Y.assign (.pl rfl)) rfl ?_
  refine WL.next hQ3 (.cons (i := 0) rfl (.cons (i := 1) rfl (.cons (i := 7) rfl (.nil)))) ?_
  -- region 2: clocks.go:121
  refine W.seqR fun Q4 hQ4 => ?_
  refine WL.q (Y.move (.pl rfl)) rfl ?_
  refine WL.q (Y.neq (.pl rfl) (.pl rfl)) rfl ?_
  refine WL.next hQ4 (.cons (i := 0) rfl (.cons (i := 1) rfl (.cons (i := 7) rfl (.cons (i := 24) rfl (.nil))))) ?_
  refine W.cond (.pl rfl) (fun hC5 => ?_) (fun hC5 => ?_)
  · replace hF := cpos hC5 hF
    -- region 3: clocks.go:122
    refine W.seqR fun Q6 hQ6 => ?_
    refine WL.q (Y.move (.pl rfl)) rfl ?_
    refine WL.q (Y.assign (.pl rfl)) rfl ?_
    refine WL.q (Y.assign (.pl rfl)) rfl ?_
    refine WL.next hQ6 (.cons (i := 4) rfl (.cons (i := 5) rfl (.nil))) ?_
    obtain rfl := Option.some.inj hF
    refine W.retV (fn := Try.f30) (vs := [.bool false, .int .i64 r11.2]) Try.results30 ⟨.tmp rfl, ⟨.tmp rfl, trivial⟩⟩ (fun _ _ h => h) (fun w hw => ?_)
    exact hR _ _ ⟨rfl, (hw.pick [] rfl)⟩
  · replace hF := cneg hC5 hF
    refine W.skip ?_
    refine W.go hK2 (.cons (i := 0) rfl (.cons (i := 1) rfl (.nil))) ?_
    -- region 4: clocks.go:124
    refine W.seqR fun Q7 hQ7 => ?_
    refine WL.step (WO.alloc (cs := ((encA 8 (eI .i64) 0) []).toArray) zero101 rfl rfl fun b12 => ?_)
    refine WL.next hQ7 (.cons (i := 0) rfl (.cons (i := 1) rfl (.cons (i := 8) rfl (.nil)))) ?_
    obtain ⟨o8, hF8, hF⟩ := bnd hF
    refine W.join1 (Em := fun (count13 : (List Int)) => []) (M := fun count13 => [cBx b12 101 ((encA 8 (eI .i64) 0) count13)]) (I := fun count13 => count13 = o8) (.cons (i := 0) rfl (.cons (i := 1) rfl (.cons (i := 8) rfl (.nil)))) (fun K9 hK9 => ?_) ?_
    · -- up to
      -- region 5: clocks.go:125
      refine W.seqR fun Q10 hQ10 => ?_
      refine WL.q (Y.move (.pl rfl)) rfl ?_
      refine WL.q (Y.len Try.underlying57 (.pl rfl)) rfl ?_
      refine WL.q (Y.move (.pl rfl)) rfl ?_
      refine WL.next hQ10 (.cons (i := 0) rfl (.cons (i := 1) rfl (.cons (i := 8) rfl (.cons (i := 26) rfl (.cons (i := 27) rfl (.cons (i := 28) rfl (.nil))))))) ?_
      refine W.block ?_
      refine W.loop2 (Em := fun (count14 : (List Int)) (v15 : Int) => [(28, .int .i64 v15)]) (M := fun count14 v15 => [cBx b12 101 ((encA 8 (eI .i64) 0) count14)]) (I := fun count14 v15 k11 => iter (clocks_Cut_L19 N l1) k11 (count14, v15) = some o8) [] 0 N (hF8) (.cons rfl (.nil)) (.cons (i := 0) rfl (.cons (i := 1) rfl (.cons (i := 8) rfl (.cons (i := 26) rfl (.cons (i := 27) rfl (.nil)))))) (fun w hw => hw.pick [0] rfl) (fun count14 v15 k11 hI K12 hK12 => ?_)
      obtain ⟨k11, t11, rfl, hF11, hN11⟩ := iter_step hI
      -- region 6: clocks.go:125
      refine W.seqR fun Q13 hQ13 => ?_
      refine WL.q (Y.lss (.pl rfl) (.pl rfl)) rfl ?_
      refine WL.next hQ13 (.cons (i := 0) rfl (.cons (i := 1) rfl (.cons (i := 8) rfl (.cons (i := 26) rfl (.cons (i := 27) rfl (.cons (i := 28) rfl (.cons (i := 29) rfl (.nil)))))))) ?_
      refine W.seq fun K14 hK14 => ?_
      refine W.cond (.pl rfl) (fun hC15 => ?_) (fun hC15 => ?_)
      · replace hF11 := cpos hC15 hF11
        refine W.skip ?_
        refine W.go hK14 (.cons (i := 0) rfl (.cons (i := 1) rfl (.cons (i := 8) rfl (.cons (i := 26) rfl (.cons (i := 27) rfl (.cons (i := 28) rfl (.nil))))))) ?_
        refine W.seq fun K16 hK16 => ?_
        refine W.block ?_
        -- region 7: clocks.go:125
        refine W.seqR fun Q17 hQ17 => ?_
        obtain ⟨x16, hx16, hF11⟩ := bnd hF11
        refine WL.q (Y.slEl Try.underlying57 cells64 hs4 (.pl rfl) (.pl rfl) (ix_lt (hx16))) rfl ?_
        refine WL.q (Y.loadSA (enc := encMark) (ds := (encMark x16)) (j := 0) Try.underlying64 rfl cells64 hs4 (.pl rfl) (hx16) rfl rfl subW) rfl ?_
        refine WL.step (WO.alloc (cs := (encMark (Mark.mk 0 0 0)).toArray) zero64 rfl rfl fun b17 => ?_)
        refine WL.step (WO.storeBA (ds := (encMark x16)) (cs' := (encMark x16)) cells64 (.pl rfl) (.pl rfl) rfl (oneMark _) (i := 0) rfl (lel (o := 0) (l := 3) (m := 3) (by decide) rfl rfl) (putW rfl) ?_)
        refine WL.next hQ17 (.cons (i := 0) rfl (.cons (i := 1) rfl (.cons (i := 8) rfl (.cons (i := 10) rfl (.cons (i := 26) rfl (.cons (i := 27) rfl (.cons (i := 28) rfl (.nil)))))))) ?_
        -- region 8: clocks.go:126
        refine W.reg ?_
        refine WL.q (Y.fieldAddr0 (off := 0) (ft := 3) Try.underlying64 rfl cells3 (.pl rfl)) rfl ?_
        refine WL.q (Y.loadB (v := .int .i64 x16.who) Try.underlying3 rfl (.pl rfl) (i := 0) rfl (rfl)) rfl ?_
        obtain ⟨x18, hx18, hF11⟩ := bnd hF11
        refine WL.q (Y.arrZ Try.underlying101 cells3 (.pl rfl) (.pl rfl) (ax_lt (hx18))) rfl ?_
        refine WL.q (Y.loadB (v := .int .i64 x18) Try.underlying3 rfl (.pl rfl) (i := 1) rfl (cellsA (pre := []) (off := 0) (post := []) (a := count14) (enc := (eI .i64)) (d := 0) (n := 8) (sz := 1) (j := 0) (fun _ => rfl) rfl (ax_nat (hx18)) (ax_get (hx18)) rfl)) rfl ?_
        obtain ⟨hk19, hF11⟩ := ckh hF11
        refine WL.q (Y.add (.pl rfl) (.pl rfl) (ok64_lt (hk19))) rfl ?_
        obtain ⟨x20, hx20, hF11⟩ := bnd hF11
        refine WL.q (Y.arrZ Try.underlying101 cells3 (.pl rfl) (.pl rfl) (ax_lt (hx20))) rfl ?_
        refine WL.step (WO.storeB (cs' := ((encA 8 (eI .i64) 0) (setA 8 0 count14 x16.who (x18 + 1)))) cells3 (.pl rfl) (.pl rfl) rfl (i := 1) rfl (ltl (m := 8) (offlt (off := 0) (sz := 1) (j := 0) (ax_nat (hx20)) (by decide)) rfl) (cellsSet (pre := []) (off := 0) (post := []) (a := count14) (enc := (eI .i64)) (d := 0) (n := 8) (sz := 1) (j := 0) (x := x20) (x' := (x18 + 1)) (fun _ => rfl) rfl (ax_lt (hx20)) (ax_get (hx20)) (by decide) rfl rfl) ?_)
        refine WL.nil ?_
        refine W.go hK16 (.cons (i := 0) rfl (.cons (i := 1) rfl (.cons (i := 8) rfl (.cons (i := 26) rfl (.cons (i := 27) rfl (.cons (i := 28) rfl (.nil))))))) ?_
        -- region 9: clocks.go:125
        refine W.reg ?_
        obtain ⟨hk21, hF11⟩ := ckh hF11
        refine WL.q (Y.add (.pl rfl) (.pl rfl) (ok64_lt (hk21))) rfl ?_
        refine WL.q (Y.move (.pl rfl)) rfl ?_
        refine WL.nil ?_
        obtain rfl := Option.some.inj hF11
        exact W.again2 hK12 (setA 8 0 count14 x16.who (x18 + 1)) (v15 + 1) k11 hN11 (Nat.lt_succ_self _) (.cons rfl (.nil)) (.cons (i := 0) rfl (.cons (i := 1) rfl (.cons (i := 8) rfl (.cons (i := 26) rfl (.cons (i := 27) rfl (.nil)))))) (fun w hw => hw.pick [1] rfl)
      · replace hF11 := cneg hC15 hF11
        refine W.exit ?_
        obtain rfl := Option.some.inj hF11
        exact W.joinAt1 hK9 count14 (einr hN11) (.nil) (.cons (i := 0) rfl (.cons (i := 1) rfl (.cons (i := 8) rfl (.nil)))) (fun w hw => hw.pick [0] rfl)
    · -- behind
      rintro count13 rfl
      refine W.seq fun K20 hK20 => ?_
      -- region 10: clocks.go:128
      refine W.seqR fun Q21 hQ21 => ?_
      refine WL.q (Y.move (.pl rfl)) rfl ?_
      refine WL.q (Y.len Try.underlying22 (.pl rfl)) rfl ?_
      refine WL.q (Y.neq (.pl rfl) (.pl rfl)) rfl ?_
      refine WL.next hQ21 (.cons (i := 0) rfl (.cons (i := 1) rfl (.cons (i := 8) rfl (.cons (i := 41) rfl (.nil))))) ?_
      refine W.cond (.pl rfl) (fun hC22 => ?_) (fun hC22 => ?_)
      · replace hF := cpos hC22 hF
        -- region 11: clocks.go:129
        refine W.seqR fun Q23 hQ23 => ?_
        refine WL.q (Y.assign (.pl rfl)) rfl ?_
        refine WL.q (Y.assign (.pl rfl)) rfl ?_
        refine WL.next hQ23 (.cons (i := 4) rfl (.cons (i := 5) rfl (.nil))) ?_
        obtain rfl := Option.some.inj hF
        refine W.retV (fn := Try.f30) (vs := [.bool false, .int .i64 1]) Try.results30 ⟨.tmp rfl, ⟨.tmp rfl, trivial⟩⟩ (fun _ _ h => h) (fun w hw => ?_)
        exact hR _ _ ⟨rfl, (hw.pick [] rfl)⟩
      · replace hF := cneg hC22 hF
        refine W.skip ?_
        refine W.go hK20 (.cons (i := 0) rfl (.cons (i := 1) rfl (.cons (i := 8) rfl (.nil)))) ?_
        obtain ⟨o24, hF24, hF⟩ := bnd hF
        refine W.join0 (Em := []) (M := []) (I := (.inl ()) = o24) (.cons (i := 0) rfl (.cons (i := 1) rfl (.nil))) (fun K25 hK25 => ?_) ?_
        · -- up to
          -- region 12: clocks.go:131
          refine W.seqR fun Q26 hQ26 => ?_
          refine WL.q (Y.move (.pl rfl)) rfl ?_
          refine WL.q (Y.len Try.underlying22 (.pl rfl)) rfl ?_
          refine WL.q (Y.move (.pl rfl)) rfl ?_
          refine WL.next hQ26 (.cons (i := 0) rfl (.cons (i := 1) rfl (.cons (i := 8) rfl (.cons (i := 42) rfl (.cons (i := 43) rfl (.cons (i := 44) rfl (.nil))))))) ?_
          refine W.block ?_
          refine W.loop1 (Em := fun (v22 : Int) => [(44, .int .i64 v22)]) (M := fun v22 => [cBx b12 101 ((encA 8 (eI .i64) 0) count13)]) (I := fun v22 k27 => iter (clocks_Cut_L21 N ends6 count13) k27 v22 = some o24) 0 N (hF24) (.cons rfl (.nil)) (.cons (i := 0) rfl (.cons (i := 1) rfl (.cons (i := 8) rfl (.cons (i := 42) rfl (.cons (i := 43) rfl (.nil)))))) (fun w hw => hw.pick [0] rfl) (fun v22 k27 hI K28 hK28 => ?_)
          obtain ⟨k27, t27, rfl, hF27, hN27⟩ := iter_step hI
          -- region 13: clocks.go:131
          refine W.seqR fun Q29 hQ29 => ?_
          refine WL.q (Y.lss (.pl rfl) (.pl rfl)) rfl ?_
          refine WL.next hQ29 (.cons (i := 0) rfl (.cons (i := 1) rfl (.cons (i := 8) rfl (.cons (i := 42) rfl (.cons (i := 43) rfl (.cons (i := 44) rfl (.cons (i := 45) rfl (.nil)))))))) ?_
          refine W.seq fun K30 hK30 => ?_
          refine W.cond (.pl rfl) (fun hC31 => ?_) (fun hC31 => ?_)
          · replace hF27 := cpos hC31 hF27
            refine W.skip ?_
            refine W.go hK30 (.cons (i := 0) rfl (.cons (i := 1) rfl (.cons (i := 8) rfl (.cons (i := 42) rfl (.cons (i := 43) rfl (.cons (i := 44) rfl (.nil))))))) ?_
            refine W.seq fun K32 hK32 => ?_
            refine W.block ?_
            -- region 14: clocks.go:131
            refine W.seqR fun Q33 hQ33 => ?_
            refine WL.q (Y.move (.pl rfl)) rfl ?_
            obtain ⟨x23, hx23, hF27⟩ := bnd hF27
            refine WL.q (Y.slEl Try.underlying22 cells3 hs9 (.pl rfl) (.pl rfl) (ix_lt (hx23))) rfl ?_
            refine WL.q (Y.loadS (enc := (eI .i64)) (v := .int .i64 x23) (j := 0) Try.underlying3 rfl hs9 (.pl rfl) (hx23) rfl rfl) rfl ?_
            refine WL.q (Y.assign (.pl rfl)) rfl ?_
            refine WL.q (Y.assign (.pl rfl)) rfl ?_
            refine WL.next hQ33 (.cons (i := 0) rfl (.cons (i := 1) rfl (.cons (i := 8) rfl (.cons (i := 11) rfl (.cons (i := 12) rfl (.cons (i := 42) rfl (.cons (i := 43) rfl (.cons (i := 44) rfl (.nil))))))))) ?_
            -- region 15: clocks.go:132
            refine W.seqR fun Q34 hQ34 => ?_
            refine WL.q (Y.move (.pl rfl)) rfl ?_
            refine WL.q (Y.lss (.pl rfl) (.pl rfl)) rfl ?_
            refine WL.q (Y.move (.pl rfl)) rfl ?_
            refine WL.g (.pl rfl rfl rfl) (fun hg => Y.move (.pl rfl)) rfl ?_
            refine WL.g (.pl rfl rfl rfl) (fun hg => Y.move (.pl rfl)) rfl ?_
            obtain ⟨x24, hx24, hF27⟩ := bnd hF27
            refine WL.g (.pl rfl rfl rfl) (fun hg => Y.arrZ Try.underlying101 cells3 (.pl rfl) (.gd (hg) rfl) (ax_lt (gpos hg hx24))) rfl ?_
            refine WL.g (.pl rfl rfl rfl) (fun hg => Y.loadB (v := .int .i64 x24) Try.underlying3 rfl (.gd (hg) rfl) (i := 0) rfl (cellsA (pre := []) (off := 0) (post := []) (a := count13) (enc := (eI .i64)) (d := 0) (n := 8) (sz := 1) (j := 0) (fun _ => rfl) rfl (ax_nat (gpos hg hx24)) (ax_get (gpos hg hx24)) rfl)) rfl ?_
            refine WL.g (.pl rfl rfl rfl) (fun hg => Y.gtr (.gd (hg) rfl) (.gd (hg) rfl)) rfl ?_
            refine WL.q (Y.or (.pl rfl) (fun h2 => .gd (eqf h2) rfl)) rfl ?_
            refine WL.next hQ34 (.cons (i := 0) rfl (.cons (i := 1) rfl (.cons (i := 8) rfl (.cons (i := 42) rfl (.cons (i := 43) rfl (.cons (i := 44) rfl (.cons (i := 57) rfl (.nil)))))))) ?_
            refine W.cond (.pl rfl) (fun hC35 => ?_) (fun hC35 => ?_)
            · replace hF27 := cpos hC35 hF27
              -- region 16: clocks.go:133
              refine W.seqR fun Q36 hQ36 => ?_
              refine WL.q (Y.assign (.pl rfl)) rfl ?_
              refine WL.q (Y.assign (.pl rfl)) rfl ?_
              refine WL.next hQ36 (.cons (i := 4) rfl (.cons (i := 5) rfl (.nil))) ?_
              obtain rfl := Option.some.inj hF27
              obtain rfl := einr hN27
              obtain rfl := Option.some.inj hF
              refine W.retV (fn := Try.f30) (vs := [.bool false, .int .i64 1]) Try.results30 ⟨.tmp rfl, ⟨.tmp rfl, trivial⟩⟩ (fun _ _ h => h) (fun w hw => ?_)
              exact hR _ _ ⟨rfl, (hw.pick [] rfl)⟩
            · replace hF27 := cneg hC35 hF27
              refine W.skip ?_
              refine W.go hK32 (.cons (i := 0) rfl (.cons (i := 1) rfl (.cons (i := 8) rfl (.cons (i := 42) rfl (.cons (i := 43) rfl (.cons (i := 44) rfl (.nil))))))) ?_
              -- region 17: clocks.go:131
              refine W.reg ?_
              obtain ⟨hk25, hF27⟩ := ckh hF27
              refine WL.q (Y.add (.pl rfl) (.pl rfl) (ok64_lt (hk25))) rfl ?_
              refine WL.q (Y.move (.pl rfl)) rfl ?_
              refine WL.nil ?_
              obtain rfl := Option.some.inj hF27
              exact W.again1 hK28 (v22 + 1) k27 hN27 (Nat.lt_succ_self _) (.cons rfl (.nil)) (.cons (i := 0) rfl (.cons (i := 1) rfl (.cons (i := 8) rfl (.cons (i := 42) rfl (.cons (i := 43) rfl (.nil)))))) (fun w hw => hw.pick [0] rfl)
          · replace hF27 := cneg hC31 hF27
            refine W.exit ?_
            obtain rfl := Option.some.inj hF27
            exact W.joinAt0 hK25  (einr hN27) (.nil) (.cons (i := 0) rfl (.cons (i := 1) rfl (.nil))) (fun w hw => hw.pick [] rfl)
        · -- behind
          rintro  rfl
          -- region 18: clocks.go:136
          refine W.seqR fun Q38 hQ38 => ?_
          refine WL.q (Y.move (.pl rfl)) rfl ?_
          obtain ⟨r26, hr26, hF⟩ := bnd hF
          refine WL.step (WO.callM isGo48 (.cons (.pl rfl) (.nil)) rfl (fun w hw => clocks_knows_ok (hr26) w (hs4.mono hw)) ?_)
          rintro A27 -
          refine WL.q (Y.assign (.pl rfl)) rfl ?_
          refine WL.next hQ38 (.cons (i := 0) rfl (.cons (i := 1) rfl (.cons (i := 13) rfl (.nil)))) ?_
          obtain ⟨o39, hF39, hF⟩ := bnd hF
          refine W.join0 (Em := []) (M := []) (I := (.inl ()) = o39) (.nil) (fun K40 hK40 => ?_) ?_
          · -- up to
            -- region 19: clocks.go:137
            refine W.seqR fun Q41 hQ41 => ?_
            refine WL.q (Y.move (.pl rfl)) rfl ?_
            refine WL.q (Y.len Try.underlying57 (.pl rfl)) rfl ?_
            refine WL.q (Y.move (.pl rfl)) rfl ?_
            refine WL.next hQ41 (.cons (i := 1) rfl (.cons (i := 13) rfl (.cons (i := 61) rfl (.cons (i := 62) rfl (.cons (i := 63) rfl (.nil)))))) ?_
            refine W.block ?_
            refine W.loop1 (Em := fun (v28 : Int) => [(63, .int .i64 v28)]) (M := fun v28 => [cR (encA 8 (eI .i64) 0) 8 A27 ((l1).length : Int).toNat 101 r26]) (I := fun v28 k42 => iter (clocks_Cut_L33 N l1 r26 ends6) k42 v28 = some o39) 0 N (hF39) (.cons rfl (.nil)) (.cons (i := 1) rfl (.cons (i := 13) rfl (.cons (i := 61) rfl (.cons (i := 62) rfl (.nil))))) (fun w hw => hw.pick [0] rfl) (fun v28 k42 hI K43 hK43 => ?_)
            obtain ⟨k42, t42, rfl, hF42, hN42⟩ := iter_step hI
            -- region 20: clocks.go:137
            refine W.seqR fun Q44 hQ44 => ?_
            refine WL.q (Y.lss (.pl rfl) (.pl rfl)) rfl ?_
            refine WL.next hQ44 (.cons (i := 1) rfl (.cons (i := 13) rfl (.cons (i := 61) rfl (.cons (i := 62) rfl (.cons (i := 63) rfl (.cons (i := 64) rfl (.nil))))))) ?_
            refine W.seq fun K45 hK45 => ?_
            refine W.cond (.pl rfl) (fun hC46 => ?_) (fun hC46 => ?_)
            · replace hF42 := cpos hC46 hF42
              refine W.skip ?_
              refine W.go hK45 (.cons (i := 1) rfl (.cons (i := 13) rfl (.cons (i := 61) rfl (.cons (i := 62) rfl (.cons (i := 63) rfl (.nil)))))) ?_
              obtain ⟨o47, hF47, hF42⟩ := bnd hF42
              refine W.join0 (Em := []) (M := [cR (encA 8 (eI .i64) 0) 8 A27 ((l1).length : Int).toNat 101 r26]) (I := (.inl ()) = o47) (.cons (i := 1) rfl (.cons (i := 13) rfl (.cons (i := 61) rfl (.cons (i := 62) rfl (.cons (i := 63) rfl (.nil)))))) (fun K48 hK48 => ?_) ?_
              · -- up to
                refine W.block ?_
                -- region 21: clocks.go:137
                refine W.seqR fun Q49 hQ49 => ?_
                refine WL.q (Y.move (.pl rfl)) rfl ?_
                obtain ⟨x29, hx29, hF47⟩ := bnd hF47
                refine WL.q (Y.slEl Try.underlying57 cells64 hs4 (.pl rfl) (.pl rfl) (ix_lt (hx29))) rfl ?_
                refine WL.q (Y.loadSA (enc := encMark) (ds := (encMark x29)) (j := 0) Try.underlying64 rfl cells64 hs4 (.pl rfl) (hx29) rfl rfl subW) rfl ?_
                refine WL.step (WO.alloc (cs := (encMark (Mark.mk 0 0 0)).toArray) zero64 rfl rfl fun b30 => ?_)
                refine WL.q (Y.assign (.pl rfl)) rfl ?_
                refine WL.step (WO.storeBA (ds := (encMark x29)) (cs' := (encMark x29)) cells64 (.pl rfl) (.pl rfl) rfl (oneMark _) (i := 0) rfl (lel (o := 0) (l := 3) (m := 3) (by decide) rfl rfl) (putW rfl) ?_)
                refine WL.next hQ49 (.cons (i := 1) rfl (.cons (i := 13) rfl (.cons (i := 14) rfl (.cons (i := 15) rfl (.cons (i := 61) rfl (.cons (i := 62) rfl (.cons (i := 63) rfl (.nil)))))))) ?_
                refine W.seq fun K50 hK50 => ?_
                -- region 22: clocks.go:138
                refine W.seqD (by kernel_rfl) (by kernel_rfl) fun R51 hR51 => ?_
                refine WD.q (Y.move (.pl rfl)) rfl ?_
                refine WD.q (Y.move (.pl rfl)) rfl ?_
                refine WD.q (Y.fieldAddr0 (off := 0) (ft := 3) Try.underlying64 rfl cells3 (.pl rfl)) rfl ?_
                refine WD.q (Y.loadB (v := .int .i64 x29.who) Try.underlying3 rfl (.pl rfl) (i := 0) rfl (rfl)) rfl ?_
                obtain ⟨x31, hx31, hF47⟩ := bnd hF47
                refine WD.q (Y.rowEl Try.underlying99 cells101 (i := 1) rfl (.pl rfl) rfl (.pl rfl) (ix_lt (hx31))) rfl ?_
                obtain ⟨x32, hx32, hF47⟩ := bnd hF47
                refine WD.q (Y.arrR Try.underlying101 cells3 (i' := 1) rfl (ix_lt (hx31)) (.pl rfl) (.pl rfl) (ax_lt (hx32))) rfl ?_
                refine WD.q (Y.loadR (enc := (encA 8 (eI .i64) 0)) (v := .int .i64 x32) (a := x31) (idx := v28) (j := x29.who.toNat * 1 + 0) Try.underlying3 rfl (fun _ => lenA (sz := 1) (fun _ => rfl)) (i := 1) rfl (.pl rfl) (ix_get (hx31)) (by omega) (cellsA0 (a := x31) (enc := (eI .i64)) (d := 0) (n := 8) (sz := 1) (j := 0) (fun _ => rfl) (ax_nat (hx32)) (ax_get (hx32)) rfl)) rfl ?_
                refine WD.q (Y.move (.pl rfl)) rfl ?_
                refine WD.q (Y.fieldAddr0 (off := 0) (ft := 3) Try.underlying64 rfl cells3 (.pl rfl)) rfl ?_
                refine WD.q (Y.loadB (v := .int .i64 x29.who) Try.underlying3 rfl (.pl rfl) (i := 0) rfl (rfl)) rfl ?_
                obtain ⟨x33, hx33, hF47⟩ := bnd hF47
                refine WD.q (Y.slEl Try.underlying22 cells3 hs9 (.pl rfl) (.pl rfl) (ix_lt (hx33))) rfl ?_
                refine WD.q (Y.loadS (enc := (eI .i64)) (v := .int .i64 x33) (j := 0) Try.underlying3 rfl hs9 (.pl rfl) (hx33) rfl rfl) rfl ?_
                refine WD.q (Y.gtr (.pl rfl) (.pl rfl)) rfl ?_
                refine WD.next hR51 (.cons (i := 1) rfl (.cons (i := 13) rfl (.cons (i := 14) rfl (.cons (i := 61) rfl (.cons (i := 62) rfl (.cons (i := 63) rfl (.cons (i := 80) rfl (.nil)))))))) ?_
                refine W.cond (.pl rfl) (fun hC52 => ?_) (fun hC52 => ?_)
                · replace hF47 := cpos hC52 hF47
                  refine W.exit ?_
                  exact W.joinAt0 hK48  (Option.some.inj hF47) (.nil) (.cons (i := 1) rfl (.cons (i := 13) rfl (.cons (i := 61) rfl (.cons (i := 62) rfl (.cons (i := 63) rfl (.nil)))))) (fun w hw => hw.pick [1] rfl)
                · replace hF47 := cneg hC52 hF47
                  refine W.skip ?_
                  refine W.go hK50 (.cons (i := 1) rfl (.cons (i := 13) rfl (.cons (i := 14) rfl (.cons (i := 61) rfl (.cons (i := 62) rfl (.cons (i := 63) rfl (.nil))))))) ?_
                  -- region 23: clocks.go:141
                  refine W.seqR fun Q53 hQ53 => ?_
                  refine WL.q (Y.move (.pl rfl)) rfl ?_
                  refine WL.q (Y.move (.pl rfl)) rfl ?_
                  obtain ⟨x34, hx34, hF47⟩ := bnd hF47
                  refine WL.q (Y.rowEl Try.underlying99 cells101 (i := 1) rfl (.pl rfl) rfl (.pl rfl) (ix_lt (hx34))) rfl ?_
                  refine WL.q (Y.loadRA (enc := (encA 8 (eI .i64) 0)) (ds := ((encA 8 (eI .i64) 0) x34)) (a := x34) (idx := v28) (j := 0) Try.underlying101 rfl cells101 (fun _ => lenA (sz := 1) (fun _ => rfl)) (i := 1) rfl (.pl rfl) (ix_get (hx34)) rfl rfl subW) rfl ?_
                  refine WL.q (Y.move (.pl rfl)) rfl ?_
                  refine WL.next hQ53 (.cons (i := 1) rfl (.cons (i := 13) rfl (.cons (i := 61) rfl (.cons (i := 62) rfl (.cons (i := 63) rfl (.cons (i := 84) rfl (.cons (i := 85) rfl (.nil)))))))) ?_
                  refine W.block ?_
                  refine W.loop1 (Em := fun (v35 : Int) => [(85, .int .i64 v35)]) (M := fun v35 => [cR (encA 8 (eI .i64) 0) 8 A27 ((l1).length : Int).toNat 101 r26]) (I := fun v35 k54 => iter (clocks_Cut_L35 N x34 ends6) k54 v35 = some o47) 0 N (hF47) (.cons rfl (.nil)) (.cons (i := 1) rfl (.cons (i := 13) rfl (.cons (i := 61) rfl (.cons (i := 62) rfl (.cons (i := 63) rfl (.cons (i := 84) rfl (.nil))))))) (fun w hw => hw.pick [1] rfl) (fun v35 k54 hI K55 hK55 => ?_)
                  obtain ⟨k54, t54, rfl, hF54, hN54⟩ := iter_step hI
                  -- region 24: clocks.go:141
                  refine W.seqR fun Q56 hQ56 => ?_
                  refine WL.q (Y.lss (.pl rfl) (.pl rfl)) rfl ?_
                  refine WL.next hQ56 (.cons (i := 1) rfl (.cons (i := 13) rfl (.cons (i := 61) rfl (.cons (i := 62) rfl (.cons (i := 63) rfl (.cons (i := 84) rfl (.cons (i := 85) rfl (.cons (i := 86) rfl (.nil))))))))) ?_
                  refine W.seq fun K57 hK57 => ?_
                  refine W.cond (.pl rfl) (fun hC58 => ?_) (fun hC58 => ?_)
                  · replace hF54 := cpos hC58 hF54
                    refine W.skip ?_
                    refine W.go hK57 (.cons (i := 1) rfl (.cons (i := 13) rfl (.cons (i := 61) rfl (.cons (i := 62) rfl (.cons (i := 63) rfl (.cons (i := 84) rfl (.cons (i := 85) rfl (.nil)))))))) ?_
                    refine W.seq fun K59 hK59 => ?_
                    refine W.block ?_
                    -- region 25: clocks.go:141
                    refine W.seqR fun Q60 hQ60 => ?_
                    refine WL.q (Y.move (.pl rfl)) rfl ?_
                    obtain ⟨x36, hx36, hF54⟩ := bnd hF54
                    refine WL.q (Y.indexA (enc := (eI .i64)) Try.underlying101 Try.underlying3 rfl cells3 (.pl rfl) (.pl rfl) (hx36) rfl (fun _ => rfl)) rfl ?_
                    refine WL.q (Y.assign (.pl rfl)) rfl ?_
                    refine WL.q (Y.assign (.pl rfl)) rfl ?_
                    refine WL.next hQ60 (.cons (i := 1) rfl (.cons (i := 13) rfl (.cons (i := 16) rfl (.cons (i := 17) rfl (.cons (i := 61) rfl (.cons (i := 62) rfl (.cons (i := 63) rfl (.cons (i := 84) rfl (.cons (i := 85) rfl (.nil)))))))))) ?_
                    -- region 26: clocks.go:142
                    refine W.seqR fun Q61 hQ61 => ?_
                    refine WL.q (Y.move (.pl rfl)) rfl ?_
                    refine WL.q (Y.move (.pl rfl)) rfl ?_
                    refine WL.q (Y.move (.pl rfl)) rfl ?_
                    obtain ⟨x37, hx37, hF54⟩ := bnd hF54
                    refine WL.q (Y.slEl Try.underlying22 cells3 hs9 (.pl rfl) (.pl rfl) (ix_lt (hx37))) rfl ?_
                    refine WL.q (Y.loadS (enc := (eI .i64)) (v := .int .i64 x37) (j := 0) Try.underlying3 rfl hs9 (.pl rfl) (hx37) rfl rfl) rfl ?_
                    refine WL.q (Y.gtr (.pl rfl) (.pl rfl)) rfl ?_
                    refine WL.next hQ61 (.cons (i := 1) rfl (.cons (i := 13) rfl (.cons (i := 61) rfl (.cons (i := 62) rfl (.cons (i := 63) rfl (.cons (i := 84) rfl (.cons (i := 85) rfl (.cons (i := 94) rfl (.nil))))))))) ?_
                    refine W.cond (.pl rfl) (fun hC62 => ?_) (fun hC62 => ?_)
                    · replace hF54 := cpos hC62 hF54
                      -- region 27: clocks.go:143
                      refine W.seqR fun Q63 hQ63 => ?_
                      refine WL.q (Y.assign (.pl rfl)) rfl ?_
                      refine WL.q (Y.assign (.pl rfl)) rfl ?_
                      refine WL.next hQ63 (.cons (i := 4) rfl (.cons (i := 5) rfl (.nil))) ?_
                      obtain rfl := Option.some.inj hF54
                      obtain rfl := einr hN54
                      obtain rfl := Option.some.inj hF42
                      obtain rfl := einr hN42
                      obtain rfl := Option.some.inj hF
                      refine W.retV (fn := Try.f30) (vs := [.bool false, .int .i64 0]) Try.results30 ⟨.tmp rfl, ⟨.tmp rfl, trivial⟩⟩ (fun _ _ h => h) (fun w hw => ?_)
                      exact hR _ _ ⟨rfl, (hw.pick [] rfl)⟩
                    · replace hF54 := cneg hC62 hF54
                      refine W.skip ?_
                      refine W.go hK59 (.cons (i := 1) rfl (.cons (i := 13) rfl (.cons (i := 61) rfl (.cons (i := 62) rfl (.cons (i := 63) rfl (.cons (i := 84) rfl (.cons (i := 85) rfl (.nil)))))))) ?_
                      -- region 28: clocks.go:141
                      refine W.reg ?_
                      obtain ⟨hk38, hF54⟩ := ckh hF54
                      refine WL.q (Y.add (.pl rfl) (.pl rfl) (ok64_lt (hk38))) rfl ?_
                      refine WL.q (Y.move (.pl rfl)) rfl ?_
                      refine WL.nil ?_
                      obtain rfl := Option.some.inj hF54
                      exact W.again1 hK55 (v35 + 1) k54 hN54 (Nat.lt_succ_self _) (.cons rfl (.nil)) (.cons (i := 1) rfl (.cons (i := 13) rfl (.cons (i := 61) rfl (.cons (i := 62) rfl (.cons (i := 63) rfl (.cons (i := 84) rfl (.nil))))))) (fun w hw => hw.pick [0] rfl)
                  · replace hF54 := cneg hC58 hF54
                    refine W.exit ?_
                    obtain rfl := Option.some.inj hF54
                    exact W.joinAt0 hK48  (einr hN54) (.nil) (.cons (i := 1) rfl (.cons (i := 13) rfl (.cons (i := 61) rfl (.cons (i := 62) rfl (.cons (i := 63) rfl (.nil)))))) (fun w hw => hw.pick [0] rfl)
              · -- behind
                rintro  rfl
                -- region 29: clocks.go:137
                refine W.reg ?_
                obtain ⟨hk39, hF42⟩ := ckh hF42
                refine WL.q (Y.add (.pl rfl) (.pl rfl) (ok64_lt (hk39))) rfl ?_
                refine WL.q (Y.move (.pl rfl)) rfl ?_
                refine WL.nil ?_
                obtain rfl := Option.some.inj hF42
                exact W.again1 hK43 (v28 + 1) k42 hN42 (Nat.lt_succ_self _) (.cons rfl (.nil)) (.cons (i := 1) rfl (.cons (i := 13) rfl (.cons (i := 61) rfl (.cons (i := 62) rfl (.nil))))) (fun w hw => hw.pick [0] rfl)
            · replace hF42 := cneg hC46 hF42
              refine W.exit ?_
              obtain rfl := Option.some.inj hF42
              exact W.joinAt0 hK40  (einr hN42) (.nil) (.nil) (fun w hw => hw.pick [] rfl)
          · -- behind
            rintro  rfl
            -- region 30: clocks.go:147
            refine W.seqR fun Q66 hQ66 => ?_
            refine WL.q (Y.assign (.pl rfl)) rfl ?_
            refine WL.q (Y.assign (.pl rfl)) rfl ?_
            refine WL.next hQ66 (.cons (i := 4) rfl (.cons (i := 5) rfl (.nil))) ?_
            obtain rfl := Option.some.inj hF
            refine W.retV (fn := Try.f30) (vs := [.bool true, .int .i64 0]) Try.results30 ⟨.tmp rfl, ⟨.tmp rfl, trivial⟩⟩ (fun _ _ h => h) (fun w hw => ?_)
            exact hR _ _ ⟨rfl, (hw.pick [] rfl)⟩

def alibkeep_ok_L3 (N : Nat) (l1 : (List Int)) : Int → Option (Int ⊕ (Unit ⊕ Bool))
  | v6 =>
    cond (decide (v6 < ((l1).length : Int)))
      (bd (ix l1 v6) fun (x7 : Int) =>
      cond (!(decide (x7 = 0)))
        (some (.inr (.inr false)))
        (ck (ok64 (v6 + 1)) <|
        some (.inl (v6 + 1))))
      (some (.inr (.inl ())))

def alibkeep_ok (N : Nat) (l1 : (List Int)) : Option Bool :=
  bd (α := (Unit ⊕ Bool)) (iter (alibkeep_ok_L3 N l1) N 0) <|
  Sum.elim (fun _ => 
    some true) (fun p => some p)

theorem alibkeep_ok_ok {N : Nat} {l1 : (List Int)} {res : Bool} (hF : alibkeep_ok N l1 = some res) (w : World) {v5 : Value} (hs4 : SlIn (eI .i64) 1 w v5 l1) :
    Pure Try.prog 25 [v5] w (.bool res) := by
  obtain ⟨A2, c3, rfl, hcc3, hs4⟩ := hs4.form
  refine W.enter (n := 14) Try.func25 rfl rfl Sub.refl (by simp) (St.start w) fun R hR => ?_
  unfold alibkeep_ok at hF
  -- region 0: order.go:22
  refine W.seqR fun Q1 hQ1 => ?_
  refine WL.q (Y.assign (.pl rfl)) rfl ?_
  refine WL.next hQ1 (.cons (i := 0) rfl (.nil)) ?_
  obtain ⟨o2, hF2, hF⟩ := bnd hF
  refine W.join0 (Em := []) (M := []) (I := (.inl ()) = o2) (.nil) (fun K3 hK3 => ?_) ?_
  · -- up to
    -- region 1: order.go:23
    refine W.seqR fun Q4 hQ4 => ?_
    refine WL.q (Y.move (.pl rfl)) rfl ?_
    refine WL.q (Y.len Try.underlying92 (.pl rfl)) rfl ?_
    refine WL.q (Y.move (.pl rfl)) rfl ?_
    refine WL.next hQ4 (.cons (i := 5) rfl (.cons (i := 6) rfl (.cons (i := 7) rfl (.nil)))) ?_
    refine W.block ?_
    refine W.loop1 (Em := fun (v6 : Int) => [(7, .int .i64 v6)]) (M := fun v6 => []) (I := fun v6 k5 => iter (alibkeep_ok_L3 N l1) k5 v6 = some o2) 0 N (hF2) (.cons rfl (.nil)) (.cons (i := 5) rfl (.cons (i := 6) rfl (.nil))) (fun w hw => hw.pick [] rfl) (fun v6 k5 hI K6 hK6 => ?_)
    obtain ⟨k5, t5, rfl, hF5, hN5⟩ := iter_step hI
    -- region 2: order.go:23
    refine W.seqR fun Q7 hQ7 => ?_
    refine WL.q (Y.lss (.pl rfl) (.pl rfl)) rfl ?_
    refine WL.next hQ7 (.cons (i := 5) rfl (.cons (i := 6) rfl (.cons (i := 7) rfl (.cons (i := 8) rfl (.nil))))) ?_
    refine W.seq fun K8 hK8 => ?_
    refine W.cond (.pl rfl) (fun hC9 => ?_) (fun hC9 => ?_)
    · replace hF5 := cpos hC9 hF5
      refine W.skip ?_
      refine W.go hK8 (.cons (i := 5) rfl (.cons (i := 6) rfl (.cons (i := 7) rfl (.nil)))) ?_
      refine W.seq fun K10 hK10 => ?_
      refine W.block ?_
      -- region 3: order.go:23
      refine W.seqR fun Q11 hQ11 => ?_
      obtain ⟨x7, hx7, hF5⟩ := bnd hF5
      refine WL.q (Y.slEl Try.underlying92 cells25 hs4 (.pl rfl) (.pl rfl) (ix_lt (hx7))) rfl ?_
      refine WL.q (Y.loadS (enc := (eI .i64)) (v := .int .i64 x7) (j := 0) Try.underlying25 rfl hs4 (.pl rfl) (hx7) rfl rfl) rfl ?_
      refine WL.q (Y.assign (.pl rfl)) rfl ?_
      refine WL.next hQ11 (.cons (i := 4) rfl (.cons (i := 5) rfl (.cons (i := 6) rfl (.cons (i := 7) rfl (.nil))))) ?_
      -- region 4: order.go:24
      refine W.seqR fun Q12 hQ12 => ?_
      refine WL.q (Y.move (.pl rfl)) rfl ?_
      refine WL.q (Y.neq (.pl rfl) (.pl rfl)) rfl ?_
      refine WL.next hQ12 (.cons (i := 5) rfl (.cons (i := 6) rfl (.cons (i := 7) rfl (.cons (i := 12) rfl (.nil))))) ?_
      refine W.cond (.pl rfl) (fun hC13 => ?_) (fun hC13 => ?_)
      · replace hF5 := cpos hC13 hF5
        -- region 5: order.go:25
        refine W.seqR fun Q14 hQ14 => ?_
        refine WL.q (Y.assign (.pl rfl)) rfl ?_
        refine WL.next hQ14 (.cons (i := 2) rfl (.nil)) ?_
        obtain rfl := Option.some.inj hF5
        obtain rfl := einr hN5
        obtain rfl := Option.some.inj hF
        refine W.retV (fn := Try.f25) (vs := [.bool false]) Try.results25 ⟨.tmp rfl, trivial⟩ (fun _ _ h => h) (fun w hw => ?_)
        exact hR _ _ ⟨rfl, (hw.pick [] rfl)⟩
      · replace hF5 := cneg hC13 hF5
        refine W.skip ?_
        refine W.go hK10 (.cons (i := 5) rfl (.cons (i := 6) rfl (.cons (i := 7) rfl (.nil)))) ?_
        -- region 6: order.go:23
        refine W.reg ?_
        obtain ⟨hk8, hF5⟩ := ckh hF5
        refine WL.q (Y.add (.pl rfl) (.pl rfl) (ok64_lt (hk8))) rfl ?_
        refine WL.q (Y.move (.pl rfl)) rfl ?_
        refine WL.nil ?_
        obtain rfl := Option.some.inj hF5
        exact W.again1 hK6 (v6 + 1) k5 hN5 (Nat.lt_succ_self _) (.cons rfl (.nil)) (.cons (i := 5) rfl (.cons (i := 6) rfl (.nil))) (fun w hw => hw.pick [] rfl)
    · replace hF5 := cneg hC9 hF5
      refine W.exit ?_
      obtain rfl := Option.some.inj hF5
      exact W.joinAt0 hK3  (einr hN5) (.nil) (.nil) (fun w hw => hw.pick [] rfl)
  · -- behind
    rintro  rfl
    -- region 7: order.go:28
    refine W.seqR fun Q16 hQ16 => ?_
    refine WL.q (Y.assign (.pl rfl)) rfl ?_
    refine WL.next hQ16 (.cons (i := 2) rfl (.nil)) ?_
    obtain rfl := Option.some.inj hF
    refine W.retV (fn := Try.f25) (vs := [.bool true]) Try.results25 ⟨.tmp rfl, trivial⟩ (fun _ _ h => h) (fun w hw => ?_)
    exact hR _ _ ⟨rfl, (hw.pick [] rfl)⟩

def slices_Equal_int_int_L3 (N : Nat) (s11 : (List Int)) (s26 : (List Int)) : Int → Option (Int ⊕ (Unit ⊕ Bool))
  | v11 =>
    cond (decide (v11 < ((s11).length : Int)))
      (bd (ix s11 v11) fun (x12 : Int) =>
      bd (ix s26 v11) fun (x13 : Int) =>
      cond (!(decide (x12 = x13)))
        (some (.inr (.inr false)))
        (ck (ok64 (v11 + 1)) <|
        some (.inl (v11 + 1))))
      (some (.inr (.inl ())))

def slices_Equal_int_int (N : Nat) (s11 : (List Int)) (s26 : (List Int)) : Option Bool :=
  cond (!(decide (((s11).length : Int) = ((s26).length : Int))))
    (some false)
    (bd (α := (Unit ⊕ Bool)) (iter (slices_Equal_int_int_L3 N s11 s26) N 0) <|
    Sum.elim (fun _ => 
      some true) (fun p => some p))

theorem slices_Equal_int_int_ok {N : Nat} {s11 : (List Int)} {s26 : (List Int)} {res : Bool} (hF : slices_Equal_int_int N s11 s26 = some res) (w : World) {v5 : Value} (hs4 : SlIn (eI .i64) 1 w v5 s11) {v10 : Value} (hs9 : SlIn (eI .i64) 1 w v10 s26) :
    Pure Try.prog 50 [v5, v10] w (.bool res) := by
  obtain ⟨A2, c3, rfl, hcc3, hs4⟩ := hs4.form
  obtain ⟨A7, c8, rfl, hcc8, hs9⟩ := hs9.form
  refine W.enter (n := 26) Try.func50 rfl rfl Sub.refl (by simp) (St.start w) fun R hR => ?_
  unfold slices_Equal_int_int at hF
  -- region 0: slices.go:20
  refine W.seqR fun Q1 hQ1 => ?_
  refine WL.q (Y.assign (.pl rfl)) rfl ?_
  refine WL.next hQ1 (.cons (i := 0) rfl (.cons (i := 1) rfl (.nil))) ?_
  refine W.seq fun K2 hK2 => ?_
  -- region 1: slices.go:21
  refine W.seqR fun Q3 hQ3 => ?_
  refine WL.q (Y.move (.pl rfl)) rfl ?_
  refine WL.q (Y.len Try.underlying22 (.pl rfl)) rfl ?_
  refine WL.q (Y.move (.pl rfl)) rfl ?_
  refine WL.q (Y.len Try.underlying22 (.pl rfl)) rfl ?_
  refine WL.q (Y.neq (.pl rfl) (.pl rfl)) rfl ?_
  refine WL.next hQ3 (.cons (i := 0) rfl (.cons (i := 1) rfl (.cons (i := 10) rfl (.nil)))) ?_
  refine W.cond (.pl rfl) (fun hC4 => ?_) (fun hC4 => ?_)
  · replace hF := cpos hC4 hF
    -- region 2: slices.go:22
    refine W.seqR fun Q5 hQ5 => ?_
    refine WL.q (Y.assign (.pl rfl)) rfl ?_
    refine WL.next hQ5 (.cons (i := 4) rfl (.nil)) ?_
    obtain rfl := Option.some.inj hF
    refine W.retV (fn := Try.f50) (vs := [.bool false]) Try.results50 ⟨.tmp rfl, trivial⟩ (fun _ _ h => h) (fun w hw => ?_)
    exact hR _ _ ⟨rfl, (hw.pick [] rfl)⟩
  · replace hF := cneg hC4 hF
    refine W.skip ?_
    refine W.go hK2 (.cons (i := 0) rfl (.cons (i := 1) rfl (.nil))) ?_
    obtain ⟨o6, hF6, hF⟩ := bnd hF
    refine W.join0 (Em := []) (M := []) (I := (.inl ()) = o6) (.nil) (fun K7 hK7 => ?_) ?_
    · -- up to
      -- region 3: slices.go:24
      refine W.seqR fun Q8 hQ8 => ?_
      refine WL.q (Y.move (.pl rfl)) rfl ?_
      refine WL.q (Y.len Try.underlying22 (.pl rfl)) rfl ?_
      refine WL.q (Y.move (.pl rfl)) rfl ?_
      refine WL.next hQ8 (.cons (i := 0) rfl (.cons (i := 1) rfl (.cons (i := 12) rfl (.cons (i := 13) rfl (.nil))))) ?_
      refine W.block ?_
      refine W.loop1 (Em := fun (v11 : Int) => [(13, .int .i64 v11)]) (M := fun v11 => []) (I := fun v11 k9 => iter (slices_Equal_int_int_L3 N s11 s26) k9 v11 = some o6) 0 N (hF6) (.cons rfl (.nil)) (.cons (i := 0) rfl (.cons (i := 1) rfl (.cons (i := 12) rfl (.nil)))) (fun w hw => hw.pick [] rfl) (fun v11 k9 hI K10 hK10 => ?_)
      obtain ⟨k9, t9, rfl, hF9, hN9⟩ := iter_step hI
      -- region 4: slices.go:24
      refine W.seqR fun Q11 hQ11 => ?_
      refine WL.q (Y.lss (.pl rfl) (.pl rfl)) rfl ?_
      refine WL.next hQ11 (.cons (i := 0) rfl (.cons (i := 1) rfl (.cons (i := 12) rfl (.cons (i := 13) rfl (.cons (i := 14) rfl (.nil)))))) ?_
      refine W.seq fun K12 hK12 => ?_
      refine W.cond (.pl rfl) (fun hC13 => ?_) (fun hC13 => ?_)
      · replace hF9 := cpos hC13 hF9
        refine W.skip ?_
        refine W.go hK12 (.cons (i := 0) rfl (.cons (i := 1) rfl (.cons (i := 12) rfl (.cons (i := 13) rfl (.nil))))) ?_
        refine W.seq fun K14 hK14 => ?_
        refine W.block ?_
        -- region 5: slices.go:24
        refine W.seqR fun Q15 hQ15 => ?_
        refine WL.q (Y.move (.pl rfl)) rfl ?_
        refine WL.q (Y.assign (.pl rfl)) rfl ?_
        refine WL.next hQ15 (.cons (i := 0) rfl (.cons (i := 1) rfl (.cons (i := 5) rfl (.cons (i := 12) rfl (.cons (i := 13) rfl (.nil)))))) ?_
        -- region 6: slices.go:25
        refine W.seqD (by kernel_rfl) (by kernel_rfl) fun R16 hR16 => ?_
        refine WD.q (Y.move (.pl rfl)) rfl ?_
        refine WD.q (Y.move (.pl rfl)) rfl ?_
        obtain ⟨x12, hx12, hF9⟩ := bnd hF9
        refine WD.q (Y.slEl Try.underlying22 cells3 hs4 (.pl rfl) (.pl rfl) (ix_lt (hx12))) rfl ?_
        refine WD.q (Y.loadS (enc := (eI .i64)) (v := .int .i64 x12) (j := 0) Try.underlying3 rfl hs4 (.pl rfl) (hx12) rfl rfl) rfl ?_
        refine WD.q (Y.move (.pl rfl)) rfl ?_
        refine WD.q (Y.move (.pl rfl)) rfl ?_
        obtain ⟨x13, hx13, hF9⟩ := bnd hF9
        refine WD.q (Y.slEl Try.underlying22 cells3 hs9 (.pl rfl) (.pl rfl) (ix_lt (hx13))) rfl ?_
        refine WD.q (Y.loadS (enc := (eI .i64)) (v := .int .i64 x13) (j := 0) Try.underlying3 rfl hs9 (.pl rfl) (hx13) rfl rfl) rfl ?_
        refine WD.q (Y.neq (.pl rfl) (.pl rfl)) rfl ?_
        refine WD.next hR16 (.cons (i := 0) rfl (.cons (i := 1) rfl (.cons (i := 12) rfl (.cons (i := 13) rfl (.cons (i := 24) rfl (.nil)))))) ?_
        refine W.cond (.pl rfl) (fun hC17 => ?_) (fun hC17 => ?_)
        · replace hF9 := cpos hC17 hF9
          -- region 7: slices.go:26
          refine W.seqR fun Q18 hQ18 => ?_
          refine WL.q (Y.assign (.pl rfl)) rfl ?_
          refine WL.next hQ18 (.cons (i := 4) rfl (.nil)) ?_
          obtain rfl := Option.some.inj hF9
          obtain rfl := einr hN9
          obtain rfl := Option.some.inj hF
          refine W.retV (fn := Try.f50) (vs := [.bool false]) Try.results50 ⟨.tmp rfl, trivial⟩ (fun _ _ h => h) (fun w hw => ?_)
          exact hR _ _ ⟨rfl, (hw.pick [] rfl)⟩
        · replace hF9 := cneg hC17 hF9
          refine W.skip ?_
          refine W.go hK14 (.cons (i := 0) rfl (.cons (i := 1) rfl (.cons (i := 12) rfl (.cons (i := 13) rfl (.nil))))) ?_
          -- region 8: slices.go:24
          refine W.reg ?_
          obtain ⟨hk14, hF9⟩ := ckh hF9
          refine WL.q (Y.add (.pl rfl) (.pl rfl) (ok64_lt (hk14))) rfl ?_
          refine WL.q (Y.move (.pl rfl)) rfl ?_
          refine WL.nil ?_
          obtain rfl := Option.some.inj hF9
          exact W.again1 hK10 (v11 + 1) k9 hN9 (Nat.lt_succ_self _) (.cons rfl (.nil)) (.cons (i := 0) rfl (.cons (i := 1) rfl (.cons (i := 12) rfl (.nil)))) (fun w hw => hw.pick [] rfl)
      · replace hF9 := cneg hC13 hF9
        refine W.exit ?_
        obtain rfl := Option.some.inj hF9
        exact W.joinAt0 hK7  (einr hN9) (.nil) (.nil) (fun w hw => hw.pick [] rfl)
    · -- behind
      rintro  rfl
      -- region 9: slices.go:29
      refine W.seqR fun Q20 hQ20 => ?_
      refine WL.q (Y.assign (.pl rfl)) rfl ?_
      refine WL.next hQ20 (.cons (i := 4) rfl (.nil)) ?_
      obtain rfl := Option.some.inj hF
      refine W.retV (fn := Try.f50) (vs := [.bool true]) Try.results50 ⟨.tmp rfl, trivial⟩ (fun _ _ h => h) (fun w hw => ?_)
      exact hR _ _ ⟨rfl, (hw.pick [] rfl)⟩

def alibkeep_clocksLives (N : Nat) : Option Bool :=
  bd (alibkeep_posted N) fun (r1 : Unit) =>
  bd (clocks_Times N ([(Mark.mk 0 0 0), (Mark.mk 0 1 0), (Mark.mk 1 0 0), (Mark.mk 1 2 0), (Mark.mk 0 0 0)] : List Mark)) fun (r3 : ((List Int) × Int)) =>
  bd (alibkeep_posted N) fun (r6 : Unit) =>
  bd (clocks_Knows N ([(Mark.mk 0 0 0), (Mark.mk 0 1 0), (Mark.mk 1 0 0), (Mark.mk 1 2 0), (Mark.mk 0 0 0)] : List Mark)) fun (r8 : ((List (List Int)) × Int)) =>
  bd (alibkeep_posted N) fun (r12 : Unit) =>
  bd (clocks_Cut N ([(Mark.mk 0 0 0), (Mark.mk 0 1 0), (Mark.mk 1 0 0), (Mark.mk 1 2 0), (Mark.mk 0 0 0)] : List Mark) ([1, 2, 0, 0, 0, 0, 0, 0] : List Int)) fun (r15 : (Bool × Int)) =>
  bd (α := Bool) (bd (alibkeep_ok N ([r3.2, r8.2, r15.2] : List Int)) fun (r18 : Bool) =>
    cond (r18 == true)
      (bd (slices_Equal_int_int N r3.1 ([1, 2, 1, 3, 3] : List Int)) fun (r20 : Bool) =>
      bd ((cond (((r18 && r20) && (decide (((r8.1).length : Int) = 5))) == true) (ix r8.1 3) (some []))) fun (x21 : (List Int)) =>
      cond (((r18 && r20) && (decide (((r8.1).length : Int) = 5))) == true)
        (bd (slices_Equal_int_int N x21 ([2, 2, 0, 0, 0, 0, 0, 0] : List Int)) fun (r23 : Bool) =>
        some ((((r18 && r20) && (decide (((r8.1).length : Int) = 5))) && r23) && (!r15.1)))
        (some ((((r18 && r20) && (decide (((r8.1).length : Int) = 5))) && false) && (!r15.1))))
      (bd ((cond (((r18 && false) && (decide (((r8.1).length : Int) = 5))) == true) (ix r8.1 3) (some []))) fun (x24 : (List Int)) =>
      cond (((r18 && false) && (decide (((r8.1).length : Int) = 5))) == true)
        (bd (slices_Equal_int_int N x24 ([2, 2, 0, 0, 0, 0, 0, 0] : List Int)) fun (r26 : Bool) =>
        some ((((r18 && false) && (decide (((r8.1).length : Int) = 5))) && r26) && (!r15.1)))
        (some ((((r18 && false) && (decide (((r8.1).length : Int) = 5))) && false) && (!r15.1))))) <|
  fun (v16 : Bool) => 
    some v16

theorem alibkeep_clocksLives_ok {N : Nat} {res : Bool} (hF : alibkeep_clocksLives N = some res) (w : World) :
    Pure Try.prog 29 [] w (.bool res) := by
  refine W.enter (n := 49) Try.func29 rfl rfl Sub.refl (by simp) (St.start w) fun R hR => ?_
  unfold alibkeep_clocksLives at hF
  -- region 0: clocks.go:17
  refine W.seqR fun Q1 hQ1 => ?_
  refine WL.q (Y.assign (.pl rfl)) rfl ?_
  refine WL.next hQ1 (.nil) ?_
  -- region 1: clocks.go:18
  refine W.seqR fun Q2 hQ2 => ?_
  obtain ⟨r1, hr1, hF⟩ := bnd hF
  refine WL.step (WO.callM isGo49 (.nil) rfl (fun w hw => alibkeep_posted_ok (hr1) w ) ?_)
  rintro A2 -
  obtain ⟨r3, hr3, hF⟩ := bnd hF
  refine WL.step (WO.callM isGo32 (.cons (.pl rfl) (.nil)) rfl (fun w hw => clocks_Times_ok (hr3) w (SlIn.ofRow lenMark hw (i := 0) rfl)) ?_)
  rintro ⟨A4, c5⟩ -
  refine WL.q (Y.move (.pl rfl)) rfl ?_
  refine WL.q (Y.extract (.pl rfl) rfl) rfl ?_
  refine WL.q (Y.extract (.pl rfl) rfl) rfl ?_
  refine WL.q (Y.assign (.pl rfl)) rfl ?_
  refine WL.q (Y.assign (.pl rfl)) rfl ?_
  refine WL.next hQ2 (.cons (i := 1) rfl (.cons (i := 2) rfl (.nil))) ?_
  -- region 2: clocks.go:19
  refine W.seqR fun Q3 hQ3 => ?_
  obtain ⟨r6, hr6, hF⟩ := bnd hF
  refine WL.step (WO.callM isGo49 (.nil) rfl (fun w hw => alibkeep_posted_ok (hr6) w ) ?_)
  rintro A7 -
  obtain ⟨r8, hr8, hF⟩ := bnd hF
  refine WL.step (WO.callM isGo28 (.cons (.pl rfl) (.nil)) rfl (fun w hw => clocks_Knows_ok (hr8) w (SlIn.ofRow lenMark hw (i := 0) rfl)) ?_)
  rintro ⟨A9, c10, hd11⟩ -
  refine WL.q (Y.move (.pl rfl)) rfl ?_
  refine WL.q (Y.extract (.pl rfl) rfl) rfl ?_
  refine WL.q (Y.extract (.pl rfl) rfl) rfl ?_
  refine WL.q (Y.assign (.pl rfl)) rfl ?_
  refine WL.q (Y.assign (.pl rfl)) rfl ?_
  refine WL.next hQ3 (.cons (i := 1) rfl (.cons (i := 2) rfl (.cons (i := 3) rfl (.cons (i := 4) rfl (.nil))))) ?_
  -- region 3: clocks.go:20
  refine W.seqR fun Q4 hQ4 => ?_
  obtain ⟨r12, hr12, hF⟩ := bnd hF
  refine WL.step (WO.callM isGo49 (.nil) rfl (fun w hw => alibkeep_posted_ok (hr12) w ) ?_)
  rintro A13 -
  refine WL.step (WO.bsliceC (enc := (eI .i64)) (ys := ([1, 2, 0, 0, 0, 0, 0, 0] : List Int)) Try.underlying22 bz3 (.cons (.pl rfl) (.cons (.pl rfl) (.cons (.pl rfl) (.cons (.pl rfl) (.cons (.pl rfl) (.cons (.pl rfl) (.cons (.pl rfl) (.cons (.pl rfl) (.nil))))))))) rfl (fun _ => rfl) rfl rfl (by decide) (by decide) rfl fun b14 => ?_)
  obtain ⟨r15, hr15, hF⟩ := bnd hF
  refine WL.step (WO.callP isGo30 (.cons (.pl rfl) (.cons (.pl rfl) (.nil))) rfl (fun w hw => clocks_Cut_ok (hr15) w (SlIn.ofRow lenMark hw (i := 1) rfl) (SlIn.ofRow (fun _ => rfl) hw (i := 0) rfl)) ?_)
  refine WL.q (Y.move (.pl rfl)) rfl ?_
  refine WL.q (Y.extract (.pl rfl) rfl) rfl ?_
  refine WL.q (Y.extract (.pl rfl) rfl) rfl ?_
  refine WL.q (Y.assign (.pl rfl)) rfl ?_
  refine WL.q (Y.assign (.pl rfl)) rfl ?_
  refine WL.next hQ4 (.cons (i := 1) rfl (.cons (i := 2) rfl (.cons (i := 3) rfl (.cons (i := 4) rfl (.cons (i := 5) rfl (.cons (i := 6) rfl (.nil))))))) ?_
  obtain ⟨o5, hF5, hF⟩ := bnd hF
  refine W.join1 (Em := fun (v16 : Bool) => [(0, .bool v16)]) (M := fun v16 => []) (I := fun v16 => v16 = o5) (.nil) (fun K6 hK6 => ?_) ?_
  · -- up to
    -- region 4: clocks.go:21
    refine W.reg ?_
    refine WL.q (Y.move (.pl rfl)) rfl ?_
    refine WL.q (Y.move (.pl rfl)) rfl ?_
    refine WL.q (Y.move (.pl rfl)) rfl ?_
    refine WL.step (WO.bsliceC (enc := (eI .i64)) (ys := ([r3.2, r8.2, r15.2] : List Int)) Try.underlying92 bz25 (.cons (.pl rfl) (.cons (.pl rfl) (.cons (.pl rfl) (.nil)))) rfl (fun _ => rfl) rfl rfl (by decide) (by decide) rfl fun b17 => ?_)
    obtain ⟨r18, hr18, hF5⟩ := bnd hF5
    refine WL.step (WO.callP isGo25 (.cons (.pl rfl) (.nil)) rfl (fun w hw => alibkeep_ok_ok (hr18) w (SlIn.ofRow (fun _ => rfl) hw (i := 0) rfl)) ?_)
    refine WL.q (Y.move (.pl rfl)) rfl ?_
    refine WL.g (.pl rfl rfl rfl) (fun hg => Y.move (.pl rfl)) rfl ?_
    refine bsplit (r18 == true) (fun hg7 => ?_) (fun hg7 => ?_)
    · replace hF5 := cpos hg7 hF5
      refine WL.gd (.pl rfl rfl rfl) (hg7) ?_
      refine WL.step (WO.bsliceC (enc := (eI .i64)) (ys := ([1, 2, 1, 3, 3] : List Int)) Try.underlying22 bz3 (.cons (.pl rfl) (.cons (.pl rfl) (.cons (.pl rfl) (.cons (.pl rfl) (.cons (.pl rfl) (.nil)))))) rfl (fun _ => rfl) rfl rfl (by decide) (by decide) rfl fun b19 => ?_)
      refine WL.gd (.pl rfl rfl rfl) (hg7) ?_
      obtain ⟨r20, hr20, hF5⟩ := bnd hF5
      refine WL.step (WO.callP isGo50 (.cons (.gd (hg7) rfl) (.cons (.pl rfl) (.nil))) rfl (fun w hw => slices_Equal_int_int_ok (hr20) w (SlIn.ofRow (fun _ => rfl) hw (i := 6) rfl) (SlIn.ofRow (fun _ => rfl) hw (i := 0) rfl)) ?_)
      refine WL.q (Y.and (.pl rfl) (fun _ => .pl rfl)) rfl ?_
      refine WL.q (Y.move (.pl rfl)) rfl ?_
      refine WL.g (.pl rfl rfl rfl) (fun hg => Y.move (.pl rfl)) rfl ?_
      refine WL.g (.pl rfl rfl rfl) (fun hg => Y.len Try.underlying58 (.gd (hg) rfl)) rfl ?_
      refine WL.g (.pl rfl rfl rfl) (fun hg => Y.eql (.gd (hg) rfl) (.pl rfl)) rfl ?_
      refine WL.q (Y.and (.pl rfl) (fun h2 => .gd (eqt h2) rfl)) rfl ?_
      refine WL.q (Y.move (.pl rfl)) rfl ?_
      refine WL.g (.pl rfl rfl rfl) (fun hg => Y.move (.pl rfl)) rfl ?_
      obtain ⟨x21, hx21, hF5⟩ := bnd hF5
      refine WL.g (.pl rfl rfl rfl) (fun hg => Y.nEl Try.underlying58 cells22 (i := 4) rfl (.gd (hg) rfl) rfl (.pl rfl) (ix_lt (gpos hg hx21))) rfl ?_
      refine WL.g (.pl rfl rfl rfl) (fun hg => Y.loadN (enc := encSl) (h0 := ((none, 0) : Hd)) (v := .slice (hd11.getD (3 : Int).toNat ((none, 0) : Hd)).1 (x21).length (hd11.getD (3 : Int).toNat ((none, 0) : Hd)).2) (a := x21) (idx := 3) (j := 0) Try.underlying22 rfl lenSl (i := 4) rfl (.gd (hg) rfl) (ix_get (gpos hg hx21)) rfl rfl) rfl ?_
      refine bsplit (((r18 && r20) && (decide (((r8.1).length : Int) = 5))) == true) (fun hg8 => ?_) (fun hg8 => ?_)
      · replace hF5 := cpos hg8 hF5
        refine WL.gd (.pl rfl rfl rfl) (hg8) ?_
        refine WL.step (WO.bsliceC (enc := (eI .i64)) (ys := ([2, 2, 0, 0, 0, 0, 0, 0] : List Int)) Try.underlying22 bz3 (.cons (.pl rfl) (.cons (.pl rfl) (.cons (.pl rfl) (.cons (.pl rfl) (.cons (.pl rfl) (.cons (.pl rfl) (.cons (.pl rfl) (.cons (.pl rfl) (.nil))))))))) rfl (fun _ => rfl) rfl rfl (by decide) (by decide) rfl fun b22 => ?_)
        refine WL.gd (.pl rfl rfl rfl) (hg8) ?_
        obtain ⟨r23, hr23, hF5⟩ := bnd hF5
        refine WL.step (WO.callP isGo50 (.cons (.gd (hg8) rfl) (.cons (.pl rfl) (.nil))) rfl (fun w hw => slices_Equal_int_int_ok (hr23) w (SlIn.inN (enc2 := (eI .i64)) (sz2 := 1) (E2 := 3) (h0 := ((none, 0) : Hd)) (fun _ => rfl) hw (i := 5) rfl (gpos hg8 hx21) (.head _)) (SlIn.ofRow (fun _ => rfl) hw (i := 0) rfl)) ?_)
        refine WL.q (Y.and (.pl rfl) (fun _ => .pl rfl)) rfl ?_
        refine WL.q (Y.move (.pl rfl)) rfl ?_
        refine WL.g (.pl rfl rfl rfl) (fun hg => Y.move (.pl rfl)) rfl ?_
        refine WL.g (.pl rfl rfl rfl) (fun hg => Y.not (.gd (hg) rfl)) rfl ?_
        refine WL.q (Y.and (.pl rfl) (fun h2 => .gd (eqt h2) rfl)) rfl ?_
        refine WL.q (Y.assign (.pl rfl)) rfl ?_
        refine WL.nil ?_
        exact W.joinAt1 hK6 ((((r18 && r20) && (decide (((r8.1).length : Int) = 5))) && r23) && (!r15.1)) (Option.some.inj hF5) (.cons rfl (.nil)) (.nil) (fun w hw => hw.pick [] rfl)
      · replace hF5 := cneg hg8 hF5
        refine WL.gn (.pl rfl rfl rfl) hg8 rfl ?_
        refine WL.gn (.pl rfl rfl rfl) hg8 rfl ?_
        refine WL.q (Y.and (b := false) (.pl rfl) (fun h2 => (gabsA hg8 h2).elim)) rfl ?_
        refine WL.q (Y.move (.pl rfl)) rfl ?_
        refine WL.g (.pl rfl rfl rfl) (fun hg => Y.move (.pl rfl)) rfl ?_
        refine WL.g (.pl rfl rfl rfl) (fun hg => Y.not (.gd (hg) rfl)) rfl ?_
        refine WL.q (Y.and (.pl rfl) (fun h2 => .gd (eqt h2) rfl)) rfl ?_
        refine WL.q (Y.assign (.pl rfl)) rfl ?_
        refine WL.nil ?_
        exact W.joinAt1 hK6 ((((r18 && r20) && (decide (((r8.1).length : Int) = 5))) && false) && (!r15.1)) (Option.some.inj hF5) (.cons rfl (.nil)) (.nil) (fun w hw => hw.pick [] rfl)
    · replace hF5 := cneg hg7 hF5
      refine WL.gn (.pl rfl rfl rfl) hg7 rfl ?_
      refine WL.gn (.pl rfl rfl rfl) hg7 rfl ?_
      refine WL.q (Y.and (b := false) (.pl rfl) (fun h2 => (gabsA hg7 h2).elim)) rfl ?_
      refine WL.q (Y.move (.pl rfl)) rfl ?_
      refine WL.g (.pl rfl rfl rfl) (fun hg => Y.move (.pl rfl)) rfl ?_
      refine WL.g (.pl rfl rfl rfl) (fun hg => Y.len Try.underlying58 (.gd (hg) rfl)) rfl ?_
      refine WL.g (.pl rfl rfl rfl) (fun hg => Y.eql (.gd (hg) rfl) (.pl rfl)) rfl ?_
      refine WL.q (Y.and (.pl rfl) (fun h2 => .gd (eqt h2) rfl)) rfl ?_
      refine WL.q (Y.move (.pl rfl)) rfl ?_
      refine WL.g (.pl rfl rfl rfl) (fun hg => Y.move (.pl rfl)) rfl ?_
      obtain ⟨x24, hx24, hF5⟩ := bnd hF5
      refine WL.g (.pl rfl rfl rfl) (fun hg => Y.nEl Try.underlying58 cells22 (i := 3) rfl (.gd (hg) rfl) rfl (.pl rfl) (ix_lt (gpos hg hx24))) rfl ?_
      refine WL.g (.pl rfl rfl rfl) (fun hg => Y.loadN (enc := encSl) (h0 := ((none, 0) : Hd)) (v := .slice (hd11.getD (3 : Int).toNat ((none, 0) : Hd)).1 (x24).length (hd11.getD (3 : Int).toNat ((none, 0) : Hd)).2) (a := x24) (idx := 3) (j := 0) Try.underlying22 rfl lenSl (i := 3) rfl (.gd (hg) rfl) (ix_get (gpos hg hx24)) rfl rfl) rfl ?_
      refine bsplit (((r18 && false) && (decide (((r8.1).length : Int) = 5))) == true) (fun hg9 => ?_) (fun hg9 => ?_)
      · replace hF5 := cpos hg9 hF5
        refine WL.gd (.pl rfl rfl rfl) (hg9) ?_
        refine WL.step (WO.bsliceC (enc := (eI .i64)) (ys := ([2, 2, 0, 0, 0, 0, 0, 0] : List Int)) Try.underlying22 bz3 (.cons (.pl rfl) (.cons (.pl rfl) (.cons (.pl rfl) (.cons (.pl rfl) (.cons (.pl rfl) (.cons (.pl rfl) (.cons (.pl rfl) (.cons (.pl rfl) (.nil))))))))) rfl (fun _ => rfl) rfl rfl (by decide) (by decide) rfl fun b25 => ?_)
        refine WL.gd (.pl rfl rfl rfl) (hg9) ?_
        obtain ⟨r26, hr26, hF5⟩ := bnd hF5
        refine WL.step (WO.callP isGo50 (.cons (.gd (hg9) rfl) (.cons (.pl rfl) (.nil))) rfl (fun w hw => slices_Equal_int_int_ok (hr26) w (SlIn.inN (enc2 := (eI .i64)) (sz2 := 1) (E2 := 3) (h0 := ((none, 0) : Hd)) (fun _ => rfl) hw (i := 4) rfl (gpos hg9 hx24) (.head _)) (SlIn.ofRow (fun _ => rfl) hw (i := 0) rfl)) ?_)
        refine WL.q (Y.and (.pl rfl) (fun _ => .pl rfl)) rfl ?_
        refine WL.q (Y.move (.pl rfl)) rfl ?_
        refine WL.g (.pl rfl rfl rfl) (fun hg => Y.move (.pl rfl)) rfl ?_
        refine WL.g (.pl rfl rfl rfl) (fun hg => Y.not (.gd (hg) rfl)) rfl ?_
        refine WL.q (Y.and (.pl rfl) (fun h2 => .gd (eqt h2) rfl)) rfl ?_
        refine WL.q (Y.assign (.pl rfl)) rfl ?_
        refine WL.nil ?_
        exact W.joinAt1 hK6 ((((r18 && false) && (decide (((r8.1).length : Int) = 5))) && r26) && (!r15.1)) (Option.some.inj hF5) (.cons rfl (.nil)) (.nil) (fun w hw => hw.pick [] rfl)
      · replace hF5 := cneg hg9 hF5
        refine WL.gn (.pl rfl rfl rfl) hg9 rfl ?_
        refine WL.gn (.pl rfl rfl rfl) hg9 rfl ?_
        refine WL.q (Y.and (b := false) (.pl rfl) (fun h2 => (gabsA hg9 h2).elim)) rfl ?_
        refine WL.q (Y.move (.pl rfl)) rfl ?_
        refine WL.g (.pl rfl rfl rfl) (fun hg => Y.move (.pl rfl)) rfl ?_
        refine WL.g (.pl rfl rfl rfl) (fun hg => Y.not (.gd (hg) rfl)) rfl ?_
        refine WL.q (Y.and (.pl rfl) (fun h2 => .gd (eqt h2) rfl)) rfl ?_
        refine WL.q (Y.assign (.pl rfl)) rfl ?_
        refine WL.nil ?_
        exact W.joinAt1 hK6 ((((r18 && false) && (decide (((r8.1).length : Int) = 5))) && false) && (!r15.1)) (Option.some.inj hF5) (.cons rfl (.nil)) (.nil) (fun w hw => hw.pick [] rfl)
  · -- behind
    rintro v16 rfl
    obtain rfl := Option.some.inj hF
    refine W.retV (fn := Try.f29) (vs := [.bool v16]) Try.results29 ⟨.tmp rfl, trivial⟩ (fun _ _ h => h) (fun w hw => ?_)
    exact hR _ _ ⟨rfl, (hw.pick [] rfl)⟩

def alibkeep_ClocksKnown_L3 (N : Nat) (x25 : (List Int)) (ends7 : (List Int)) : Int → Option (Int ⊕ (Unit ⊕ Bool))
  | v26 =>
    cond (decide (v26 < ((x25).length : Int)))
      (bd (ix x25 v26) fun (x27 : Int) =>
      bd (ix ends7 v26) fun (x28 : Int) =>
      cond (decide (x28 < x27))
        (some (.inr (.inr false)))
        (ck (ok64 (v26 + 1)) <|
        some (.inl (v26 + 1))))
      (some (.inr (.inl ())))

def alibkeep_ClocksKnown (N : Nat) (l1 : (List Mark)) (j6 : Int) (ends7 : (List Int)) : Option Bool :=
  bd (clocks_Knows N l1) fun (r12 : ((List (List Int)) × Int)) =>
  bd (alibkeep_clocksLives N) fun (r16 : Bool) =>
  cond ((((!r16) || (!(decide (r12.2 = 0)))) || (decide (j6 < 0))) || (decide (((r12.1).length : Int) ≤ j6)))
    (bd (alibkeep_clocksLives N) fun (r17 : Bool) =>
    some r17)
    (bd (ix r12.1 j6) fun (x18 : (List Int)) =>
    bd (clocks_Cut N l1 x18) fun (r19 : (Bool × Int)) =>
    cond ((!(decide (r19.2 = 0))) || (!r19.1))
      (some false)
      (bd (clocks_Cut N l1 ends7) fun (r20 : (Bool × Int)) =>
      bd (ix l1 j6) fun (x21 : Mark) =>
      bd ((cond ((((!(decide (r20.2 = 0))) || (!r20.1)) || (decide (((ends7).length : Int) ≤ x21.who))) == false) (ix ends7 x21.who) (some 0))) fun (x22 : Int) =>
      bd ((cond ((((!(decide (r20.2 = 0))) || (!r20.1)) || (decide (((ends7).length : Int) ≤ x21.who))) == false) (ix r12.1 j6) (some []))) fun (x23 : (List Int)) =>
      bd ((cond ((((!(decide (r20.2 = 0))) || (!r20.1)) || (decide (((ends7).length : Int) ≤ x21.who))) == false) (ix x23 x21.who) (some 0))) fun (x24 : Int) =>
      cond ((((!(decide (r20.2 = 0))) || (!r20.1)) || (decide (((ends7).length : Int) ≤ x21.who))) || (decide (x22 < x24)))
        (some true)
        (bd (α := (Unit ⊕ Bool)) (bd (ix r12.1 j6) fun (x25 : (List Int)) =>
          iter (alibkeep_ClocksKnown_L3 N x25 ends7) N 0) <|
        Sum.elim (fun _ => 
          some true) (fun p => some p))))

theorem alibkeep_ClocksKnown_ok {N : Nat} {l1 : (List Mark)} {j6 : Int} {ends7 : (List Int)} {res : Bool} (hF : alibkeep_ClocksKnown N l1 j6 ends7 = some res) (w : World) {v5 : Value} (hs4 : SlIn encMark 3 w v5 l1) {v11 : Value} (hs10 : SlIn (eI .i64) 1 w v11 ends7) :
    Pure Try.prog 7 [v5, .int .i64 j6, v11] w (.bool res) := by
  obtain ⟨A2, c3, rfl, hcc3, hs4⟩ := hs4.form
  obtain ⟨A8, c9, rfl, hcc9, hs10⟩ := hs10.form
  refine W.enter (n := 107) Try.func7 rfl rfl Sub.refl (by simp) (St.start w) fun R hR => ?_
  unfold alibkeep_ClocksKnown at hF
  -- region 0: clocks.go:97
  refine W.seqR fun Q1 hQ1 => ?_
  refine WL.q (Y.assign (.pl rfl)) rfl ?_
  refine WL.next hQ1 (.cons (i := 0) rfl (.cons (i := 1) rfl (.cons (i := 2) rfl (.nil)))) ?_
  -- region 1: clocks.go:98
  refine W.seqR fun Q2 hQ2 => ?_
  refine WL.q (Y.move (.pl rfl)) rfl ?_
  obtain ⟨r12, hr12, hF⟩ := bnd hF
  refine WL.step (WO.callM isGo28 (.cons (.pl rfl) (.nil)) rfl (fun w hw => clocks_Knows_ok (hr12) w (hs4.mono hw)) ?_)
  rintro ⟨A13, c14, hd15⟩ -
  refine WL.q (Y.move (.pl rfl)) rfl ?_
  refine WL.q (Y.extract (.pl rfl) rfl) rfl ?_
  refine WL.q (Y.extract (.pl rfl) rfl) rfl ?_
  refine WL.q (Y.assign (.pl rfl)) rfl ?_
  refine WL.q (Y.assign (.pl rfl)) rfl ?_
  refine WL.next hQ2 (.cons (i := 0) rfl (.cons (i := 1) rfl (.cons (i := 2) rfl (.cons (i := 7) rfl (.cons (i := 8) rfl (.nil)))))) ?_
  refine W.seq fun K3 hK3 => ?_
  -- region 2: clocks.go:99
  refine W.seqR fun Q4 hQ4 => ?_
  obtain ⟨r16, hr16, hF⟩ := bnd hF
  refine WL.step (WO.callP isGo29 (.nil) rfl (fun w hw => alibkeep_clocksLives_ok (hr16) w ) ?_)
  refine WL.q (Y.not (.pl rfl)) rfl ?_
  refine WL.q (Y.move (.pl rfl)) rfl ?_
  refine WL.g (.pl rfl rfl rfl) (fun hg => Y.move (.pl rfl)) rfl ?_
  refine WL.g (.pl rfl rfl rfl) (fun hg => Y.neq (.gd (hg) rfl) (.pl rfl)) rfl ?_
  refine WL.q (Y.or (.pl rfl) (fun h2 => .gd (eqf h2) rfl)) rfl ?_
  refine WL.q (Y.move (.pl rfl)) rfl ?_
  refine WL.g (.pl rfl rfl rfl) (fun hg => Y.move (.pl rfl)) rfl ?_
  refine WL.g (.pl rfl rfl rfl) (fun hg => Y.lss (.gd (hg) rfl) (.pl rfl)) rfl ?_
  refine WL.q (Y.or (.pl rfl) (fun h2 => .gd (eqf h2) rfl)) rfl ?_
  refine WL.q (Y.move (.pl rfl)) rfl ?_
  refine WL.g (.pl rfl rfl rfl) (fun hg => Y.move (.pl rfl)) rfl ?_
  refine WL.g (.pl rfl rfl rfl) (fun hg => Y.move (.pl rfl)) rfl ?_
  refine WL.g (.pl rfl rfl rfl) (fun hg => Y.len Try.underlying58 (.gd (hg) rfl)) rfl ?_
  refine WL.g (.pl rfl rfl rfl) (fun hg => Y.geq (.gd (hg) rfl) (.gd (hg) rfl)) rfl ?_
  refine WL.q (Y.or (.pl rfl) (fun h2 => .gd (eqf h2) rfl)) rfl ?_
  refine WL.next hQ4 (.cons (i := 0) rfl (.cons (i := 1) rfl (.cons (i := 2) rfl (.cons (i := 7) rfl (.cons (i := 36) rfl (.nil)))))) ?_
  refine W.cond (.pl rfl) (fun hC5 => ?_) (fun hC5 => ?_)
  · replace hF := cpos hC5 hF
    -- region 3: clocks.go:100
    refine W.seqR fun Q6 hQ6 => ?_
    obtain ⟨r17, hr17, hF⟩ := bnd hF
    refine WL.step (WO.callP isGo29 (.nil) rfl (fun w hw => alibkeep_clocksLives_ok (hr17) w ) ?_)
    refine WL.q (Y.assign (.pl rfl)) rfl ?_
    refine WL.next hQ6 (.cons (i := 6) rfl (.nil)) ?_
    obtain rfl := Option.some.inj hF
    refine W.retV (fn := Try.f7) (vs := [.bool r17]) Try.results7 ⟨.tmp rfl, trivial⟩ (fun _ _ h => h) (fun w hw => ?_)
    exact hR _ _ ⟨rfl, (hw.pick [] rfl)⟩
  · replace hF := cneg hC5 hF
    refine W.skip ?_
    refine W.go hK3 (.cons (i := 0) rfl (.cons (i := 1) rfl (.cons (i := 2) rfl (.cons (i := 7) rfl (.nil))))) ?_
    -- region 4: clocks.go:102
    refine W.seqR fun Q7 hQ7 => ?_
    refine WL.q (Y.move (.pl rfl)) rfl ?_
    refine WL.q (Y.move (.pl rfl)) rfl ?_
    refine WL.q (Y.move (.pl rfl)) rfl ?_
    obtain ⟨x18, hx18, hF⟩ := bnd hF
    refine WL.q (Y.nEl Try.underlying58 cells22 (i := 0) rfl (.pl rfl) rfl (.pl rfl) (ix_lt (hx18))) rfl ?_
    refine WL.q (Y.loadN (enc := encSl) (h0 := ((none, 0) : Hd)) (v := .slice (hd15.getD j6.toNat ((none, 0) : Hd)).1 (x18).length (hd15.getD j6.toNat ((none, 0) : Hd)).2) (a := x18) (idx := j6) (j := 0) Try.underlying22 rfl lenSl (i := 0) rfl (.pl rfl) (ix_get (hx18)) rfl rfl) rfl ?_
    obtain ⟨r19, hr19, hF⟩ := bnd hF
    refine WL.step (WO.callP isGo30 (.cons (.pl rfl) (.cons (.pl rfl) (.nil))) rfl (fun w hw => clocks_Cut_ok (hr19) w (hs4.mono hw) (SlIn.inN (enc2 := (eI .i64)) (sz2 := 1) (E2 := 3) (h0 := ((none, 0) : Hd)) (fun _ => rfl) hw (i := 0) rfl (hx18) (.head _))) ?_)
    refine WL.q (Y.move (.pl rfl)) rfl ?_
    refine WL.q (Y.extract (.pl rfl) rfl) rfl ?_
    refine WL.q (Y.extract (.pl rfl) rfl) rfl ?_
    refine WL.q (Y.assign (.pl rfl)) rfl ?_
    refine WL.q (Y.assign (.pl rfl)) rfl ?_
    refine WL.next hQ7 (.cons (i := 0) rfl (.cons (i := 1) rfl (.cons (i := 2) rfl (.cons (i := 7) rfl (.cons (i := 9) rfl (.cons (i := 10) rfl (.nil))))))) ?_
    refine W.seq fun K8 hK8 => ?_
    -- region 5: clocks.go:103
    refine W.seqR fun Q9 hQ9 => ?_
    refine WL.q (Y.move (.pl rfl)) rfl ?_
    refine WL.q (Y.neq (.pl rfl) (.pl rfl)) rfl ?_
    refine WL.q (Y.move (.pl rfl)) rfl ?_
    refine WL.g (.pl rfl rfl rfl) (fun hg => Y.move (.pl rfl)) rfl ?_
    refine WL.g (.pl rfl rfl rfl) (fun hg => Y.not (.gd (hg) rfl)) rfl ?_
    refine WL.q (Y.or (.pl rfl) (fun h2 => .gd (eqf h2) rfl)) rfl ?_
    refine WL.next hQ9 (.cons (i := 0) rfl (.cons (i := 1) rfl (.cons (i := 2) rfl (.cons (i := 7) rfl (.cons (i := 52) rfl (.nil)))))) ?_
    refine W.cond (.pl rfl) (fun hC10 => ?_) (fun hC10 => ?_)
    · replace hF := cpos hC10 hF
      -- region 6: clocks.go:104
      refine W.seqR fun Q11 hQ11 => ?_
      refine WL.q (Y.assign (.pl rfl)) rfl ?_
      refine WL.next hQ11 (.cons (i := 6) rfl (.nil)) ?_
      obtain rfl := Option.some.inj hF
      refine W.retV (fn := Try.f7) (vs := [.bool false]) Try.results7 ⟨.tmp rfl, trivial⟩ (fun _ _ h => h) (fun w hw => ?_)
      exact hR _ _ ⟨rfl, (hw.pick [] rfl)⟩
    · replace hF := cneg hC10 hF
      refine W.skip ?_
      refine W.go hK8 (.cons (i := 0) rfl (.cons (i := 1) rfl (.cons (i := 2) rfl (.cons (i := 7) rfl (.nil))))) ?_
      -- region 7: clocks.go:106
      refine W.seqR fun Q12 hQ12 => ?_
      refine WL.q (Y.move (.pl rfl)) rfl ?_
      refine WL.q (Y.move (.pl rfl)) rfl ?_
      obtain ⟨r20, hr20, hF⟩ := bnd hF
      refine WL.step (WO.callP isGo30 (.cons (.pl rfl) (.cons (.pl rfl) (.nil))) rfl (fun w hw => clocks_Cut_ok (hr20) w (hs4.mono hw) (hs10.mono hw)) ?_)
      refine WL.q (Y.move (.pl rfl)) rfl ?_
      refine WL.q (Y.extract (.pl rfl) rfl) rfl ?_
      refine WL.q (Y.extract (.pl rfl) rfl) rfl ?_
      refine WL.q (Y.assign (.pl rfl)) rfl ?_
      refine WL.q (Y.assign (.pl rfl)) rfl ?_
      refine WL.next hQ12 (.cons (i := 0) rfl (.cons (i := 1) rfl (.cons (i := 2) rfl (.cons (i := 7) rfl (.cons (i := 11) rfl (.cons (i := 12) rfl (.nil))))))) ?_
      -- region 8: clocks.go:107
      refine W.seqR fun Q13 hQ13 => ?_
      refine WL.q (Y.move (.pl rfl)) rfl ?_
      refine WL.q (Y.move (.pl rfl)) rfl ?_
      obtain ⟨x21, hx21, hF⟩ := bnd hF
      refine WL.q (Y.slEl Try.underlying57 cells64 hs4 (.pl rfl) (.pl rfl) (ix_lt (hx21))) rfl ?_
      refine WL.q (Y.slField (off := 0) (ft := 3) Try.underlying64 rfl cells3 (hs4) (ix_lt (hx21)) (.pl rfl)) rfl ?_
      refine WL.q (Y.loadS (enc := encMark) (v := .int .i64 x21.who) (j := 0) Try.underlying3 rfl hs4 (.pl rfl) (hx21) rfl rfl) rfl ?_
      refine WL.q (Y.assign (.pl rfl)) rfl ?_
      refine WL.next hQ13 (.cons (i := 1) rfl (.cons (i := 2) rfl (.cons (i := 7) rfl (.cons (i := 11) rfl (.cons (i := 12) rfl (.cons (i := 13) rfl (.nil))))))) ?_
      refine W.seq fun K14 hK14 => ?_
      -- region 9: clocks.go:108
      refine W.seqD (by kernel_rfl) (by kernel_rfl) fun R15 hR15 => ?_
      refine WD.q (Y.move (.pl rfl)) rfl ?_
      refine WD.q (Y.neq (.pl rfl) (.pl rfl)) rfl ?_
      refine WD.q (Y.move (.pl rfl)) rfl ?_
      refine WD.g (.pl rfl rfl rfl) (fun hg => Y.move (.pl rfl)) rfl ?_
      refine WD.g (.pl rfl rfl rfl) (fun hg => Y.not (.gd (hg) rfl)) rfl ?_
      refine WD.q (Y.or (.pl rfl) (fun h2 => .gd (eqf h2) rfl)) rfl ?_
      refine WD.q (Y.move (.pl rfl)) rfl ?_
      refine WD.g (.pl rfl rfl rfl) (fun hg => Y.move (.pl rfl)) rfl ?_
      refine WD.g (.pl rfl rfl rfl) (fun hg => Y.len Try.underlying22 (.gd (hg) rfl)) rfl ?_
      refine WD.g (.pl rfl rfl rfl) (fun hg => Y.move (.pl rfl)) rfl ?_
      refine WD.g (.pl rfl rfl rfl) (fun hg => Y.leq (.gd (hg) rfl) (.gd (hg) rfl)) rfl ?_
      refine WD.q (Y.or (.pl rfl) (fun h2 => .gd (eqf h2) rfl)) rfl ?_
      refine WD.q (Y.move (.pl rfl)) rfl ?_
      refine WD.g (.pl rfl rfl rfl) (fun hg => Y.move (.pl rfl)) rfl ?_
      refine WD.g (.pl rfl rfl rfl) (fun hg => Y.move (.pl rfl)) rfl ?_
      obtain ⟨x22, hx22, hF⟩ := bnd hF
      refine WD.g (.pl rfl rfl rfl) (fun hg => Y.slEl Try.underlying22 cells3 hs10 (.gd (hg) rfl) (.gd (hg) rfl) (ix_lt (gpos hg hx22))) rfl ?_
      refine WD.g (.pl rfl rfl rfl) (fun hg => Y.loadS (enc := (eI .i64)) (v := .int .i64 x22) (j := 0) Try.underlying3 rfl hs10 (.gd (hg) rfl) (gpos hg hx22) rfl rfl) rfl ?_
      refine WD.g (.pl rfl rfl rfl) (fun hg => Y.move (.pl rfl)) rfl ?_
      refine WD.g (.pl rfl rfl rfl) (fun hg => Y.move (.pl rfl)) rfl ?_
      obtain ⟨x23, hx23, hF⟩ := bnd hF
      refine WD.g (.pl rfl rfl rfl) (fun hg => Y.nEl Try.underlying58 cells22 (i := 0) rfl (.gd (hg) rfl) rfl (.gd (hg) rfl) (ix_lt (gpos hg hx23))) rfl ?_
      refine WD.g (.pl rfl rfl rfl) (fun hg => Y.loadN (enc := encSl) (h0 := ((none, 0) : Hd)) (v := .slice (hd15.getD j6.toNat ((none, 0) : Hd)).1 (x23).length (hd15.getD j6.toNat ((none, 0) : Hd)).2) (a := x23) (idx := j6) (j := 0) Try.underlying22 rfl lenSl (i := 0) rfl (.gd (hg) rfl) (ix_get (gpos hg hx23)) rfl rfl) rfl ?_
      refine WD.g (.pl rfl rfl rfl) (fun hg => Y.move (.pl rfl)) rfl ?_
      obtain ⟨x24, hx24, hF⟩ := bnd hF
      refine WD.g (.pl rfl rfl rfl) (fun hg => Y.wEl (enc := (eI .i64)) (sz := 1) Try.underlying22 cells3 (fun w hw => (SlIn.inN (enc2 := (eI .i64)) (sz2 := 1) (E2 := 3) (h0 := ((none, 0) : Hd)) (fun _ => rfl) hw (i := 0) rfl (gpos hg hx23) (.head _))) (.gd (hg) rfl) (.gd (hg) rfl) (ix_lt (gpos hg hx24))) rfl ?_
      refine WD.g (.pl rfl rfl rfl) (fun hg => Y.loadW (enc := (eI .i64)) (v := .int .i64 x24) (j := 0) Try.underlying3 rfl (fun w hw => (SlIn.inN (enc2 := (eI .i64)) (sz2 := 1) (E2 := 3) (h0 := ((none, 0) : Hd)) (fun _ => rfl) hw (i := 0) rfl (gpos hg hx23) (.head _))) (.gd (hg) rfl) (gpos hg hx24) rfl rfl) rfl ?_
      refine WD.g (.pl rfl rfl rfl) (fun hg => Y.lss (.gd (hg) rfl) (.gd (hg) rfl)) rfl ?_
      refine WD.q (Y.or (.pl rfl) (fun h2 => .gd (eqf h2) rfl)) rfl ?_
      refine WD.next hR15 (.cons (i := 1) rfl (.cons (i := 2) rfl (.cons (i := 7) rfl (.cons (i := 89) rfl (.nil))))) ?_
      refine W.cond (.pl rfl) (fun hC16 => ?_) (fun hC16 => ?_)
      · replace hF := cpos hC16 hF
        -- region 10: clocks.go:109
        refine W.seqR fun Q17 hQ17 => ?_
        refine WL.q (Y.assign (.pl rfl)) rfl ?_
        refine WL.next hQ17 (.cons (i := 6) rfl (.nil)) ?_
        obtain rfl := Option.some.inj hF
        refine W.retV (fn := Try.f7) (vs := [.bool true]) Try.results7 ⟨.tmp rfl, trivial⟩ (fun _ _ h => h) (fun w hw => ?_)
        exact hR _ _ ⟨rfl, (hw.pick [] rfl)⟩
      · replace hF := cneg hC16 hF
        refine W.skip ?_
        refine W.go hK14 (.cons (i := 1) rfl (.cons (i := 2) rfl (.cons (i := 7) rfl (.nil)))) ?_
        obtain ⟨o18, hF18, hF⟩ := bnd hF
        refine W.join0 (Em := []) (M := []) (I := (.inl ()) = o18) (.nil) (fun K19 hK19 => ?_) ?_
        · -- up to
          -- region 11: clocks.go:111
          refine W.seqR fun Q20 hQ20 => ?_
          refine WL.q (Y.move (.pl rfl)) rfl ?_
          refine WL.q (Y.move (.pl rfl)) rfl ?_
          obtain ⟨x25, hx25, hF18⟩ := bnd hF18
          refine WL.q (Y.nEl Try.underlying58 cells22 (i := 0) rfl (.pl rfl) rfl (.pl rfl) (ix_lt (hx25))) rfl ?_
          refine WL.q (Y.loadN (enc := encSl) (h0 := ((none, 0) : Hd)) (v := .slice (hd15.getD j6.toNat ((none, 0) : Hd)).1 (x25).length (hd15.getD j6.toNat ((none, 0) : Hd)).2) (a := x25) (idx := j6) (j := 0) Try.underlying22 rfl lenSl (i := 0) rfl (.pl rfl) (ix_get (hx25)) rfl rfl) rfl ?_
          refine WL.q (Y.len Try.underlying22 (.pl rfl)) rfl ?_
          refine WL.q (Y.move (.pl rfl)) rfl ?_
          refine WL.next hQ20 (.cons (i := 2) rfl (.cons (i := 93) rfl (.cons (i := 94) rfl (.cons (i := 95) rfl (.nil))))) ?_
          refine W.block ?_
          refine W.loop1 (Em := fun (v26 : Int) => [(95, .int .i64 v26)]) (M := fun v26 => [cN encSl (innSl (eI .i64) 1 3) 1 A13 c14 22 hd15 r12.1]) (I := fun v26 k21 => iter (alibkeep_ClocksKnown_L3 N x25 ends7) k21 v26 = some o18) 0 N (hF18) (.cons rfl (.nil)) (.cons (i := 2) rfl (.cons (i := 93) rfl (.cons (i := 94) rfl (.nil)))) (fun w hw => hw.pick [0] rfl) (fun v26 k21 hI K22 hK22 => ?_)
          obtain ⟨k21, t21, rfl, hF21, hN21⟩ := iter_step hI
          -- region 12: clocks.go:111
          refine W.seqR fun Q23 hQ23 => ?_
          refine WL.q (Y.lss (.pl rfl) (.pl rfl)) rfl ?_
          refine WL.next hQ23 (.cons (i := 2) rfl (.cons (i := 93) rfl (.cons (i := 94) rfl (.cons (i := 95) rfl (.cons (i := 96) rfl (.nil)))))) ?_
          refine W.seq fun K24 hK24 => ?_
          refine W.cond (.pl rfl) (fun hC25 => ?_) (fun hC25 => ?_)
          · replace hF21 := cpos hC25 hF21
            refine W.skip ?_
            refine W.go hK24 (.cons (i := 2) rfl (.cons (i := 93) rfl (.cons (i := 94) rfl (.cons (i := 95) rfl (.nil))))) ?_
            refine W.seq fun K26 hK26 => ?_
            refine W.block ?_
            -- region 13: clocks.go:111
            refine W.seqR fun Q27 hQ27 => ?_
            refine WL.q (Y.move (.pl rfl)) rfl ?_
            obtain ⟨x27, hx27, hF21⟩ := bnd hF21
            refine WL.q (Y.wEl (enc := (eI .i64)) (sz := 1) Try.underlying22 cells3 (fun w hw => (SlIn.inN (enc2 := (eI .i64)) (sz2 := 1) (E2 := 3) (h0 := ((none, 0) : Hd)) (fun _ => rfl) hw (i := 0) rfl (hx25) (.head _))) (.pl rfl) (.pl rfl) (ix_lt (hx27))) rfl ?_
            refine WL.q (Y.loadW (enc := (eI .i64)) (v := .int .i64 x27) (j := 0) Try.underlying3 rfl (fun w hw => (SlIn.inN (enc2 := (eI .i64)) (sz2 := 1) (E2 := 3) (h0 := ((none, 0) : Hd)) (fun _ => rfl) hw (i := 0) rfl (hx25) (.head _))) (.pl rfl) (hx27) rfl rfl) rfl ?_
            refine WL.q (Y.assign (.pl rfl)) rfl ?_
            refine WL.q (Y.assign (.pl rfl)) rfl ?_
            refine WL.next hQ27 (.cons (i := 2) rfl (.cons (i := 14) rfl (.cons (i := 15) rfl (.cons (i := 93) rfl (.cons (i := 94) rfl (.cons (i := 95) rfl (.nil))))))) ?_
            -- region 14: clocks.go:112
            refine W.seqR fun Q28 hQ28 => ?_
            refine WL.q (Y.move (.pl rfl)) rfl ?_
            refine WL.q (Y.move (.pl rfl)) rfl ?_
            obtain ⟨x28, hx28, hF21⟩ := bnd hF21
            refine WL.q (Y.slEl Try.underlying22 cells3 hs10 (.pl rfl) (.pl rfl) (ix_lt (hx28))) rfl ?_
            refine WL.q (Y.loadS (enc := (eI .i64)) (v := .int .i64 x28) (j := 0) Try.underlying3 rfl hs10 (.pl rfl) (hx28) rfl rfl) rfl ?_
            refine WL.q (Y.move (.pl rfl)) rfl ?_
            refine WL.q (Y.lss (.pl rfl) (.pl rfl)) rfl ?_
            refine WL.next hQ28 (.cons (i := 2) rfl (.cons (i := 93) rfl (.cons (i := 94) rfl (.cons (i := 95) rfl (.cons (i := 105) rfl (.nil)))))) ?_
            refine W.cond (.pl rfl) (fun hC29 => ?_) (fun hC29 => ?_)
            · replace hF21 := cpos hC29 hF21
              -- region 15: clocks.go:113
              refine W.seqR fun Q30 hQ30 => ?_
              refine WL.q (Y.assign (.pl rfl)) rfl ?_
              refine WL.next hQ30 (.cons (i := 6) rfl (.nil)) ?_
              obtain rfl := Option.some.inj hF21
              obtain rfl := einr hN21
              obtain rfl := Option.some.inj hF
              refine W.retV (fn := Try.f7) (vs := [.bool false]) Try.results7 ⟨.tmp rfl, trivial⟩ (fun _ _ h => h) (fun w hw => ?_)
              exact hR _ _ ⟨rfl, (hw.pick [] rfl)⟩
            · replace hF21 := cneg hC29 hF21
              refine W.skip ?_
              refine W.go hK26 (.cons (i := 2) rfl (.cons (i := 93) rfl (.cons (i := 94) rfl (.cons (i := 95) rfl (.nil))))) ?_
              -- region 16: clocks.go:111
              refine W.reg ?_
              obtain ⟨hk29, hF21⟩ := ckh hF21
              refine WL.q (Y.add (.pl rfl) (.pl rfl) (ok64_lt (hk29))) rfl ?_
              refine WL.q (Y.move (.pl rfl)) rfl ?_
              refine WL.nil ?_
              obtain rfl := Option.some.inj hF21
              exact W.again1 hK22 (v26 + 1) k21 hN21 (Nat.lt_succ_self _) (.cons rfl (.nil)) (.cons (i := 2) rfl (.cons (i := 93) rfl (.cons (i := 94) rfl (.nil)))) (fun w hw => hw.pick [0] rfl)
          · replace hF21 := cneg hC25 hF21
            refine W.exit ?_
            obtain rfl := Option.some.inj hF21
            exact W.joinAt0 hK19  (einr hN21) (.nil) (.nil) (fun w hw => hw.pick [] rfl)
        · -- behind
          rintro  rfl
          -- region 17: clocks.go:116
          refine W.seqR fun Q32 hQ32 => ?_
          refine WL.q (Y.assign (.pl rfl)) rfl ?_
          refine WL.next hQ32 (.cons (i := 6) rfl (.nil)) ?_
          obtain rfl := Option.some.inj hF
          refine W.retV (fn := Try.f7) (vs := [.bool true]) Try.results7 ⟨.tmp rfl, trivial⟩ (fun _ _ h => h) (fun w hw => ?_)
          exact hR _ _ ⟨rfl, (hw.pick [] rfl)⟩

/-- slices.Clone -/
theorem slices_Clone_int_int_ok {xs : List Int} (hb : limB 8 xs.length = true) (w : World) {v : Value} (h : SlIn (eI .i64) 1 w v xs) :
    Made Try.prog 31 [v] w (fun g : Option Addr × Nat => .slice g.1 xs.length g.2) (fun g => [cR (eI .i64) 1 g.1 g.2 3 xs]) (fun _ => True) := by
  obtain ⟨A1, c1, rfl, hc1, hs⟩ := h.form
  refine W.enter (n := 8) Try.func31 rfl rfl Sub.refl (by simp) (St.start w) fun R hR => ?_
  refine W.seqR fun Q1 hQ1 => ?_
  refine WL.q (Y.assign (.pl rfl)) rfl ?_
  refine WL.next hQ1 (.cons (i := 0) rfl (.nil)) ?_
  refine W.seq fun K2 hK2 => ?_
  refine W.seqR fun Q3 hQ3 => ?_
  refine WL.q (Y.move (.pl rfl)) rfl ?_
  refine WL.q (Y.eqNil Try.underlying22 (.pl rfl)) rfl ?_
  refine WL.next hQ3 (.cons (i := 0) rfl (.cons (i := 4) rfl (.nil))) ?_
  refine W.cond (.pl rfl) (fun hC => ?_) (fun hC => ?_)
  · refine W.seqR fun Q4 hQ4 => ?_
    refine WL.q (Y.assign (.pl rfl)) rfl ?_
    refine WL.next hQ4 (.cons (i := 2) rfl (.nil)) ?_
    have hx : xs = [] := by
      cases xs with
      | nil => rfl
      | cons a r =>
        have := (hs.okA' (idx := 0) ⟨Int.le_refl _, by simp⟩).1
        rw [Option.isNone_iff_eq_none] at hC
        rw [hC] at this; cases this
    subst hx
    refine W.retV (fn := Try.f31) (vs := [.slice none 0 0]) Try.results31 ⟨.tmp rfl, trivial⟩ (fun _ _ h => h) (fun w hw => ?_)
    exact hR _ _ ⟨(none, 0), trivial, rfl, St.nilR hw (eI .i64) 1 3⟩
  · refine W.skip ?_
    refine W.go hK2 (.cons (i := 0) rfl (.nil)) ?_
    obtain ⟨a1, rfl⟩ : ∃ a, A1 = some a := by cases A1 with
      | none => cases hC
      | some a => exact ⟨a, rfl⟩
    refine W.seqR fun Q5 hQ5 => ?_
    refine WL.step (WO.bsliceC (enc := (eI .i64)) (ys := []) Try.underlying22 bz3 (.nil) rfl (fun _ => rfl) rfl rfl (by decide) (by decide) rfl fun b => ?_)
    refine WL.q (Y.move (.pl rfl)) rfl ?_
    refine WL.step (WO.appendS (enc := (eI .i64)) (ys := xs) (xs := []) Try.underlying22 ap3 (fun _ => rfl) oneI (.pl rfl) rfl (.pl rfl) (i := 0) rfl (fun w hw => hs.mono hw) (by simpa using hb) rfl fun A c => ?_)
    refine WL.q (Y.assign (.pl rfl)) rfl ?_
    refine WL.next hQ5 (.cons (i := 2) rfl (.nil)) ?_
    refine W.retV (fn := Try.f31) (vs := [.slice A xs.length c]) Try.results31 ⟨.tmp rfl, trivial⟩ (fun _ _ h => h) (fun w hw => ?_)
    exact hR _ _ ⟨(A, c), trivial, rfl, hw⟩

def alibkeep_ClocksLattice_L3 (N : Nat) (a6 : (List Int)) (b11 : (List Int)) : ((List Int) × (List Int) × Int) → Option (((List Int) × (List Int) × Int) ⊕ ((List Int) × (List Int)))
  | (low31, high32, v33) =>
    cond (decide (v33 < ((a6).length : Int)))
      (bd (ix a6 v33) fun (x34 : Int) =>
      bd (ix b11 v33) fun (x35 : Int) =>
      bd (ix a6 v33) fun (x36 : Int) =>
      bd (ix b11 v33) fun (x37 : Int) =>
      bd (ix low31 v33) fun (x38 : Int) =>
      bd (ix high32 v33) fun (x39 : Int) =>
      ck (ok64 (v33 + 1)) <|
      some (.inl ((low31.set v33.toNat (min x34 x35)), (high32.set v33.toNat (max x36 x37)), (v33 + 1))))
      (some (.inr (low31, high32)))

def alibkeep_ClocksLattice (N : Nat) (l1 : (List Mark)) (a6 : (List Int)) (b11 : (List Int)) : Option Bool :=
  bd (clocks_Cut N l1 a6) fun (r16 : (Bool × Int)) =>
  bd (clocks_Cut N l1 b11) fun (r17 : (Bool × Int)) =>
  bd (α := Bool) (bd (alibkeep_clocksLives N) fun (r19 : Bool) =>
    cond ((!r19) == false)
      (bd (alibkeep_ok N ([r16.2, r17.2] : List Int)) fun (r21 : Bool) =>
      some (((((!r19) || (!r21)) || (!r16.1)) || (!r17.1)) || (!(decide (((a6).length : Int) = ((b11).length : Int))))))
      (some (((((!r19) || false) || (!r16.1)) || (!r17.1)) || (!(decide (((a6).length : Int) = ((b11).length : Int))))))) <|
  fun (v18 : Bool) => 
    cond v18
      (bd (alibkeep_clocksLives N) fun (r22 : Bool) =>
      some r22)
      (ck (limB 8 (a6).length) <|
      ck (limB 8 (a6).length) <|
      bd (α := ((List Int) × (List Int))) (iter (alibkeep_ClocksLattice_L3 N a6 b11) N (a6, a6, 0)) <|
      fun (low29, high30) => 
        bd (clocks_Cut N l1 low29) fun (r41 : (Bool × Int)) =>
        bd (clocks_Cut N l1 high30) fun (r42 : (Bool × Int)) =>
        bd (alibkeep_ok N ([r41.2, r42.2] : List Int)) fun (r44 : Bool) =>
        some ((r44 && r41.1) && r42.1))

theorem alibkeep_ClocksLattice_ok {N : Nat} {l1 : (List Mark)} {a6 : (List Int)} {b11 : (List Int)} {res : Bool} (hF : alibkeep_ClocksLattice N l1 a6 b11 = some res) (w : World) {v5 : Value} (hs4 : SlIn encMark 3 w v5 l1) {v10 : Value} (hs9 : SlIn (eI .i64) 1 w v10 a6) {v15 : Value} (hs14 : SlIn (eI .i64) 1 w v15 b11) :
    Pure Try.prog 8 [v5, v10, v15] w (.bool res) := by
  obtain ⟨A2, c3, rfl, hcc3, hs4⟩ := hs4.form
  obtain ⟨A7, c8, rfl, hcc8, hs9⟩ := hs9.form
  obtain ⟨A12, c13, rfl, hcc13, hs14⟩ := hs14.form
  refine W.enter (n := 111) Try.func8 rfl rfl Sub.refl (by simp) (St.start w) fun R hR => ?_
  unfold alibkeep_ClocksLattice at hF
  -- region 0: clocks.go:81
  refine W.seqR fun Q1 hQ1 => ?_
  refine WL.q (Y.assign (.pl rfl)) rfl ?_
  refine WL.next hQ1 (.cons (i := 0) rfl (.cons (i := 1) rfl (.cons (i := 2) rfl (.nil)))) ?_
  -- region 1: clocks.go:82
  refine W.seqR fun Q2 hQ2 => ?_
  refine WL.q (Y.move (.pl rfl)) rfl ?_
  refine WL.q (Y.move (.pl rfl)) rfl ?_
  obtain ⟨r16, hr16, hF⟩ := bnd hF
  refine WL.step (WO.callP isGo30 (.cons (.pl rfl) (.cons (.pl rfl) (.nil))) rfl (fun w hw => clocks_Cut_ok (hr16) w (hs4.mono hw) (hs9.mono hw)) ?_)
  refine WL.q (Y.move (.pl rfl)) rfl ?_
  refine WL.q (Y.extract (.pl rfl) rfl) rfl ?_
  refine WL.q (Y.extract (.pl rfl) rfl) rfl ?_
  refine WL.q (Y.assign (.pl rfl)) rfl ?_
  refine WL.q (Y.assign (.pl rfl)) rfl ?_
  refine WL.next hQ2 (.cons (i := 0) rfl (.cons (i := 1) rfl (.cons (i := 2) rfl (.cons (i := 7) rfl (.cons (i := 8) rfl (.nil)))))) ?_
  -- region 2: clocks.go:83
  refine W.seqR fun Q3 hQ3 => ?_
  refine WL.q (Y.move (.pl rfl)) rfl ?_
  refine WL.q (Y.move (.pl rfl)) rfl ?_
  obtain ⟨r17, hr17, hF⟩ := bnd hF
  refine WL.step (WO.callP isGo30 (.cons (.pl rfl) (.cons (.pl rfl) (.nil))) rfl (fun w hw => clocks_Cut_ok (hr17) w (hs4.mono hw) (hs14.mono hw)) ?_)
  refine WL.q (Y.move (.pl rfl)) rfl ?_
  refine WL.q (Y.extract (.pl rfl) rfl) rfl ?_
  refine WL.q (Y.extract (.pl rfl) rfl) rfl ?_
  refine WL.q (Y.assign (.pl rfl)) rfl ?_
  refine WL.q (Y.assign (.pl rfl)) rfl ?_
  refine WL.next hQ3 (.cons (i := 0) rfl (.cons (i := 1) rfl (.cons (i := 2) rfl (.cons (i := 7) rfl (.cons (i := 8) rfl (.cons (i := 9) rfl (.cons (i := 10) rfl (.nil)))))))) ?_
  refine W.seq fun K4 hK4 => ?_
  obtain ⟨o5, hF5, hF⟩ := bnd hF
  refine W.join1 (Em := fun (v18 : Bool) => [(53, .bool v18)]) (M := fun v18 => []) (I := fun v18 => v18 = o5) (.cons (i := 0) rfl (.cons (i := 1) rfl (.cons (i := 2) rfl (.nil)))) (fun K6 hK6 => ?_) ?_
  · -- up to
    -- region 3: clocks.go:84
    refine W.reg ?_
    obtain ⟨r19, hr19, hF5⟩ := bnd hF5
    refine WL.step (WO.callP isGo29 (.nil) rfl (fun w hw => alibkeep_clocksLives_ok (hr19) w ) ?_)
    refine WL.q (Y.not (.pl rfl)) rfl ?_
    refine WL.q (Y.move (.pl rfl)) rfl ?_
    refine WL.g (.pl rfl rfl rfl) (fun hg => Y.move (.pl rfl)) rfl ?_
    refine WL.g (.pl rfl rfl rfl) (fun hg => Y.move (.pl rfl)) rfl ?_
    refine bsplit ((!r19) == false) (fun hg7 => ?_) (fun hg7 => ?_)
    · replace hF5 := cpos hg7 hF5
      refine WL.gd (.pl rfl rfl rfl) (hg7) ?_
      refine WL.step (WO.bsliceC (enc := (eI .i64)) (ys := ([r16.2, r17.2] : List Int)) Try.underlying92 bz25 (.cons (.gd (hg7) rfl) (.cons (.gd (hg7) rfl) (.nil))) rfl (fun _ => rfl) rfl rfl (by decide) (by decide) rfl fun b20 => ?_)
      refine WL.gd (.pl rfl rfl rfl) (hg7) ?_
      obtain ⟨r21, hr21, hF5⟩ := bnd hF5
      refine WL.step (WO.callP isGo25 (.cons (.pl rfl) (.nil)) rfl (fun w hw => alibkeep_ok_ok (hr21) w (SlIn.ofRow (fun _ => rfl) hw (i := 0) rfl)) ?_)
      refine WL.gd (.pl rfl rfl rfl) (hg7) ?_
      refine WL.q (Y.not (.pl rfl)) rfl ?_
      refine WL.q (Y.or (.pl rfl) (fun _ => .pl rfl)) rfl ?_
      refine WL.q (Y.move (.pl rfl)) rfl ?_
      refine WL.g (.pl rfl rfl rfl) (fun hg => Y.move (.pl rfl)) rfl ?_
      refine WL.g (.pl rfl rfl rfl) (fun hg => Y.not (.gd (hg) rfl)) rfl ?_
      refine WL.q (Y.or (.pl rfl) (fun h2 => .gd (eqf h2) rfl)) rfl ?_
      refine WL.q (Y.move (.pl rfl)) rfl ?_
      refine WL.g (.pl rfl rfl rfl) (fun hg => Y.move (.pl rfl)) rfl ?_
      refine WL.g (.pl rfl rfl rfl) (fun hg => Y.not (.gd (hg) rfl)) rfl ?_
      refine WL.q (Y.or (.pl rfl) (fun h2 => .gd (eqf h2) rfl)) rfl ?_
      refine WL.q (Y.move (.pl rfl)) rfl ?_
      refine WL.g (.pl rfl rfl rfl) (fun hg => Y.move (.pl rfl)) rfl ?_
      refine WL.g (.pl rfl rfl rfl) (fun hg => Y.len Try.underlying22 (.gd (hg) rfl)) rfl ?_
      refine WL.g (.pl rfl rfl rfl) (fun hg => Y.move (.pl rfl)) rfl ?_
      refine WL.g (.pl rfl rfl rfl) (fun hg => Y.len Try.underlying22 (.gd (hg) rfl)) rfl ?_
      refine WL.g (.pl rfl rfl rfl) (fun hg => Y.neq (.gd (hg) rfl) (.gd (hg) rfl)) rfl ?_
      refine WL.q (Y.or (.pl rfl) (fun h2 => .gd (eqf h2) rfl)) rfl ?_
      refine WL.nil ?_
      exact W.joinAt1 hK6 (((((!r19) || (!r21)) || (!r16.1)) || (!r17.1)) || (!(decide (((a6).length : Int) = ((b11).length : Int))))) (Option.some.inj hF5) (.cons rfl (.nil)) (.cons (i := 0) rfl (.cons (i := 1) rfl (.cons (i := 2) rfl (.nil)))) (fun w hw => hw.pick [] rfl)
    · replace hF5 := cneg hg7 hF5
      refine WL.gn (.pl rfl rfl rfl) hg7 rfl ?_
      refine WL.gn (.pl rfl rfl rfl) hg7 rfl ?_
      refine WL.gn (.pl rfl rfl rfl) hg7 rfl ?_
      refine WL.q (Y.or (b := false) (.pl rfl) (fun h2 => (gabsO hg7 h2).elim)) rfl ?_
      refine WL.q (Y.move (.pl rfl)) rfl ?_
      refine WL.g (.pl rfl rfl rfl) (fun hg => Y.move (.pl rfl)) rfl ?_
      refine WL.g (.pl rfl rfl rfl) (fun hg => Y.not (.gd (hg) rfl)) rfl ?_
      refine WL.q (Y.or (.pl rfl) (fun h2 => .gd (eqf h2) rfl)) rfl ?_
      refine WL.q (Y.move (.pl rfl)) rfl ?_
      refine WL.g (.pl rfl rfl rfl) (fun hg => Y.move (.pl rfl)) rfl ?_
      refine WL.g (.pl rfl rfl rfl) (fun hg => Y.not (.gd (hg) rfl)) rfl ?_
      refine WL.q (Y.or (.pl rfl) (fun h2 => .gd (eqf h2) rfl)) rfl ?_
      refine WL.q (Y.move (.pl rfl)) rfl ?_
      refine WL.g (.pl rfl rfl rfl) (fun hg => Y.move (.pl rfl)) rfl ?_
      refine WL.g (.pl rfl rfl rfl) (fun hg => Y.len Try.underlying22 (.gd (hg) rfl)) rfl ?_
      refine WL.g (.pl rfl rfl rfl) (fun hg => Y.move (.pl rfl)) rfl ?_
      refine WL.g (.pl rfl rfl rfl) (fun hg => Y.len Try.underlying22 (.gd (hg) rfl)) rfl ?_
      refine WL.g (.pl rfl rfl rfl) (fun hg => Y.neq (.gd (hg) rfl) (.gd (hg) rfl)) rfl ?_
      refine WL.q (Y.or (.pl rfl) (fun h2 => .gd (eqf h2) rfl)) rfl ?_
      refine WL.nil ?_
      exact W.joinAt1 hK6 (((((!r19) || false) || (!r16.1)) || (!r17.1)) || (!(decide (((a6).length : Int) = ((b11).length : Int))))) (Option.some.inj hF5) (.cons rfl (.nil)) (.cons (i := 0) rfl (.cons (i := 1) rfl (.cons (i := 2) rfl (.nil)))) (fun w hw => hw.pick [] rfl)
  · -- behind
    rintro v18 rfl
    refine W.cond (.pl rfl) (fun hC8 => ?_) (fun hC8 => ?_)
    · replace hF := cpos hC8 hF
      -- region 4: clocks.go:85
      refine W.seqR fun Q9 hQ9 => ?_
      obtain ⟨r22, hr22, hF⟩ := bnd hF
      refine WL.step (WO.callP isGo29 (.nil) rfl (fun w hw => alibkeep_clocksLives_ok (hr22) w ) ?_)
      refine WL.q (Y.assign (.pl rfl)) rfl ?_
      refine WL.next hQ9 (.cons (i := 6) rfl (.nil)) ?_
      obtain rfl := Option.some.inj hF
      refine W.retV (fn := Try.f8) (vs := [.bool r22]) Try.results8 ⟨.tmp rfl, trivial⟩ (fun _ _ h => h) (fun w hw => ?_)
      exact hR _ _ ⟨rfl, (hw.pick [] rfl)⟩
    · replace hF := cneg hC8 hF
      refine W.skip ?_
      refine W.go hK4 (.cons (i := 0) rfl (.cons (i := 1) rfl (.cons (i := 2) rfl (.nil)))) ?_
      -- region 5: clocks.go:87
      refine W.seqR fun Q10 hQ10 => ?_
      refine WL.q (Y.move (.pl rfl)) rfl ?_
      obtain ⟨hk23, hF⟩ := ckh hF
      refine WL.step (WO.callM isGo31 (.cons (.pl rfl) (.nil)) rfl (fun w hw => slices_Clone_int_int_ok (hk23) w (hs9.mono hw)) ?_)
      rintro ⟨A24, c25⟩ -
      refine WL.q (Y.move (.pl rfl)) rfl ?_
      obtain ⟨hk26, hF⟩ := ckh hF
      refine WL.step (WO.callM isGo31 (.cons (.pl rfl) (.nil)) rfl (fun w hw => slices_Clone_int_int_ok (hk26) w (hs9.mono hw)) ?_)
      rintro ⟨A27, c28⟩ -
      refine WL.q (Y.assign (.pl rfl)) rfl ?_
      refine WL.q (Y.assign (.pl rfl)) rfl ?_
      refine WL.next hQ10 (.cons (i := 0) rfl (.cons (i := 1) rfl (.cons (i := 2) rfl (.cons (i := 11) rfl (.cons (i := 12) rfl (.nil)))))) ?_
      obtain ⟨o11, hF11, hF⟩ := bnd hF
      refine W.join2 (Em := fun (low29 : (List Int)) (high30 : (List Int)) => [(11, .slice A24 (low29).length c25), (12, .slice A27 (high30).length c28)]) (M := fun low29 high30 => [cR (eI .i64) 1 A24 c25 3 low29, cR (eI .i64) 1 A27 c28 3 high30]) (I := fun low29 high30 => (low29, high30) = o11) (.cons (i := 0) rfl (.nil)) (fun K12 hK12 => ?_) ?_
      · -- up to
        -- region 6: clocks.go:88
        refine W.seqR fun Q13 hQ13 => ?_
        refine WL.q (Y.move (.pl rfl)) rfl ?_
        refine WL.q (Y.len Try.underlying22 (.pl rfl)) rfl ?_
        refine WL.q (Y.move (.pl rfl)) rfl ?_
        refine WL.next hQ13 (.cons (i := 0) rfl (.cons (i := 1) rfl (.cons (i := 2) rfl (.cons (i := 11) rfl (.cons (i := 12) rfl (.cons (i := 60) rfl (.cons (i := 61) rfl (.nil)))))))) ?_
        refine W.block ?_
        refine W.loop3 (Em := fun (low31 : (List Int)) (high32 : (List Int)) (v33 : Int) => [(11, .slice A24 (low31).length c25), (12, .slice A27 (high32).length c28), (61, .int .i64 v33)]) (M := fun low31 high32 v33 => [cR (eI .i64) 1 A24 c25 3 low31, cR (eI .i64) 1 A27 c28 3 high32]) (I := fun low31 high32 v33 k14 => iter (alibkeep_ClocksLattice_L3 N a6 b11) k14 (low31, high32, v33) = some o11) a6 a6 0 N (hF11) (.cons rfl (.cons rfl (.cons rfl (.nil)))) (.cons (i := 0) rfl (.cons (i := 1) rfl (.cons (i := 2) rfl (.cons (i := 60) rfl (.nil))))) (fun w hw => hw.pick [1, 0] rfl) (fun low31 high32 v33 k14 hI K15 hK15 => ?_)
        obtain ⟨k14, t14, rfl, hF14, hN14⟩ := iter_step hI
        -- region 7: clocks.go:88
        refine W.seqR fun Q16 hQ16 => ?_
        refine WL.q (Y.lss (.pl rfl) (.pl rfl)) rfl ?_
        refine WL.next hQ16 (.cons (i := 0) rfl (.cons (i := 1) rfl (.cons (i := 2) rfl (.cons (i := 11) rfl (.cons (i := 12) rfl (.cons (i := 60) rfl (.cons (i := 61) rfl (.cons (i := 62) rfl (.nil))))))))) ?_
        refine W.seq fun K17 hK17 => ?_
        refine W.cond (.pl rfl) (fun hC18 => ?_) (fun hC18 => ?_)
        · replace hF14 := cpos hC18 hF14
          refine W.skip ?_
          refine W.go hK17 (.cons (i := 0) rfl (.cons (i := 1) rfl (.cons (i := 2) rfl (.cons (i := 11) rfl (.cons (i := 12) rfl (.cons (i := 60) rfl (.cons (i := 61) rfl (.nil)))))))) ?_
          refine W.seq fun K19 hK19 => ?_
          refine W.block ?_
          -- region 8: clocks.go:88
          refine W.seqR fun Q20 hQ20 => ?_
          refine WL.q (Y.move (.pl rfl)) rfl ?_
          refine WL.q (Y.assign (.pl rfl)) rfl ?_
          refine WL.next hQ20 (.cons (i := 0) rfl (.cons (i := 1) rfl (.cons (i := 2) rfl (.cons (i := 11) rfl (.cons (i := 12) rfl (.cons (i := 13) rfl (.cons (i := 60) rfl (.cons (i := 61) rfl (.nil))))))))) ?_
          -- region 9: clocks.go:89
          refine W.know (fun w hw => (hw.row_lim (i := 0) rfl).2.2) (fun hok22 => ?_)
          refine W.regXK 25 [1] (by kernel_rfl) ?_
          refine WX.pure 0 #[true, false, false, false, false, false, false, false, false, false, false, false, false, false, false, false, false, false, false, false, false, false, false, false, false, false] rfl (by kernel_rfl) (fun _ _ => Y.move (.pl rfl)) rfl ?_
          refine WX.pure 1 #[true, true, false, false, false, false, false, false, false, false, false, false, false, false, false, false, false, false, false, false, false, false, false, false, false, false] rfl (by kernel_rfl) (fun _ _ => Y.move (.pl rfl)) rfl ?_
          refine WX.pure 2 #[true, true, true, false, false, false, false, false, false, false, false, false, false, false, false, false, false, false, false, false, false, false, false, false, false, false] rfl (by kernel_rfl) (fun _ _ => Y.move (.pl rfl)) rfl ?_
          refine WX.pure 3 #[true, true, true, true, false, false, false, false, false, false, false, false, false, false, false, false, false, false, false, false, false, false, false, false, false, false] rfl (by kernel_rfl) (fun _ _ => Y.move (.pl rfl)) rfl ?_
          refine WX.pure 4 #[true, true, true, true, true, false, false, false, false, false, false, false, false, false, false, false, false, false, false, false, false, false, false, false, false, false] rfl (by kernel_rfl) (fun _ _ => Y.move (.pl rfl)) rfl ?_
          refine WX.pure 5 #[true, true, true, true, true, true, false, false, false, false, false, false, false, false, false, false, false, false, false, false, false, false, false, false, false, false] rfl (by kernel_rfl) (fun _ _ => Y.move (.pl rfl)) rfl ?_
          obtain ⟨x34, hx34, hF14⟩ := bnd hF14
          refine WX.take 6 #[true, true, true, true, true, true, true, false, false, false, false, false, false, false, false, false, false, false, false, false, false, false, false, false, false, false] (fun w hw => hw.pick [1] rfl) rfl (by kernel_rfl) (Y.slEl Try.underlying22 cells3 hs9 (.pl rfl) (.pl rfl) (ix_lt (hx34))) rfl ?_
          refine WX.take 7 #[true, true, true, true, true, true, true, true, false, false, false, false, false, false, false, false, false, false, false, false, false, false, false, false, false, false] (fun w hw => hw.pick [1] rfl) rfl (by kernel_rfl) (Y.loadS (enc := (eI .i64)) (v := .int .i64 x34) (j := 0) Try.underlying3 rfl hs9 (.pl rfl) (hx34) rfl rfl) rfl ?_
          refine WX.pure 8 #[true, true, true, true, true, true, true, true, true, false, false, false, false, false, false, false, false, false, false, false, false, false, false, false, false, false] rfl (by kernel_rfl) (fun _ _ => Y.move (.pl rfl)) rfl ?_
          refine WX.pure 9 #[true, true, true, true, true, true, true, true, true, true, false, false, false, false, false, false, false, false, false, false, false, false, false, false, false, false] rfl (by kernel_rfl) (fun _ _ => Y.move (.pl rfl)) rfl ?_
          obtain ⟨x35, hx35, hF14⟩ := bnd hF14
          refine WX.take 10 #[true, true, true, true, true, true, true, true, true, true, true, false, false, false, false, false, false, false, false, false, false, false, false, false, false, false] (fun w hw => hw.pick [1] rfl) rfl (by kernel_rfl) (Y.slEl Try.underlying22 cells3 hs14 (.pl rfl) (.pl rfl) (ix_lt (hx35))) rfl ?_
          refine WX.take 11 #[true, true, true, true, true, true, true, true, true, true, true, true, false, false, false, false, false, false, false, false, false, false, false, false, false, false] (fun w hw => hw.pick [1] rfl) rfl (by kernel_rfl) (Y.loadS (enc := (eI .i64)) (v := .int .i64 x35) (j := 0) Try.underlying3 rfl hs14 (.pl rfl) (hx35) rfl rfl) rfl ?_
          refine WX.take 12 #[true, true, true, true, true, true, true, true, true, true, true, true, true, false, false, false, false, false, false, false, false, false, false, false, false, false] (fun w hw => hw.pick [1] rfl) rfl (by kernel_rfl) (Y.min (.pl rfl) (.pl rfl)) rfl ?_
          refine WX.pure 13 #[true, true, true, true, true, true, true, true, true, true, true, true, true, true, false, false, false, false, false, false, false, false, false, false, false, false] rfl (by kernel_rfl) (fun _ _ => Y.move (.pl rfl)) rfl ?_
          refine WX.pure 14 #[true, true, true, true, true, true, true, true, true, true, true, true, true, true, true, false, false, false, false, false, false, false, false, false, false, false] rfl (by kernel_rfl) (fun _ _ => Y.move (.pl rfl)) rfl ?_
          obtain ⟨x36, hx36, hF14⟩ := bnd hF14
          refine WX.take 15 #[true, true, true, true, true, true, true, true, true, true, true, true, true, true, true, true, false, false, false, false, false, false, false, false, false, false] (fun w hw => hw.pick [1] rfl) rfl (by kernel_rfl) (Y.slEl Try.underlying22 cells3 hs9 (.pl rfl) (.pl rfl) (ix_lt (hx36))) rfl ?_
          refine WX.take 16 #[true, true, true, true, true, true, true, true, true, true, true, true, true, true, true, true, true, false, false, false, false, false, false, false, false, false] (fun w hw => hw.pick [1] rfl) rfl (by kernel_rfl) (Y.loadS (enc := (eI .i64)) (v := .int .i64 x36) (j := 0) Try.underlying3 rfl hs9 (.pl rfl) (hx36) rfl rfl) rfl ?_
          refine WX.pure 17 #[true, true, true, true, true, true, true, true, true, true, true, true, true, true, true, true, true, true, false, false, false, false, false, false, false, false] rfl (by kernel_rfl) (fun _ _ => Y.move (.pl rfl)) rfl ?_
          refine WX.pure 18 #[true, true, true, true, true, true, true, true, true, true, true, true, true, true, true, true, true, true, true, false, false, false, false, false, false, false] rfl (by kernel_rfl) (fun _ _ => Y.move (.pl rfl)) rfl ?_
          obtain ⟨x37, hx37, hF14⟩ := bnd hF14
          refine WX.take 19 #[true, true, true, true, true, true, true, true, true, true, true, true, true, true, true, true, true, true, true, true, false, false, false, false, false, false] (fun w hw => hw.pick [1] rfl) rfl (by kernel_rfl) (Y.slEl Try.underlying22 cells3 hs14 (.pl rfl) (.pl rfl) (ix_lt (hx37))) rfl ?_
          refine WX.take 20 #[true, true, true, true, true, true, true, true, true, true, true, true, true, true, true, true, true, true, true, true, true, false, false, false, false, false] (fun w hw => hw.pick [1] rfl) rfl (by kernel_rfl) (Y.loadS (enc := (eI .i64)) (v := .int .i64 x37) (j := 0) Try.underlying3 rfl hs14 (.pl rfl) (hx37) rfl rfl) rfl ?_
          refine WX.take 21 #[true, true, true, true, true, true, true, true, true, true, true, true, true, true, true, true, true, true, true, true, true, true, false, false, false, false] (fun w hw => hw.pick [1] rfl) rfl (by kernel_rfl) (Y.max (.pl rfl) (.pl rfl)) rfl ?_
          obtain ⟨x38, hx38, hF14⟩ := bnd hF14
          refine WX.pure 22 #[true, true, true, true, true, true, true, true, true, true, true, true, true, true, true, true, true, true, true, true, true, true, true, false, false, false] rfl (by kernel_rfl) (fun _ _ => Y.okEl (xs := low31) Try.underlying22 cells3 hok22 (.pl rfl) rfl (.pl rfl) (ix_lt (hx38))) rfl ?_
          refine WX.one 23 #[true, true, true, true, true, true, true, true, true, true, true, true, true, true, true, true, true, true, true, true, true, true, true, true, false, false] (fun w hw => hw.pick [1] rfl) rfl (by kernel_rfl) (WO.storeS (enc := (eI .i64)) (a := x38) (a' := (min x34 x35)) (idx := v33) (j := 0) cells3 (.pl rfl) (.pl rfl) rfl (fun _ => rfl) (i := 0) rfl (ix_get (hx38)) rfl (by decide) rfl ?_)
          obtain ⟨x39, hx39, hF14⟩ := bnd hF14
          refine WX.take 24 #[true, true, true, true, true, true, true, true, true, true, true, true, true, true, true, true, true, true, true, true, true, true, true, true, true, false] (fun w hw => hw.pick [1] rfl) rfl (by kernel_rfl) (Y.rowEl Try.underlying22 cells3 (i := 0) rfl (.pl rfl) rfl (.pl rfl) (ix_lt (hx39))) rfl ?_
          refine WX.stop #[true, true, true, true, true, true, true, true, true, true, true, true, true, true, true, true, true, true, true, true, true, true, true, true, true, true] (fun w hw => hw.pick [1] rfl) rfl (by kernel_rfl) (WO.storeS (enc := (eI .i64)) (a := x39) (a' := (max x36 x37)) (idx := v33) (j := 0) cells3 (.pl rfl) (.pl rfl) rfl (fun _ => rfl) (i := 1) rfl (ix_get (hx39)) rfl (by decide) rfl ?_)
          refine WA.done (by kernel_rfl) ?_
          refine W.go hK19 (.cons (i := 0) rfl (.cons (i := 1) rfl (.cons (i := 2) rfl (.cons (i := 11) rfl (.cons (i := 12) rfl (.cons (i := 60) rfl (.cons (i := 61) rfl (.nil)))))))) ?_
          -- region 10: clocks.go:88
          refine W.reg ?_
          obtain ⟨hk40, hF14⟩ := ckh hF14
          refine WL.q (Y.add (.pl rfl) (.pl rfl) (ok64_lt (hk40))) rfl ?_
          refine WL.q (Y.move (.pl rfl)) rfl ?_
          refine WL.nil ?_
          obtain rfl := Option.some.inj hF14
          exact W.again3 hK15 (low31.set v33.toNat (min x34 x35)) (high32.set v33.toNat (max x36 x37)) (v33 + 1) k14 hN14 (Nat.lt_succ_self _) (.cons (eqSl (by simp)) (.cons (eqSl (by simp)) (.cons rfl (.nil)))) (.cons (i := 0) rfl (.cons (i := 1) rfl (.cons (i := 2) rfl (.cons (i := 60) rfl (.nil))))) (fun w hw => hw.pick [0, 1] rfl)
        · replace hF14 := cneg hC18 hF14
          refine W.exit ?_
          obtain rfl := Option.some.inj hF14
          exact W.joinAt2 hK12 low31 high32 (einr hN14) (.cons rfl (.cons rfl (.nil))) (.cons (i := 0) rfl (.nil)) (fun w hw => hw.pick [0, 1] rfl)
      · -- behind
        rintro low29 high30 rfl
        -- region 11: clocks.go:91
        refine W.seqR fun Q24 hQ24 => ?_
        refine WL.q (Y.move (.pl rfl)) rfl ?_
        refine WL.q (Y.move (.pl rfl)) rfl ?_
        obtain ⟨r41, hr41, hF⟩ := bnd hF
        refine WL.step (WO.callP isGo30 (.cons (.pl rfl) (.cons (.pl rfl) (.nil))) rfl (fun w hw => clocks_Cut_ok (hr41) w (hs4.mono hw) (SlIn.ofRow (fun _ => rfl) hw (i := 0) rfl)) ?_)
        refine WL.q (Y.move (.pl rfl)) rfl ?_
        refine WL.q (Y.extract (.pl rfl) rfl) rfl ?_
        refine WL.q (Y.extract (.pl rfl) rfl) rfl ?_
        refine WL.q (Y.assign (.pl rfl)) rfl ?_
        refine WL.q (Y.assign (.pl rfl)) rfl ?_
        refine WL.next hQ24 (.cons (i := 0) rfl (.cons (i := 12) rfl (.cons (i := 14) rfl (.cons (i := 15) rfl (.nil))))) ?_
        -- region 12: clocks.go:92
        refine W.seqR fun Q25 hQ25 => ?_
        refine WL.q (Y.move (.pl rfl)) rfl ?_
        refine WL.q (Y.move (.pl rfl)) rfl ?_
        obtain ⟨r42, hr42, hF⟩ := bnd hF
        refine WL.step (WO.callP isGo30 (.cons (.pl rfl) (.cons (.pl rfl) (.nil))) rfl (fun w hw => clocks_Cut_ok (hr42) w (hs4.mono hw) (SlIn.ofRow (fun _ => rfl) hw (i := 1) rfl)) ?_)
        refine WL.q (Y.move (.pl rfl)) rfl ?_
        refine WL.q (Y.extract (.pl rfl) rfl) rfl ?_
        refine WL.q (Y.extract (.pl rfl) rfl) rfl ?_
        refine WL.q (Y.assign (.pl rfl)) rfl ?_
        refine WL.q (Y.assign (.pl rfl)) rfl ?_
        refine WL.next hQ25 (.cons (i := 14) rfl (.cons (i := 15) rfl (.cons (i := 16) rfl (.cons (i := 17) rfl (.nil))))) ?_
        -- region 13: clocks.go:93
        refine W.seqR fun Q26 hQ26 => ?_
        refine WL.q (Y.move (.pl rfl)) rfl ?_
        refine WL.q (Y.move (.pl rfl)) rfl ?_
        refine WL.step (WO.bsliceC (enc := (eI .i64)) (ys := ([r41.2, r42.2] : List Int)) Try.underlying92 bz25 (.cons (.pl rfl) (.cons (.pl rfl) (.nil))) rfl (fun _ => rfl) rfl rfl (by decide) (by decide) rfl fun b43 => ?_)
        obtain ⟨r44, hr44, hF⟩ := bnd hF
        refine WL.step (WO.callP isGo25 (.cons (.pl rfl) (.nil)) rfl (fun w hw => alibkeep_ok_ok (hr44) w (SlIn.ofRow (fun _ => rfl) hw (i := 0) rfl)) ?_)
        refine WL.q (Y.move (.pl rfl)) rfl ?_
        refine WL.g (.pl rfl rfl rfl) (fun hg => Y.move (.pl rfl)) rfl ?_
        refine WL.q (Y.and (.pl rfl) (fun h2 => .gd (eqt h2) rfl)) rfl ?_
        refine WL.q (Y.move (.pl rfl)) rfl ?_
        refine WL.g (.pl rfl rfl rfl) (fun hg => Y.move (.pl rfl)) rfl ?_
        refine WL.q (Y.and (.pl rfl) (fun h2 => .gd (eqt h2) rfl)) rfl ?_
        refine WL.q (Y.assign (.pl rfl)) rfl ?_
        refine WL.next hQ26 (.cons (i := 6) rfl (.nil)) ?_
        obtain rfl := Option.some.inj hF
        refine W.retV (fn := Try.f8) (vs := [.bool ((r44 && r41.1) && r42.1)]) Try.results8 ⟨.tmp rfl, trivial⟩ (fun _ _ h => h) (fun w hw => ?_)
        exact hR _ _ ⟨rfl, (hw.pick [] rfl)⟩

end Go.Proofs.Ytooaoekfnmakhaa
