/- Regular registers: what their code computes, and the walks. -/
import Derived.Test.YteklmleiiiodfaaE3
import Derived.Test.YteklmleiiiodfaaIface
set_option linter.unusedVariables false
set_option linter.unusedSimpArgs false
set_option linter.unusedSectionVars false
set_option maxRecDepth 100000
namespace Go.Proofs.Yteklmleiiiodfaa
open Go.RowKit
structure RegularJudged where
  n : Int
  write : Int
  regular : Bool
  safe : Bool
deriving DecidableEq
def RegularJudged.z : RegularJudged := ⟨0, 0, false, false⟩
def encRegularJudged (x : RegularJudged) : List Value := (Value.int .i64 x.n :: (Value.int .i64 x.write :: (Value.bool x.regular :: (Value.bool x.safe :: []))))
theorem lenRegularJudged (x : RegularJudged) : (encRegularJudged x).length = 4 := rfl
theorem eqRegularJudged (x y : RegularJudged) : eqCells [true, true, false, false] (encRegularJudged x) (encRegularJudged y) = some (decide (x = y)) := by
  cases x; cases y; simp [encRegularJudged, eqCells, RegularJudged.mk.injEq, Bool.beq_eq_decide_eq]
theorem oneRegularJudged : ∀ x, ∀ v ∈ encRegularJudged x, v.oneCell' = true := fun x => (one_cons rfl (one_cons rfl (one_cons rfl (one_cons rfl one_nil))))
theorem cells28 : Try.prog.cellsOf 28 = 0 + 1 := by kernel_rfl
theorem cells159 : Try.prog.cellsOf 159 = 3 + 1 := by kernel_rfl
theorem isGo27 : IsGo Try.prog 27 := ⟨_, Try.func27, by kernel_rfl, rfl⟩
theorem isGo28 : IsGo Try.prog 28 := ⟨_, Try.func28, by kernel_rfl, rfl⟩
theorem isGo45 : IsGo Try.prog 45 := ⟨_, Try.func45, by kernel_rfl, rfl⟩
theorem isGo49 : IsGo Try.prog 49 := ⟨_, Try.func49, by kernel_rfl, rfl⟩
theorem isGo77 : IsGo Try.prog 77 := ⟨_, Try.func77, by kernel_rfl, rfl⟩
theorem isGo78 : IsGo Try.prog 78 := ⟨_, Try.func78, by kernel_rfl, rfl⟩
theorem isGo79 : IsGo Try.prog 79 := ⟨_, Try.func79, by kernel_rfl, rfl⟩
theorem isGo80 : IsGo Try.prog 80 := ⟨_, Try.func80, by kernel_rfl, rfl⟩
theorem isGo112 : IsGo Try.prog 112 := ⟨_, Try.func112, by kernel_rfl, rfl⟩
theorem isGo113 : IsGo Try.prog 113 := ⟨_, Try.func113, by kernel_rfl, rfl⟩
theorem isGo114 : IsGo Try.prog 114 := ⟨_, Try.func114, by kernel_rfl, rfl⟩
theorem isGo140 : IsGo Try.prog 140 := ⟨_, Try.func140, by kernel_rfl, rfl⟩
theorem zero4 : ∃ i, Try.prog.info? 4 = some i ∧ i.zero = some (Value.bool false) := ⟨_, rfl, by kernel_rfl⟩
theorem zero51 : ∃ i, Try.prog.info? 51 = some i ∧ i.zero = some (Value.agg #[(Value.int .i64 0), (Value.int .i64 0), (Value.int .i64 0), (Value.int .i64 0), (Value.int .i64 0), (Value.int .i64 0), (Value.int .i64 0)]) := ⟨_, rfl, by kernel_rfl⟩
theorem zero159 : ∃ i, Try.prog.info? 159 = some i ∧ i.zero = some (Value.agg #[(Value.int .i64 0), (Value.int .i64 0), (Value.bool false), (Value.bool false)]) := ⟨_, rfl, by kernel_rfl⟩
theorem bz28 : ∃ i, Try.prog.info? 28 = some i ∧ i.zero = some (Value.int .i64 0) ∧ i.size = 1 := ⟨_, rfl, by kernel_rfl, by kernel_rfl⟩
theorem bz159 : ∃ i, Try.prog.info? 159 = some i ∧ i.zero = some (Value.agg #[(Value.int .i64 0), (Value.int .i64 0), (Value.bool false), (Value.bool false)]) ∧ i.size = 4 := ⟨_, rfl, by kernel_rfl, by kernel_rfl⟩
theorem ap159 : ∃ i z, Try.prog.info? 159 = some i ∧ i.zero = some z ∧ i.size = 4 ∧ i.bytes = 24 ∧ z.cells.size = 4 ∧ 0 < 4 := ⟨_, (Value.agg #[(Value.int .i64 0), (Value.int .i64 0), (Value.bool false), (Value.bool false)]), rfl, by kernel_rfl, by kernel_rfl, by kernel_rfl, by kernel_rfl, by decide⟩
theorem shape159 : Shape Try.prog 159 [(0, 1), (1, 1), (2, 1), (3, 1)] #[(Value.int .i64 0), (Value.int .i64 0), (Value.bool false), (Value.bool false)] := ⟨_, _, Value.agg #[(Value.int .i64 0), (Value.int .i64 0), (Value.bool false), (Value.bool false)], Try.underlying159, rfl, by kernel_rfl, rfl, by kernel_rfl, by decide⟩
theorem shape220 : Shape Try.prog 220 [(0, 1), (1, 1)] #[(Value.slice none 0 0), (Value.slice none 0 0)] := ⟨_, _, Value.agg #[(Value.slice none 0 0), (Value.slice none 0 0)], Try.underlying220, rfl, by kernel_rfl, rfl, by kernel_rfl, by decide⟩
def regular_precedes (N : Nat) (a1 : Call) (b2 : Call) : Option Unit :=
  some ()

theorem regular_precedes_ok {N : Nat} {a1 : Call} {b2 : Call} {res : Unit} (hF : regular_precedes N a1 b2 = some res) (w : World) :
    Pure Try.prog 112 [.agg (encCall a1).toArray, .agg (encCall b2).toArray] w (.bool ((!(decide (a1.to_ = (-1)))) && (decide (a1.to_ < b2.from_)))) := by
  refine W.enter (n := 15) Try.func112 rfl rfl Sub.refl (by simp) (St.start w) fun R hR => ?_
  unfold regular_precedes at hF
  -- region 0: regular.go:12
  refine W.seqR fun Q1 hQ1 => ?_
  refine WL.step (WO.boxA (.pl rfl) rfl fun b3 => ?_)
  refine WL.step (WO.boxA (.pl rfl) rfl fun b4 => ?_)
  refine WL.q (Y.assign (.pl rfl)) rfl ?_
  refine WL.next hQ1 (.cons (i := 2) rfl (.cons (i := 3) rfl (.nil))) ?_
  -- region 1: regular.go:12
  refine W.seqR fun Q2 hQ2 => ?_
  refine WL.q (Y.fieldAddr0 (off := 6) (ft := 3) Try.underlying51 rfl cells3 (.pl rfl)) rfl ?_
  refine WL.q (Y.loadB (v := .int .i64 a1.to_) Try.underlying3 rfl (.pl rfl) (i := 1) rfl (rfl)) rfl ?_
  refine WL.q (Y.neq (.pl rfl) (.pl rfl)) rfl ?_
  refine WL.q (Y.move (.pl rfl)) rfl ?_
  refine WL.g (.pl rfl rfl rfl) (fun hg => Y.fieldAddr0 (off := 6) (ft := 3) Try.underlying51 rfl cells3 (.pl rfl)) rfl ?_
  refine WL.g (.pl rfl rfl rfl) (fun hg => Y.loadB (v := .int .i64 a1.to_) Try.underlying3 rfl (.gd (hg) rfl) (i := 1) rfl (rfl)) rfl ?_
  refine WL.g (.pl rfl rfl rfl) (fun hg => Y.fieldAddr0 (off := 5) (ft := 3) Try.underlying51 rfl cells3 (.pl rfl)) rfl ?_
  refine WL.g (.pl rfl rfl rfl) (fun hg => Y.loadB (v := .int .i64 b2.from_) Try.underlying3 rfl (.gd (hg) rfl) (i := 0) rfl (rfl)) rfl ?_
  refine WL.g (.pl rfl rfl rfl) (fun hg => Y.lss (.gd (hg) rfl) (.gd (hg) rfl)) rfl ?_
  refine WL.q (Y.and (.pl rfl) (fun h2 => .gd (eqt h2) rfl)) rfl ?_
  refine WL.q (Y.assign (.pl rfl)) rfl ?_
  refine WL.next hQ2 (.cons (i := 4) rfl (.nil)) ?_
  obtain rfl := Option.some.inj hF
  refine W.retV (fn := Try.f112) (vs := [.bool ((!(decide (a1.to_ = (-1)))) && (decide (a1.to_ < b2.from_)))]) Try.results112 ⟨.tmp rfl, trivial⟩ (fun _ _ h => h) (fun wz hw => ?_)
  exact hR _ _ ⟨rfl, (hw.pick [] rfl)⟩

def regular_read_L51 (N : Nat) (writes16 : (List Call)) (x21 : Call) : Int → Option (Int ⊕ (Unit ⊕ (Bool × (List Call) × (List Call) × Int)))
  | v23 =>
    cond (decide (v23 < ((writes16).length : Int)))
      (bd (ix writes16 v23) fun (x24 : Call) =>
      bd ((cond ((decide (x24.arg = x21.arg)) == false) (regular_precedes N x24 x21) (some ()))) fun (r26 : Unit) =>
      cond ((decide (x24.arg = x21.arg)) || (!((!(decide (x24.to_ = (-1)))) && (decide (x24.to_ < x21.from_)))))
        (some (.inr (.inr (false, [], [], 6))))
        (ck (ok64 (v23 + 1)) <|
        some (.inl (v23 + 1))))
      (some (.inr (.inl ())))

def regular_read_L47 (N : Nat) (r7 : ((List Call) × Int × Int)) : ((List Call) × Int) → Option (((List Call) × Int) ⊕ ((List Call) ⊕ (Bool × (List Call) × (List Call) × Int)))
  | (writes16, v17) =>
    cond (decide (v17 < ((r7.1).length : Int)))
      (bd (α := ((List Call) ⊕ (Bool × (List Call) × (List Call) × Int))) (bd (ix r7.1 v17) fun (x21 : Call) =>
        cond (!(decide (x21.kind = 1)))
          (some (.inl writes16))
          (bd (α := (Unit ⊕ (Bool × (List Call) × (List Call) × Int))) (iter (regular_read_L51 N writes16 x21) N 0) <|
          Sum.elim (fun _ => 
            ck (limB 56 ((writes16).length + (([x21] : List Call)).length)) <|
            some (.inl (writes16 ++ ([x21] : List Call)))) (fun p => some (.inr p)))) <|
      Sum.elim (fun (writes20 : (List Call)) => 
        ck (ok64 (v17 + 1)) <|
        some (.inl (writes20, (v17 + 1)))) (fun p => some (.inr (.inr p))))
      (some (.inr (.inl writes16)))

def regular_read (N : Nat) (l1 : (List Event)) : Option (Bool × (List Call) × (List Call) × Int) :=
  bd (history_Calls N ([1] : List Int) l1) fun (r7 : ((List Call) × Int × Int)) =>
  cond (!(decide (r7.2.2 = 0)))
    (some (false, [], [], r7.2.2))
    (bd (α := ((List Call) ⊕ (Bool × (List Call) × (List Call) × Int))) (iter (regular_read_L47 N r7) N ([], 0)) <|
    Sum.elim (fun (writes13 : (List Call)) => 
      some (true, r7.1, writes13, 0)) (fun p => some p))

theorem regular_read_ok {N : Nat} {l1 : (List Event)} {res : (Bool × (List Call) × (List Call) × Int)} (hF : regular_read N l1 = some res) (w : World) {v5 : Value} (hs4 : SlIn encEvent 4 w v5 l1) :
    Made Try.prog 77 [v5] w (fun g : (Option Nat × Option Addr × Nat × Option Addr × Nat) => .tuple #[.pointer (ptO g.1), .int .i64 res.2.2.2]) (fun g => [cBo g.1 220 (Value.slice g.2.1 (res.2.1).length g.2.2.1 :: (Value.slice g.2.2.2.1 (res.2.2.1).length g.2.2.2.2 :: [])), cR encCall 7 g.2.1 g.2.2.1 51 res.2.1, cR encCall 7 g.2.2.2.1 g.2.2.2.2 51 res.2.2.1]) (fun g => res.1 = (g.1).isSome) := by
  obtain ⟨A2, c3, rfl, hcc3, hs4⟩ := hs4.form
  refine W.enter (n := 67) Try.func77 rfl rfl Sub.refl (by simp) (St.start w) fun R hR => ?_
  unfold regular_read at hF
  -- region 0: regular.go:20
  refine W.seqR fun Q1 hQ1 => ?_
  refine WL.q (Y.assign (.pl rfl)) rfl ?_
  refine WL.q (Y.assign (.pl rfl)) rfl ?_
  refine WL.next hQ1 (.cons (i := 0) rfl (.nil)) ?_
  -- region 1: regular.go:21
  refine W.seqR fun Q2 hQ2 => ?_
  refine WL.step (WO.bsliceC (enc := (eI .i64)) (ys := ([1] : List Int)) Try.underlying47 bz3 (.cons (.pl rfl) (.nil)) rfl (fun _ => rfl) rfl rfl (by decide) (by decide) rfl fun b6 => ?_)
  refine WL.q (Y.move (.pl rfl)) rfl ?_
  obtain ⟨r7, hr7, hF⟩ := bnd hF
  refine WL.step (WO.callM isGo27 (.cons (.pl rfl) (.cons (.pl rfl) (.nil))) rfl (fun wz hw => history_Calls_ok (hr7) wz (SlIn.ofRow (fun _ => rfl) hw (i := 0) rfl) (hs4.mono hw)) ?_)
  rintro ⟨A8, c9⟩ -
  refine WL.q (Y.move (.pl rfl)) rfl ?_
  refine WL.q (Y.extract (.pl rfl) rfl) rfl ?_
  refine WL.q (Y.extract (.pl rfl) rfl) rfl ?_
  refine WL.q (Y.extract (.pl rfl) rfl) rfl ?_
  refine WL.q (Y.assign (.pl rfl)) rfl ?_
  refine WL.q (Y.assign (.pl rfl)) rfl ?_
  refine WL.q (Y.assign (.pl rfl)) rfl ?_
  refine WL.next hQ2 (.cons (i := 4) rfl (.cons (i := 6) rfl (.nil))) ?_
  refine W.seq fun K3 hK3 => ?_
  -- region 2: regular.go:22
  refine W.seqR fun Q4 hQ4 => ?_
  refine WL.q (Y.move (.pl rfl)) rfl ?_
  refine WL.q (Y.neq (.pl rfl) (.pl rfl)) rfl ?_
  refine WL.next hQ4 (.cons (i := 4) rfl (.cons (i := 6) rfl (.cons (i := 20) rfl (.nil)))) ?_
  refine W.cond (.pl rfl) (fun hC5 => ?_) (fun hC5 => ?_)
  · replace hF := cpos hC5 hF
    -- region 3: regular.go:23
    refine W.seqR fun Q6 hQ6 => ?_
    refine WL.q (Y.move (.pl rfl)) rfl ?_
    refine WL.q (Y.assign (.pl rfl)) rfl ?_
    refine WL.q (Y.assign (.pl rfl)) rfl ?_
    refine WL.next hQ6 (.cons (i := 2) rfl (.cons (i := 3) rfl (.nil))) ?_
    obtain rfl := Option.some.inj hF
    refine W.retV (fn := Try.f77) (vs := [.pointer none, .int .i64 r7.2.2]) Try.results77 ⟨.tmp rfl, ⟨.tmp rfl, trivial⟩⟩ (fun _ _ h => h) (fun wz hw => ?_)
    exact hR _ _ ⟨(none, none, 0, none, 0), rfl, rfl, ((St.nilR (St.nilR (St.nilO (hw.pick [] rfl) 220 (Value.slice none 0 0 :: (Value.slice none 0 0 :: []))) encCall 7 51) encCall 7 51).pick [2, 1, 0] rfl)⟩
  · replace hF := cneg hC5 hF
    refine W.skip ?_
    refine W.go hK3 (.cons (i := 4) rfl (.nil)) ?_
    -- region 4: regular.go:25
    refine W.seqR fun Q7 hQ7 => ?_
    refine WL.q (Y.move (.pl rfl)) rfl ?_
    refine WL.q (Y.build (cs := (Value.slice A8 (r7.1).length c9 :: (Value.slice none 0 0 :: [])).toArray) shape220 (.cons (.pl rfl) (.nil)) (one_parts ⟨rfl, trivial⟩) rfl) rfl ?_
    refine WL.step (WO.boxA (.pl rfl) rfl fun b10 => ?_)
    refine WL.q (Y.assign (.pl rfl)) rfl ?_
    refine WL.next hQ7 (.cons (i := 4) rfl (.cons (i := 7) rfl (.nil))) ?_
    obtain ⟨o8, hF8, hF⟩ := bnd hF
    refine W.join3 (Em := fun (writes13 : (List Call)) (A11 : Option Addr) (c12 : Nat) => []) (M := fun writes13 A11 c12 => [cBx b10 220 (Value.slice A8 (r7.1).length c9 :: (Value.slice A11 (writes13).length c12 :: [])), cR encCall 7 A8 c9 51 r7.1, cR encCall 7 A11 c12 51 writes13]) (I := fun writes13 A11 c12 => (.inl writes13) = o8) (.cons (i := 7) rfl (.nil)) (fun K9 hK9 => ?_) ?_
    · -- up to
      -- region 5: regular.go:26
      refine W.seqR fun Q10 hQ10 => ?_
      refine WL.q (Y.move (.pl rfl)) rfl ?_
      refine WL.q (Y.len Try.underlying44 (.pl rfl)) rfl ?_
      refine WL.q (Y.move (.pl rfl)) rfl ?_
      refine WL.next hQ10 (.cons (i := 7) rfl (.cons (i := 25) rfl (.cons (i := 26) rfl (.cons (i := 27) rfl (.nil))))) ?_
      refine W.block ?_
      refine W.loop4 (Em := fun (writes16 : (List Call)) (v17 : Int) (A14 : Option Addr) (c15 : Nat) => [(27, .int .i64 v17)]) (M := fun writes16 v17 A14 c15 => [cBx b10 220 (Value.slice A8 (r7.1).length c9 :: (Value.slice A14 (writes16).length c15 :: [])), cR encCall 7 A8 c9 51 r7.1, cR encCall 7 A14 c15 51 writes16]) (I := fun writes16 v17 A14 c15 k11 => iter (regular_read_L47 N r7) k11 (writes16, v17) = some o8) [] 0 none 0 N (hF8) (.cons rfl (.nil)) (.cons (i := 7) rfl (.cons (i := 25) rfl (.cons (i := 26) rfl (.nil)))) (fun wz hw => (St.nilR (hw.pick [0, 1] rfl) encCall 7 51).pick [1, 2, 0] rfl) (fun writes16 v17 A14 c15 k11 hI K12 hK12 => ?_)
      obtain ⟨k11, t11, rfl, hF11, hN11⟩ := iter_step hI
      -- region 6: regular.go:26
      refine W.seqR fun Q13 hQ13 => ?_
      refine WL.q (Y.lss (.pl rfl) (.pl rfl)) rfl ?_
      refine WL.next hQ13 (.cons (i := 7) rfl (.cons (i := 25) rfl (.cons (i := 26) rfl (.cons (i := 27) rfl (.cons (i := 28) rfl (.nil)))))) ?_
      refine W.seq fun K14 hK14 => ?_
      refine W.cond (.pl rfl) (fun hC15 => ?_) (fun hC15 => ?_)
      · replace hF11 := cpos hC15 hF11
        refine W.skip ?_
        refine W.go hK14 (.cons (i := 7) rfl (.cons (i := 25) rfl (.cons (i := 26) rfl (.cons (i := 27) rfl (.nil))))) ?_
        obtain ⟨o16, hF16, hF11⟩ := bnd hF11
        refine W.join3 (Em := fun (writes20 : (List Call)) (A18 : Option Addr) (c19 : Nat) => []) (M := fun writes20 A18 c19 => [cBx b10 220 (Value.slice A8 (r7.1).length c9 :: (Value.slice A18 (writes20).length c19 :: [])), cR encCall 7 A8 c9 51 r7.1, cR encCall 7 A18 c19 51 writes20]) (I := fun writes20 A18 c19 => (.inl writes20) = o16) (.cons (i := 7) rfl (.cons (i := 25) rfl (.cons (i := 26) rfl (.cons (i := 27) rfl (.nil))))) (fun K17 hK17 => ?_) ?_
        · -- up to
          refine W.block ?_
          -- region 7: regular.go:26
          refine W.seqR fun Q18 hQ18 => ?_
          obtain ⟨x21, hx21, hF16⟩ := bnd hF16
          refine WL.q (Y.rowEl Try.underlying44 cells51 (i := 1) rfl (.pl rfl) rfl (.pl rfl) (ix_lt (hx21))) rfl ?_
          refine WL.q (Y.loadRA (enc := encCall) (ds := (encCall x21)) (a := x21) (idx := v17) (j := 0) Try.underlying51 rfl cells51 lenCall (i := 1) rfl (.pl rfl) (ix_get (hx21)) rfl rfl subW) rfl ?_
          refine WL.step (WO.alloc (cs := (encCall (Call.mk 0 0 0 0 0 0 0)).toArray) zero51 rfl rfl fun b22 => ?_)
          refine WL.step (WO.storeBA (ds := (encCall x21)) (cs' := (encCall x21)) cells51 (.pl rfl) (.pl rfl) rfl (oneCall _) (i := 0) rfl (lel (o := 0) (l := 7) (m := 7) (by decide) rfl rfl) (putW rfl) ?_)
          refine WL.next hQ18 (.cons (i := 7) rfl (.cons (i := 9) rfl (.cons (i := 25) rfl (.cons (i := 26) rfl (.cons (i := 27) rfl (.nil)))))) ?_
          refine W.seq fun K19 hK19 => ?_
          -- region 8: regular.go:27
          refine W.seqR fun Q20 hQ20 => ?_
          refine WL.q (Y.fieldAddr0 (off := 2) (ft := 3) Try.underlying51 rfl cells3 (.pl rfl)) rfl ?_
          refine WL.q (Y.loadB (v := .int .i64 x21.kind) Try.underlying3 rfl (.pl rfl) (i := 0) rfl (rfl)) rfl ?_
          refine WL.q (Y.neq (.pl rfl) (.pl rfl)) rfl ?_
          refine WL.next hQ20 (.cons (i := 7) rfl (.cons (i := 9) rfl (.cons (i := 25) rfl (.cons (i := 26) rfl (.cons (i := 27) rfl (.cons (i := 33) rfl (.nil))))))) ?_
          refine W.cond (.pl rfl) (fun hC21 => ?_) (fun hC21 => ?_)
          · replace hF16 := cpos hC21 hF16
            refine W.exit ?_
            exact W.joinAt3 hK17 writes16 A14 c15 (Option.some.inj hF16) (.nil) (.cons (i := 7) rfl (.cons (i := 25) rfl (.cons (i := 26) rfl (.cons (i := 27) rfl (.nil))))) (fun wz hw => hw.pick [1, 2, 3] rfl)
          · replace hF16 := cneg hC21 hF16
            refine W.skip ?_
            refine W.go hK19 (.cons (i := 7) rfl (.cons (i := 9) rfl (.cons (i := 25) rfl (.cons (i := 26) rfl (.cons (i := 27) rfl (.nil)))))) ?_
            obtain ⟨o22, hF22, hF16⟩ := bnd hF16
            refine W.join0 (Em := []) (M := [cBx b10 220 (Value.slice A8 (r7.1).length c9 :: (Value.slice A14 (writes16).length c15 :: [])), cR encCall 7 A8 c9 51 r7.1, cR encCall 7 A14 c15 51 writes16, cBx b22 51 (encCall x21)]) (I := (.inl ()) = o22) (.cons (i := 7) rfl (.cons (i := 9) rfl (.cons (i := 25) rfl (.cons (i := 26) rfl (.cons (i := 27) rfl (.nil)))))) (fun K23 hK23 => ?_) ?_
            · -- up to
              -- region 9: regular.go:30
              refine W.seqR fun Q24 hQ24 => ?_
              refine WL.q (Y.move (.pl rfl)) rfl ?_
              refine WL.q (Y.nilCheck (.pl rfl)) rfl ?_
              refine WL.q (Y.fieldAddr0 (off := 1) (ft := 44) Try.underlying220 rfl cells44 (.pl rfl)) rfl ?_
              refine WL.q (Y.loadB (v := .slice A14 (writes16).length c15) Try.underlying44 rfl (.pl rfl) (i := 1) rfl (rfl)) rfl ?_
              refine WL.q (Y.len Try.underlying44 (.pl rfl)) rfl ?_
              refine WL.q (Y.move (.pl rfl)) rfl ?_
              refine WL.next hQ24 (.cons (i := 7) rfl (.cons (i := 9) rfl (.cons (i := 25) rfl (.cons (i := 26) rfl (.cons (i := 27) rfl (.cons (i := 37) rfl (.cons (i := 38) rfl (.cons (i := 39) rfl (.nil))))))))) ?_
              refine W.block ?_
              refine W.loop1 (Em := fun (v23 : Int) => [(39, .int .i64 v23)]) (M := fun v23 => [cBx b10 220 (Value.slice A8 (r7.1).length c9 :: (Value.slice A14 (writes16).length c15 :: [])), cR encCall 7 A8 c9 51 r7.1, cR encCall 7 A14 c15 51 writes16, cBx b22 51 (encCall x21)]) (I := fun v23 k25 => iter (regular_read_L51 N writes16 x21) k25 v23 = some o22) 0 N (hF22) (.cons rfl (.nil)) (.cons (i := 7) rfl (.cons (i := 9) rfl (.cons (i := 25) rfl (.cons (i := 26) rfl (.cons (i := 27) rfl (.cons (i := 37) rfl (.cons (i := 38) rfl (.nil)))))))) (fun wz hw => hw.pick [1, 2, 3, 0] rfl) (fun v23 k25 hI K26 hK26 => ?_)
              obtain ⟨k25, t25, rfl, hF25, hN25⟩ := iter_step hI
              -- region 10: regular.go:30
              refine W.seqR fun Q27 hQ27 => ?_
              refine WL.q (Y.lss (.pl rfl) (.pl rfl)) rfl ?_
              refine WL.next hQ27 (.cons (i := 7) rfl (.cons (i := 9) rfl (.cons (i := 25) rfl (.cons (i := 26) rfl (.cons (i := 27) rfl (.cons (i := 37) rfl (.cons (i := 38) rfl (.cons (i := 39) rfl (.cons (i := 40) rfl (.nil)))))))))) ?_
              refine W.seq fun K28 hK28 => ?_
              refine W.cond (.pl rfl) (fun hC29 => ?_) (fun hC29 => ?_)
              · replace hF25 := cpos hC29 hF25
                refine W.skip ?_
                refine W.go hK28 (.cons (i := 7) rfl (.cons (i := 9) rfl (.cons (i := 25) rfl (.cons (i := 26) rfl (.cons (i := 27) rfl (.cons (i := 37) rfl (.cons (i := 38) rfl (.cons (i := 39) rfl (.nil))))))))) ?_
                refine W.seq fun K30 hK30 => ?_
                refine W.block ?_
                -- region 11: regular.go:30
                refine W.seqR fun Q31 hQ31 => ?_
                obtain ⟨x24, hx24, hF25⟩ := bnd hF25
                refine WL.q (Y.rowEl Try.underlying44 cells51 (i := 2) rfl (.pl rfl) rfl (.pl rfl) (ix_lt (hx24))) rfl ?_
                refine WL.q (Y.loadRA (enc := encCall) (ds := (encCall x24)) (a := x24) (idx := v23) (j := 0) Try.underlying51 rfl cells51 lenCall (i := 2) rfl (.pl rfl) (ix_get (hx24)) rfl rfl subW) rfl ?_
                refine WL.step (WO.alloc (cs := (encCall (Call.mk 0 0 0 0 0 0 0)).toArray) zero51 rfl rfl fun b25 => ?_)
                refine WL.step (WO.storeBA (ds := (encCall x24)) (cs' := (encCall x24)) cells51 (.pl rfl) (.pl rfl) rfl (oneCall _) (i := 0) rfl (lel (o := 0) (l := 7) (m := 7) (by decide) rfl rfl) (putW rfl) ?_)
                refine WL.next hQ31 (.cons (i := 7) rfl (.cons (i := 9) rfl (.cons (i := 11) rfl (.cons (i := 25) rfl (.cons (i := 26) rfl (.cons (i := 27) rfl (.cons (i := 37) rfl (.cons (i := 38) rfl (.cons (i := 39) rfl (.nil)))))))))) ?_
                -- region 12: regular.go:31
                refine W.seqR fun Q32 hQ32 => ?_
                refine WL.q (Y.fieldAddr0 (off := 3) (ft := 3) Try.underlying51 rfl cells3 (.pl rfl)) rfl ?_
                refine WL.q (Y.loadB (v := .int .i64 x24.arg) Try.underlying3 rfl (.pl rfl) (i := 0) rfl (rfl)) rfl ?_
                refine WL.q (Y.fieldAddr0 (off := 3) (ft := 3) Try.underlying51 rfl cells3 (.pl rfl)) rfl ?_
                refine WL.q (Y.loadB (v := .int .i64 x21.arg) Try.underlying3 rfl (.pl rfl) (i := 4) rfl (rfl)) rfl ?_
                refine WL.q (Y.eql (.pl rfl) (.pl rfl)) rfl ?_
                refine WL.q (Y.move (.pl rfl)) rfl ?_
                refine WL.g (.pl rfl rfl rfl) (fun hg => Y.loadBA (ds := (encCall x24)) Try.underlying51 rfl cells51 (.pl rfl) (i := 0) rfl rfl subW) rfl ?_
                refine WL.g (.pl rfl rfl rfl) (fun hg => Y.loadBA (ds := (encCall x21)) Try.underlying51 rfl cells51 (.pl rfl) (i := 4) rfl rfl subW) rfl ?_
                obtain ⟨r26, hr26, hF25⟩ := bnd hF25
                refine WL.gP (.pl rfl rfl rfl) isGo112 (fun hg => (.cons (.gd (hg) rfl) (.cons (.gd (hg) rfl) (.nil)))) rfl (fun hg wz hw => regular_precedes_ok (gpos hg hr26) wz ) ?_
                refine WL.g (.pl rfl rfl rfl) (fun hg => Y.not (.gd (hg) rfl)) rfl ?_
                refine WL.q (Y.or (.pl rfl) (fun h2 => .gd (eqf h2) rfl)) rfl ?_
                refine WL.next hQ32 (.cons (i := 7) rfl (.cons (i := 9) rfl (.cons (i := 25) rfl (.cons (i := 26) rfl (.cons (i := 27) rfl (.cons (i := 37) rfl (.cons (i := 38) rfl (.cons (i := 39) rfl (.cons (i := 53) rfl (.nil)))))))))) ?_
                refine W.cond (.pl rfl) (fun hC33 => ?_) (fun hC33 => ?_)
                · replace hF25 := cpos hC33 hF25
                  -- region 13: regular.go:32
                  refine W.seqR fun Q34 hQ34 => ?_
                  refine WL.q (Y.assign (.pl rfl)) rfl ?_
                  refine WL.q (Y.assign (.pl rfl)) rfl ?_
                  refine WL.next hQ34 (.cons (i := 2) rfl (.cons (i := 3) rfl (.nil))) ?_
                  obtain rfl := Option.some.inj hF25
                  obtain rfl := einr hN25
                  obtain rfl := Option.some.inj hF16
                  obtain rfl := Option.some.inj hF11
                  obtain rfl := einr hN11
                  obtain rfl := Option.some.inj hF
                  refine W.retV (fn := Try.f77) (vs := [.pointer none, .int .i64 6]) Try.results77 ⟨.tmp rfl, ⟨.tmp rfl, trivial⟩⟩ (fun _ _ h => h) (fun wz hw => ?_)
                  exact hR _ _ ⟨(none, none, 0, none, 0), rfl, rfl, ((St.nilR (St.nilR (St.nilO (hw.pick [] rfl) 220 (Value.slice none 0 0 :: (Value.slice none 0 0 :: []))) encCall 7 51) encCall 7 51).pick [2, 1, 0] rfl)⟩
                · replace hF25 := cneg hC33 hF25
                  refine W.skip ?_
                  refine W.go hK30 (.cons (i := 7) rfl (.cons (i := 9) rfl (.cons (i := 25) rfl (.cons (i := 26) rfl (.cons (i := 27) rfl (.cons (i := 37) rfl (.cons (i := 38) rfl (.cons (i := 39) rfl (.nil))))))))) ?_
                  -- region 14: regular.go:30
                  refine W.reg ?_
                  obtain ⟨hk27, hF25⟩ := ckh hF25
                  refine WL.q (Y.add (.pl rfl) (.pl rfl) (ok64_lt (hk27))) rfl ?_
                  refine WL.q (Y.move (.pl rfl)) rfl ?_
                  refine WL.nil ?_
                  obtain rfl := Option.some.inj hF25
                  exact W.again1 hK26 (v23 + 1) k25 hN25 (Nat.lt_succ_self _) (.cons rfl (.nil)) (.cons (i := 7) rfl (.cons (i := 9) rfl (.cons (i := 25) rfl (.cons (i := 26) rfl (.cons (i := 27) rfl (.cons (i := 37) rfl (.cons (i := 38) rfl (.nil)))))))) (fun wz hw => hw.pick [1, 2, 3, 4] rfl)
              · replace hF25 := cneg hC29 hF25
                refine W.exit ?_
                obtain rfl := Option.some.inj hF25
                exact W.joinAt0 hK23  (einr hN25) (.nil) (.cons (i := 7) rfl (.cons (i := 9) rfl (.cons (i := 25) rfl (.cons (i := 26) rfl (.cons (i := 27) rfl (.nil)))))) (fun wz hw => hw.pick [0, 1, 2, 3] rfl)
            · -- behind
              rintro  rfl
              -- region 15: regular.go:35
              refine W.regX 7 (by kernel_rfl) ?_
              refine WX.pure 0 #[true, false, false, false, false, false, false, false, false, false, false] rfl (by kernel_rfl) (fun _ _ => Y.move (.pl rfl)) rfl ?_
              refine WX.pure 1 #[true, true, false, false, false, false, false, false, false, false, false] rfl (by kernel_rfl) (fun _ _ => Y.move (.pl rfl)) rfl ?_
              refine WX.pure 2 #[true, true, true, false, false, false, false, false, false, false, false] rfl (by kernel_rfl) (fun _ _ => Y.nilCheck (.pl rfl)) rfl ?_
              refine WX.pure 3 #[true, true, true, true, false, false, false, false, false, false, false] rfl (by kernel_rfl) (fun _ _ => Y.fieldAddr0 (off := 1) (ft := 44) Try.underlying220 rfl cells44 (.pl rfl)) rfl ?_
              refine WX.take 4 #[true, true, true, true, true, false, false, false, false, false, false] (fun wz hw => St.tail [] hw) rfl (by kernel_rfl) (Y.loadB (v := .slice A14 (writes16).length c15) Try.underlying44 rfl (.pl rfl) (i := 0) rfl (rfl)) rfl ?_
              refine WX.take 5 #[true, true, true, true, true, true, false, false, false, false, false] (fun wz hw => St.tail [] hw) rfl (by kernel_rfl) (Y.loadBA (ds := (encCall x21)) Try.underlying51 rfl cells51 (.pl rfl) (i := 3) rfl rfl subW) rfl ?_
              refine WX.one 6 #[true, true, true, true, true, true, true, false, false, false, false] (fun wz hw => St.tail [] hw) rfl (by kernel_rfl) (WO.bsliceC (enc := encCall) (ys := ([x21] : List Call)) Try.underlying44 bz51 (.cons (.pl rfl) (.nil)) rfl lenCall rfl rfl (by decide) (by decide) rfl fun b28 => ?_)
              obtain ⟨hk31, hF16⟩ := ckh hF16
              refine WX.stop #[true, true, true, true, true, true, true, true, false, false, false] (fun wz hw => St.tail [_] hw) rfl (by kernel_rfl) (WO.appendC (enc := encCall) Try.underlying44 ap51 lenCall oneCall (.pl rfl) rfl (.pl rfl) (i := 3) rfl (m2 := 0) rfl (hk31) rfl fun A29 c30 => ?_)
              refine WA.take 8 #[true, true, true, true, true, true, true, true, true, false, false] rfl (by kernel_rfl) (fun _ _ => Y.nilCheck (.pl rfl)) rfl ?_
              refine WA.take 9 #[true, true, true, true, true, true, true, true, true, true, false] rfl (by kernel_rfl) (fun _ _ => Y.fieldAddr0 (off := 1) (ft := 44) Try.underlying220 rfl cells44 (.pl rfl)) rfl ?_
              refine WA.branch [10] (by kernel_rfl) ⟨?_, trivial⟩
              refine WI.step #[true, true, true, true, true, true, true, true, true, true, true] rfl rfl (WO.storeB (cs' := (Value.slice A8 (r7.1).length c9 :: (Value.slice A29 ((writes16 ++ ([x21] : List Call))).length c30 :: []))) cells44 (.pl rfl) (.pl rfl) rfl (i := 1) rfl (ltl (m := 2) (by decide) rfl) (rfl) ?_)
              refine WA.done (by kernel_rfl) ?_
              exact W.joinAt3 hK17 (writes16 ++ ([x21] : List Call)) A29 c30 (Option.some.inj hF16) (.nil) (.cons (i := 7) rfl (.cons (i := 25) rfl (.cons (i := 26) rfl (.cons (i := 27) rfl (.nil))))) (fun wz hw => hw.pick [1, 2, 3] rfl)
        · -- behind
          rintro writes20 A18 c19 rfl
          -- region 16: regular.go:26
          refine W.reg ?_
          obtain ⟨hk32, hF11⟩ := ckh hF11
          refine WL.q (Y.add (.pl rfl) (.pl rfl) (ok64_lt (hk32))) rfl ?_
          refine WL.q (Y.move (.pl rfl)) rfl ?_
          refine WL.nil ?_
          obtain rfl := Option.some.inj hF11
          exact W.again4 hK12 writes20 (v17 + 1) A18 c19 k11 hN11 (Nat.lt_succ_self _) (.cons rfl (.nil)) (.cons (i := 7) rfl (.cons (i := 25) rfl (.cons (i := 26) rfl (.nil)))) (fun wz hw => hw.pick [0, 1, 2] rfl)
      · replace hF11 := cneg hC15 hF11
        refine W.exit ?_
        obtain rfl := Option.some.inj hF11
        exact W.joinAt3 hK9 writes16 A14 c15 (einr hN11) (.nil) (.cons (i := 7) rfl (.nil)) (fun wz hw => hw.pick [0, 1, 2] rfl)
    · -- behind
      rintro writes13 A11 c12 rfl
      -- region 17: regular.go:37
      refine W.seqR fun Q38 hQ38 => ?_
      refine WL.q (Y.move (.pl rfl)) rfl ?_
      refine WL.q (Y.assign (.pl rfl)) rfl ?_
      refine WL.q (Y.assign (.pl rfl)) rfl ?_
      refine WL.next hQ38 (.cons (i := 2) rfl (.cons (i := 3) rfl (.nil))) ?_
      obtain rfl := Option.some.inj hF
      refine W.retV (fn := Try.f77) (vs := [.pointer (some ⟨b10, 0, none⟩), .int .i64 0]) Try.results77 ⟨.tmp rfl, ⟨.tmp rfl, trivial⟩⟩ (fun _ _ h => h) (fun wz hw => ?_)
      exact hR _ _ ⟨((some b10), A8, c9, A11, c12), rfl, rfl, (hw.pick [0, 1, 2] rfl)⟩

def regular_log_reads_L51 (N : Nat) (writes7 : (List Call)) (x18 : Call) : (Int × Int × (List (Int × Bool)) × Int) → Option ((Int × Int × (List (Int × Bool)) × Int) ⊕ (Int × Int × (List (Int × Bool))))
  | (write26, last27, overlaps28, v29) =>
    cond (decide (v29 < ((writes7).length : Int)))
      (bd (ix writes7 v29) fun (x30 : Call) =>
      bd (α := Int) (cond (decide (x30.arg = x18.res))
          (ck (ok64 (v29 + 1)) <|
          some (v29 + 1))
          (some write26)) <|
      fun (write32 : Int) => 
        bd (regular_precedes N x30 x18) fun (r34 : Unit) =>
        cond ((!(decide (x30.to_ = (-1)))) && (decide (x30.to_ < x18.from_)))
          (ck (ok64 (v29 + 1)) <|
          ck (ok64 (v29 + 1)) <|
          some (.inl (write32, (v29 + 1), overlaps28, (v29 + 1))))
          (bd (regular_precedes N x18 x30) fun (r37 : Unit) =>
          cond (!((!(decide (x18.to_ = (-1)))) && (decide (x18.to_ < x30.from_))))
            (ck (ok64 (v29 + 1)) <|
            ck (ok64 (v29 + 1)) <|
            some (.inl (write32, last27, (mput overlaps28 (v29 + 1) true), (v29 + 1))))
            (ck (ok64 (v29 + 1)) <|
            some (.inl (write32, last27, overlaps28, (v29 + 1))))))
      (some (.inr (write26, last27, overlaps28)))

def regular_log_reads_L47 (N : Nat) (calls4 : (List Call)) (writes7 : (List Call)) : ((List RegularJudged) × Int) → Option (((List RegularJudged) × Int) ⊕ (List RegularJudged))
  | (out13, v14) =>
    cond (decide (v14 < ((calls4).length : Int)))
      (bd (α := (List RegularJudged)) (bd (ix calls4 v14) fun (x18 : Call) =>
        cond ((!(decide (x18.kind = 2))) || (decide (x18.to_ = (-1))))
          (some out13)
          (bd (α := Int) (cond (decide (x18.res = 0))
              (some 0)
              (some (-1))) <|
          fun (write21 : Int) => 
            bd (α := (Int × Int × (List (Int × Bool)))) (iter (regular_log_reads_L51 N writes7 x18) N (write21, 0, ([] : List (Int × Bool)), 0)) <|
            fun (write23, last24, overlaps25) => 
              ck (limB 24 ((out13).length + (([(RegularJudged.mk v14 write23 ((decide (0 ≤ write23)) && ((decide (write23 = last24)) || ((mget overlaps25 write23).getD false))) (((decide (0 ≤ write23)) && ((decide (write23 = last24)) || ((mget overlaps25 write23).getD false))) || (decide (0 < ((overlaps25).length : Int)))))] : List RegularJudged)).length)) <|
              some (out13 ++ ([(RegularJudged.mk v14 write23 ((decide (0 ≤ write23)) && ((decide (write23 = last24)) || ((mget overlaps25 write23).getD false))) (((decide (0 ≤ write23)) && ((decide (write23 = last24)) || ((mget overlaps25 write23).getD false))) || (decide (0 < ((overlaps25).length : Int)))))] : List RegularJudged)))) <|
      fun (out17 : (List RegularJudged)) => 
        ck (ok64 (v14 + 1)) <|
        some (.inl (out17, (v14 + 1))))
      (some (.inr out13))

def regular_log_reads (N : Nat) (calls4 : (List Call)) (writes7 : (List Call)) : Option (List RegularJudged) :=
  bd (α := (List RegularJudged)) (iter (regular_log_reads_L47 N calls4 writes7) N ([], 0)) <|
  fun (out10 : (List RegularJudged)) => 
    some out10

theorem regular_log_reads_ok {N : Nat} {calls4 : (List Call)} {writes7 : (List Call)} {b1 : Nat} {A2 : Option Addr} {c3 : Nat} {A5 : Option Addr} {c6 : Nat} {res : (List RegularJudged)} (hF : regular_log_reads N calls4 writes7 = some res) {w0 w : World} {T : List Chunk} (hw : St w0.heap.size w0 ([cBx b1 220 (Value.slice A2 (calls4).length c3 :: (Value.slice A5 (writes7).length c6 :: [])), cR encCall 7 A2 c3 51 calls4, cR encCall 7 A5 c6 51 writes7] ++ T) w) :
    Calls Try.prog 79 (List.toArray [.pointer (some ⟨b1, 0, none⟩)]) w (fun e w' => ∃ g : (Option Addr × Nat), (True) ∧ e = .returned (.slice g.1 (res).length g.2) ∧ St w0.heap.size w0 ([cBx b1 220 (Value.slice A2 (calls4).length c3 :: (Value.slice A5 (writes7).length c6 :: [])), cR encCall 7 A2 c3 51 calls4, cR encCall 7 A5 c6 51 writes7, cR encRegularJudged 4 g.1 g.2 159 res] ++ T) w') := by
  refine W.enter (n := 99) Try.func79 rfl rfl Sub.refl (by simp) hw fun R hR => ?_
  unfold regular_log_reads at hF
  -- region 0: regular.go:49
  refine W.seqR fun Q1 hQ1 => ?_
  refine WL.q (Y.assign (.pl rfl)) rfl ?_
  refine WL.next hQ1 (.cons (i := 0) rfl (.nil)) ?_
  -- region 1: regular.go:50
  refine W.seqR fun Q2 hQ2 => ?_
  refine WL.q (Y.assign (.pl rfl)) rfl ?_
  refine WL.next hQ2 (.cons (i := 0) rfl (.cons (i := 3) rfl (.nil))) ?_
  obtain ⟨o3, hF3, hF⟩ := bnd hF
  refine W.join3 (Em := fun (out10 : (List RegularJudged)) (A8 : Option Addr) (c9 : Nat) => [(3, .slice A8 (out10).length c9)]) (M := fun out10 A8 c9 => ([cBx b1 220 (Value.slice A2 (calls4).length c3 :: (Value.slice A5 (writes7).length c6 :: [])), cR encCall 7 A2 c3 51 calls4, cR encCall 7 A5 c6 51 writes7, cR encRegularJudged 4 A8 c9 159 out10] ++ T)) (I := fun out10 A8 c9 => out10 = o3) (.nil) (fun K4 hK4 => ?_) ?_
  · -- up to
    -- region 2: regular.go:51
    refine W.seqR fun Q5 hQ5 => ?_
    refine WL.q (Y.move (.pl rfl)) rfl ?_
    refine WL.q (Y.nilCheck (.pl rfl)) rfl ?_
    refine WL.q (Y.fieldAddr0 (off := 0) (ft := 44) Try.underlying220 rfl cells44 (.pl rfl)) rfl ?_
    refine WL.q (Y.loadB (v := .slice A2 (calls4).length c3) Try.underlying44 rfl (.pl rfl) (i := 0) rfl (rfl)) rfl ?_
    refine WL.q (Y.len Try.underlying44 (.pl rfl)) rfl ?_
    refine WL.q (Y.move (.pl rfl)) rfl ?_
    refine WL.next hQ5 (.cons (i := 0) rfl (.cons (i := 3) rfl (.cons (i := 14) rfl (.cons (i := 15) rfl (.cons (i := 16) rfl (.nil)))))) ?_
    refine W.block ?_
    refine W.loop4 (Em := fun (out13 : (List RegularJudged)) (v14 : Int) (A11 : Option Addr) (c12 : Nat) => [(3, .slice A11 (out13).length c12), (16, .int .i64 v14)]) (M := fun out13 v14 A11 c12 => ([cBx b1 220 (Value.slice A2 (calls4).length c3 :: (Value.slice A5 (writes7).length c6 :: [])), cR encCall 7 A2 c3 51 calls4, cR encCall 7 A5 c6 51 writes7, cR encRegularJudged 4 A11 c12 159 out13] ++ T)) (I := fun out13 v14 A11 c12 k6 => iter (regular_log_reads_L47 N calls4 writes7) k6 (out13, v14) = some o3) [] 0 none 0 N (hF3) (.cons rfl (.cons rfl (.nil))) (.cons (i := 0) rfl (.cons (i := 14) rfl (.cons (i := 15) rfl (.nil)))) (fun wz hw => (St.nilR (hw.pickK 3 [0, 1, 2] rfl) encRegularJudged 4 159).pickK 4 [1, 2, 3, 0] rfl) (fun out13 v14 A11 c12 k6 hI K7 hK7 => ?_)
    obtain ⟨k6, t6, rfl, hF6, hN6⟩ := iter_step hI
    -- region 3: regular.go:51
    refine W.seqR fun Q8 hQ8 => ?_
    refine WL.q (Y.lss (.pl rfl) (.pl rfl)) rfl ?_
    refine WL.next hQ8 (.cons (i := 0) rfl (.cons (i := 3) rfl (.cons (i := 14) rfl (.cons (i := 15) rfl (.cons (i := 16) rfl (.cons (i := 17) rfl (.nil))))))) ?_
    refine W.seq fun K9 hK9 => ?_
    refine W.cond (.pl rfl) (fun hC10 => ?_) (fun hC10 => ?_)
    · replace hF6 := cpos hC10 hF6
      refine W.skip ?_
      refine W.go hK9 (.cons (i := 0) rfl (.cons (i := 3) rfl (.cons (i := 14) rfl (.cons (i := 15) rfl (.cons (i := 16) rfl (.nil)))))) ?_
      obtain ⟨o11, hF11, hF6⟩ := bnd hF6
      refine W.join3 (Em := fun (out17 : (List RegularJudged)) (A15 : Option Addr) (c16 : Nat) => [(3, .slice A15 (out17).length c16)]) (M := fun out17 A15 c16 => ([cBx b1 220 (Value.slice A2 (calls4).length c3 :: (Value.slice A5 (writes7).length c6 :: [])), cR encCall 7 A2 c3 51 calls4, cR encCall 7 A5 c6 51 writes7, cR encRegularJudged 4 A15 c16 159 out17] ++ T)) (I := fun out17 A15 c16 => out17 = o11) (.cons (i := 0) rfl (.cons (i := 14) rfl (.cons (i := 15) rfl (.cons (i := 16) rfl (.nil))))) (fun K12 hK12 => ?_) ?_
      · -- up to
        refine W.block ?_
        -- region 4: regular.go:51
        refine W.seqR fun Q13 hQ13 => ?_
        refine WL.q (Y.move (.pl rfl)) rfl ?_
        obtain ⟨x18, hx18, hF11⟩ := bnd hF11
        refine WL.q (Y.rowEl Try.underlying44 cells51 (i := 1) rfl (.pl rfl) rfl (.pl rfl) (ix_lt (hx18))) rfl ?_
        refine WL.q (Y.loadRA (enc := encCall) (ds := (encCall x18)) (a := x18) (idx := v14) (j := 0) Try.underlying51 rfl cells51 lenCall (i := 1) rfl (.pl rfl) (ix_get (hx18)) rfl rfl subW) rfl ?_
        refine WL.step (WO.alloc (cs := (encCall (Call.mk 0 0 0 0 0 0 0)).toArray) zero51 rfl rfl fun b19 => ?_)
        refine WL.q (Y.assign (.pl rfl)) rfl ?_
        refine WL.step (WO.storeBA (ds := (encCall x18)) (cs' := (encCall x18)) cells51 (.pl rfl) (.pl rfl) rfl (oneCall _) (i := 0) rfl (lel (o := 0) (l := 7) (m := 7) (by decide) rfl rfl) (putW rfl) ?_)
        refine WL.next hQ13 (.cons (i := 0) rfl (.cons (i := 3) rfl (.cons (i := 4) rfl (.cons (i := 5) rfl (.cons (i := 14) rfl (.cons (i := 15) rfl (.cons (i := 16) rfl (.nil)))))))) ?_
        refine W.seq fun K14 hK14 => ?_
        -- region 5: regular.go:52
        refine W.seqR fun Q15 hQ15 => ?_
        refine WL.q (Y.fieldAddr0 (off := 2) (ft := 3) Try.underlying51 rfl cells3 (.pl rfl)) rfl ?_
        refine WL.q (Y.loadB (v := .int .i64 x18.kind) Try.underlying3 rfl (.pl rfl) (i := 0) rfl (rfl)) rfl ?_
        refine WL.q (Y.neq (.pl rfl) (.pl rfl)) rfl ?_
        refine WL.q (Y.move (.pl rfl)) rfl ?_
        refine WL.g (.pl rfl rfl rfl) (fun hg => Y.fieldAddr0 (off := 6) (ft := 3) Try.underlying51 rfl cells3 (.pl rfl)) rfl ?_
        refine WL.g (.pl rfl rfl rfl) (fun hg => Y.loadB (v := .int .i64 x18.to_) Try.underlying3 rfl (.gd (hg) rfl) (i := 0) rfl (rfl)) rfl ?_
        refine WL.g (.pl rfl rfl rfl) (fun hg => Y.eql (.gd (hg) rfl) (.pl rfl)) rfl ?_
        refine WL.q (Y.or (.pl rfl) (fun h2 => .gd (eqf h2) rfl)) rfl ?_
        refine WL.next hQ15 (.cons (i := 0) rfl (.cons (i := 3) rfl (.cons (i := 4) rfl (.cons (i := 5) rfl (.cons (i := 14) rfl (.cons (i := 15) rfl (.cons (i := 16) rfl (.cons (i := 28) rfl (.nil))))))))) ?_
        refine W.cond (.pl rfl) (fun hC16 => ?_) (fun hC16 => ?_)
        · replace hF11 := cpos hC16 hF11
          refine W.exit ?_
          exact W.joinAt3 hK12 out13 A11 c12 (Option.some.inj hF11) (.cons rfl (.nil)) (.cons (i := 0) rfl (.cons (i := 14) rfl (.cons (i := 15) rfl (.cons (i := 16) rfl (.nil))))) (fun wz hw => hw.pickK 5 [1, 2, 3, 4] rfl)
        · replace hF11 := cneg hC16 hF11
          refine W.skip ?_
          refine W.go hK14 (.cons (i := 0) rfl (.cons (i := 3) rfl (.cons (i := 4) rfl (.cons (i := 5) rfl (.cons (i := 14) rfl (.cons (i := 15) rfl (.cons (i := 16) rfl (.nil)))))))) ?_
          -- region 6: regular.go:55
          refine W.seqR fun Q17 hQ17 => ?_
          refine WL.q (Y.move (.pl rfl)) rfl ?_
          refine WL.q (Y.build (cs := (encRegularJudged (RegularJudged.mk v14 (-1) false false)).toArray) shape159 (.cons (.pl rfl) (.cons (.pl rfl) (.nil))) (one_parts ⟨rfl, ⟨rfl, trivial⟩⟩) rfl) rfl ?_
          refine WL.step (WO.alloc (cs := (encRegularJudged (RegularJudged.mk 0 0 false false)).toArray) zero159 rfl rfl fun b20 => ?_)
          refine WL.step (WO.storeBA (ds := (encRegularJudged (RegularJudged.mk v14 (-1) false false))) (cs' := (encRegularJudged (RegularJudged.mk v14 (-1) false false))) cells159 (.pl rfl) (.pl rfl) rfl (oneRegularJudged _) (i := 0) rfl (lel (o := 0) (l := 4) (m := 4) (by decide) rfl rfl) (putW rfl) ?_)
          refine WL.next hQ17 (.cons (i := 0) rfl (.cons (i := 3) rfl (.cons (i := 5) rfl (.cons (i := 6) rfl (.cons (i := 14) rfl (.cons (i := 15) rfl (.cons (i := 16) rfl (.nil)))))))) ?_
          obtain ⟨o18, hF18, hF11⟩ := bnd hF11
          refine W.join1 (Em := fun (write21 : Int) => []) (M := fun write21 => ([cBx b1 220 (Value.slice A2 (calls4).length c3 :: (Value.slice A5 (writes7).length c6 :: [])), cR encCall 7 A2 c3 51 calls4, cR encCall 7 A5 c6 51 writes7, cR encRegularJudged 4 A11 c12 159 out13, cBx b19 51 (encCall x18), cBx b20 159 (encRegularJudged (RegularJudged.mk v14 write21 false false))] ++ T)) (I := fun write21 => write21 = o18) (.cons (i := 0) rfl (.cons (i := 3) rfl (.cons (i := 5) rfl (.cons (i := 6) rfl (.cons (i := 14) rfl (.cons (i := 15) rfl (.cons (i := 16) rfl (.nil)))))))) (fun K19 hK19 => ?_) ?_
          · -- up to
            -- region 7: regular.go:56
            refine W.seqR fun Q20 hQ20 => ?_
            refine WL.q (Y.fieldAddr0 (off := 4) (ft := 3) Try.underlying51 rfl cells3 (.pl rfl)) rfl ?_
            refine WL.q (Y.loadB (v := .int .i64 x18.res) Try.underlying3 rfl (.pl rfl) (i := 1) rfl (rfl)) rfl ?_
            refine WL.q (Y.eql (.pl rfl) (.pl rfl)) rfl ?_
            refine WL.next hQ20 (.cons (i := 0) rfl (.cons (i := 3) rfl (.cons (i := 5) rfl (.cons (i := 6) rfl (.cons (i := 14) rfl (.cons (i := 15) rfl (.cons (i := 16) rfl (.cons (i := 33) rfl (.nil))))))))) ?_
            refine W.cond (.pl rfl) (fun hC21 => ?_) (fun hC21 => ?_)
            · replace hF18 := cpos hC21 hF18
              -- region 8: regular.go:57
              refine W.reg ?_
              refine WL.q (Y.fieldAddr0 (off := 1) (ft := 3) Try.underlying159 rfl cells3 (.pl rfl)) rfl ?_
              refine WL.step (WO.storeB (cs' := (encRegularJudged (RegularJudged.mk v14 0 false false))) cells3 (.pl rfl) (.pl rfl) rfl (i := 0) rfl (ltl (m := 4) (by decide) rfl) (rfl) ?_)
              refine WL.nil ?_
              exact W.joinAt1 hK19 0 (Option.some.inj hF18) (.nil) (.cons (i := 0) rfl (.cons (i := 3) rfl (.cons (i := 5) rfl (.cons (i := 6) rfl (.cons (i := 14) rfl (.cons (i := 15) rfl (.cons (i := 16) rfl (.nil)))))))) (fun wz hw => hw.pickK 6 [2, 3, 4, 5, 1, 0] rfl)
            · replace hF18 := cneg hC21 hF18
              refine W.skip ?_
              exact W.joinAt1 hK19 (-1) (Option.some.inj hF18) (.nil) (.cons (i := 0) rfl (.cons (i := 3) rfl (.cons (i := 5) rfl (.cons (i := 6) rfl (.cons (i := 14) rfl (.cons (i := 15) rfl (.cons (i := 16) rfl (.nil)))))))) (fun wz hw => hw.pickK 6 [2, 3, 4, 5, 1, 0] rfl)
          · -- behind
            rintro write21 rfl
            -- region 9: regular.go:59
            refine W.seqR fun Q23 hQ23 => ?_
            refine WL.q (Y.assign (.pl rfl)) rfl ?_
            refine WL.next hQ23 (.cons (i := 0) rfl (.cons (i := 3) rfl (.cons (i := 5) rfl (.cons (i := 6) rfl (.cons (i := 7) rfl (.cons (i := 14) rfl (.cons (i := 15) rfl (.cons (i := 16) rfl (.nil))))))))) ?_
            -- region 10: regular.go:60
            refine W.seqR fun Q24 hQ24 => ?_
            refine WL.step (WO.mmake Value.bool rfl fun b22 => ?_)
            refine WL.q (Y.assign (.pl rfl)) rfl ?_
            refine WL.next hQ24 (.cons (i := 0) rfl (.cons (i := 3) rfl (.cons (i := 5) rfl (.cons (i := 6) rfl (.cons (i := 7) rfl (.cons (i := 8) rfl (.cons (i := 14) rfl (.cons (i := 15) rfl (.cons (i := 16) rfl (.nil)))))))))) ?_
            obtain ⟨o25, hF25, hF11⟩ := bnd hF11
            refine W.join3 (Em := fun (write23 : Int) (last24 : Int) (overlaps25 : (List (Int × Bool))) => [(7, .int .i64 last24)]) (M := fun write23 last24 overlaps25 => ([cBx b1 220 (Value.slice A2 (calls4).length c3 :: (Value.slice A5 (writes7).length c6 :: [])), cR encCall 7 A2 c3 51 calls4, cR encCall 7 A5 c6 51 writes7, cR encRegularJudged 4 A11 c12 159 out13, cBx b20 159 (encRegularJudged (RegularJudged.mk v14 write23 false false)), cM Value.bool (some b22) overlaps25] ++ T)) (I := fun write23 last24 overlaps25 => (write23, last24, overlaps25) = o25) (.cons (i := 0) rfl (.cons (i := 3) rfl (.cons (i := 6) rfl (.cons (i := 8) rfl (.cons (i := 14) rfl (.cons (i := 15) rfl (.cons (i := 16) rfl (.nil)))))))) (fun K26 hK26 => ?_) ?_
            · -- up to
              -- region 11: regular.go:61
              refine W.seqR fun Q27 hQ27 => ?_
              refine WL.q (Y.move (.pl rfl)) rfl ?_
              refine WL.q (Y.nilCheck (.pl rfl)) rfl ?_
              refine WL.q (Y.fieldAddr0 (off := 1) (ft := 44) Try.underlying220 rfl cells44 (.pl rfl)) rfl ?_
              refine WL.q (Y.loadB (v := .slice A5 (writes7).length c6) Try.underlying44 rfl (.pl rfl) (i := 1) rfl (rfl)) rfl ?_
              refine WL.q (Y.len Try.underlying44 (.pl rfl)) rfl ?_
              refine WL.q (Y.move (.pl rfl)) rfl ?_
              refine WL.next hQ27 (.cons (i := 0) rfl (.cons (i := 3) rfl (.cons (i := 5) rfl (.cons (i := 6) rfl (.cons (i := 7) rfl (.cons (i := 8) rfl (.cons (i := 14) rfl (.cons (i := 15) rfl (.cons (i := 16) rfl (.cons (i := 39) rfl (.cons (i := 40) rfl (.cons (i := 41) rfl (.nil))))))))))))) ?_
              refine W.block ?_
              refine W.loop4 (Em := fun (write26 : Int) (last27 : Int) (overlaps28 : (List (Int × Bool))) (v29 : Int) => [(7, .int .i64 last27), (41, .int .i64 v29)]) (M := fun write26 last27 overlaps28 v29 => ([cBx b1 220 (Value.slice A2 (calls4).length c3 :: (Value.slice A5 (writes7).length c6 :: [])), cR encCall 7 A2 c3 51 calls4, cR encCall 7 A5 c6 51 writes7, cR encRegularJudged 4 A11 c12 159 out13, cBx b19 51 (encCall x18), cBx b20 159 (encRegularJudged (RegularJudged.mk v14 write26 false false)), cM Value.bool (some b22) overlaps28] ++ T)) (I := fun write26 last27 overlaps28 v29 k28 => iter (regular_log_reads_L51 N writes7 x18) k28 (write26, last27, overlaps28, v29) = some o25) write21 0 ([] : List (Int × Bool)) 0 N (hF25) (.cons rfl (.cons rfl (.nil))) (.cons (i := 0) rfl (.cons (i := 3) rfl (.cons (i := 5) rfl (.cons (i := 6) rfl (.cons (i := 8) rfl (.cons (i := 14) rfl (.cons (i := 15) rfl (.cons (i := 16) rfl (.cons (i := 39) rfl (.cons (i := 40) rfl (.nil))))))))))) (fun wz hw => hw.pickK 7 [1, 2, 3, 4, 5, 6, 0] rfl) (fun write26 last27 overlaps28 v29 k28 hI K29 hK29 => ?_)
              obtain ⟨k28, t28, rfl, hF28, hN28⟩ := iter_step hI
              -- region 12: regular.go:61
              refine W.seqR fun Q30 hQ30 => ?_
              refine WL.q (Y.lss (.pl rfl) (.pl rfl)) rfl ?_
              refine WL.next hQ30 (.cons (i := 0) rfl (.cons (i := 3) rfl (.cons (i := 5) rfl (.cons (i := 6) rfl (.cons (i := 7) rfl (.cons (i := 8) rfl (.cons (i := 14) rfl (.cons (i := 15) rfl (.cons (i := 16) rfl (.cons (i := 39) rfl (.cons (i := 40) rfl (.cons (i := 41) rfl (.cons (i := 42) rfl (.nil)))))))))))))) ?_
              refine W.seq fun K31 hK31 => ?_
              refine W.cond (.pl rfl) (fun hC32 => ?_) (fun hC32 => ?_)
              · replace hF28 := cpos hC32 hF28
                refine W.skip ?_
                refine W.go hK31 (.cons (i := 0) rfl (.cons (i := 3) rfl (.cons (i := 5) rfl (.cons (i := 6) rfl (.cons (i := 7) rfl (.cons (i := 8) rfl (.cons (i := 14) rfl (.cons (i := 15) rfl (.cons (i := 16) rfl (.cons (i := 39) rfl (.cons (i := 40) rfl (.cons (i := 41) rfl (.nil))))))))))))) ?_
                refine W.seq fun K33 hK33 => ?_
                refine W.block ?_
                -- region 13: regular.go:61
                refine W.seqR fun Q34 hQ34 => ?_
                refine WL.q (Y.move (.pl rfl)) rfl ?_
                obtain ⟨x30, hx30, hF28⟩ := bnd hF28
                refine WL.q (Y.rowEl Try.underlying44 cells51 (i := 2) rfl (.pl rfl) rfl (.pl rfl) (ix_lt (hx30))) rfl ?_
                refine WL.q (Y.loadRA (enc := encCall) (ds := (encCall x30)) (a := x30) (idx := v29) (j := 0) Try.underlying51 rfl cells51 lenCall (i := 2) rfl (.pl rfl) (ix_get (hx30)) rfl rfl subW) rfl ?_
                refine WL.step (WO.alloc (cs := (encCall (Call.mk 0 0 0 0 0 0 0)).toArray) zero51 rfl rfl fun b31 => ?_)
                refine WL.q (Y.assign (.pl rfl)) rfl ?_
                refine WL.step (WO.storeBA (ds := (encCall x30)) (cs' := (encCall x30)) cells51 (.pl rfl) (.pl rfl) rfl (oneCall _) (i := 0) rfl (lel (o := 0) (l := 7) (m := 7) (by decide) rfl rfl) (putW rfl) ?_)
                refine WL.next hQ34 (.cons (i := 0) rfl (.cons (i := 3) rfl (.cons (i := 5) rfl (.cons (i := 6) rfl (.cons (i := 7) rfl (.cons (i := 8) rfl (.cons (i := 9) rfl (.cons (i := 10) rfl (.cons (i := 14) rfl (.cons (i := 15) rfl (.cons (i := 16) rfl (.cons (i := 39) rfl (.cons (i := 40) rfl (.cons (i := 41) rfl (.nil))))))))))))))) ?_
                obtain ⟨o35, hF35, hF28⟩ := bnd hF28
                refine W.join1 (Em := fun (write32 : Int) => []) (M := fun write32 => ([cBx b1 220 (Value.slice A2 (calls4).length c3 :: (Value.slice A5 (writes7).length c6 :: [])), cR encCall 7 A2 c3 51 calls4, cR encCall 7 A5 c6 51 writes7, cR encRegularJudged 4 A11 c12 159 out13, cBx b19 51 (encCall x18), cBx b20 159 (encRegularJudged (RegularJudged.mk v14 write32 false false)), cM Value.bool (some b22) overlaps28, cBx b31 51 (encCall x30)] ++ T)) (I := fun write32 => write32 = o35) (.cons (i := 0) rfl (.cons (i := 3) rfl (.cons (i := 5) rfl (.cons (i := 6) rfl (.cons (i := 7) rfl (.cons (i := 8) rfl (.cons (i := 9) rfl (.cons (i := 10) rfl (.cons (i := 14) rfl (.cons (i := 15) rfl (.cons (i := 16) rfl (.cons (i := 39) rfl (.cons (i := 40) rfl (.cons (i := 41) rfl (.nil))))))))))))))) (fun K36 hK36 => ?_) ?_
                · -- up to
                  -- region 14: regular.go:62
                  refine W.seqR fun Q37 hQ37 => ?_
                  refine WL.q (Y.fieldAddr0 (off := 3) (ft := 3) Try.underlying51 rfl cells3 (.pl rfl)) rfl ?_
                  refine WL.q (Y.loadB (v := .int .i64 x30.arg) Try.underlying3 rfl (.pl rfl) (i := 0) rfl (rfl)) rfl ?_
                  refine WL.q (Y.fieldAddr0 (off := 4) (ft := 3) Try.underlying51 rfl cells3 (.pl rfl)) rfl ?_
                  refine WL.q (Y.loadB (v := .int .i64 x18.res) Try.underlying3 rfl (.pl rfl) (i := 5) rfl (rfl)) rfl ?_
                  refine WL.q (Y.eql (.pl rfl) (.pl rfl)) rfl ?_
                  refine WL.next hQ37 (.cons (i := 0) rfl (.cons (i := 3) rfl (.cons (i := 5) rfl (.cons (i := 6) rfl (.cons (i := 7) rfl (.cons (i := 8) rfl (.cons (i := 9) rfl (.cons (i := 10) rfl (.cons (i := 14) rfl (.cons (i := 15) rfl (.cons (i := 16) rfl (.cons (i := 39) rfl (.cons (i := 40) rfl (.cons (i := 41) rfl (.cons (i := 50) rfl (.nil)))))))))))))))) ?_
                  refine W.cond (.pl rfl) (fun hC38 => ?_) (fun hC38 => ?_)
                  · replace hF35 := cpos hC38 hF35
                    -- region 15: regular.go:63
                    refine W.reg ?_
                    refine WL.q (Y.move (.pl rfl)) rfl ?_
                    obtain ⟨hk33, hF35⟩ := ckh hF35
                    refine WL.q (Y.add (.pl rfl) (.pl rfl) (ok64_lt (hk33))) rfl ?_
                    refine WL.q (Y.fieldAddr0 (off := 1) (ft := 3) Try.underlying159 rfl cells3 (.pl rfl)) rfl ?_
                    refine WL.step (WO.storeB (cs' := (encRegularJudged (RegularJudged.mk v14 (v29 + 1) false false))) cells3 (.pl rfl) (.pl rfl) rfl (i := 6) rfl (ltl (m := 4) (by decide) rfl) (rfl) ?_)
                    refine WL.nil ?_
                    exact W.joinAt1 hK36 (v29 + 1) (Option.some.inj hF35) (.nil) (.cons (i := 0) rfl (.cons (i := 3) rfl (.cons (i := 5) rfl (.cons (i := 6) rfl (.cons (i := 7) rfl (.cons (i := 8) rfl (.cons (i := 9) rfl (.cons (i := 10) rfl (.cons (i := 14) rfl (.cons (i := 15) rfl (.cons (i := 16) rfl (.cons (i := 39) rfl (.cons (i := 40) rfl (.cons (i := 41) rfl (.nil))))))))))))))) (fun wz hw => hw.pickK 8 [1, 2, 3, 4, 5, 6, 7, 0] rfl)
                  · replace hF35 := cneg hC38 hF35
                    refine W.skip ?_
                    exact W.joinAt1 hK36 write26 (Option.some.inj hF35) (.nil) (.cons (i := 0) rfl (.cons (i := 3) rfl (.cons (i := 5) rfl (.cons (i := 6) rfl (.cons (i := 7) rfl (.cons (i := 8) rfl (.cons (i := 9) rfl (.cons (i := 10) rfl (.cons (i := 14) rfl (.cons (i := 15) rfl (.cons (i := 16) rfl (.cons (i := 39) rfl (.cons (i := 40) rfl (.cons (i := 41) rfl (.nil))))))))))))))) (fun wz hw => hw.pickK 8 [1, 2, 3, 4, 5, 6, 7, 0] rfl)
                · -- behind
                  rintro write32 rfl
                  refine W.block ?_
                  -- region 16: regular.go:66
                  refine W.seqR fun Q40 hQ40 => ?_
                  refine WL.q (Y.loadBA (ds := (encCall x30)) Try.underlying51 rfl cells51 (.pl rfl) (i := 7) rfl rfl subW) rfl ?_
                  refine WL.q (Y.loadBA (ds := (encCall x18)) Try.underlying51 rfl cells51 (.pl rfl) (i := 4) rfl rfl subW) rfl ?_
                  obtain ⟨r34, hr34, hF28⟩ := bnd hF28
                  refine WL.step (WO.callP isGo112 (.cons (.pl rfl) (.cons (.pl rfl) (.nil))) rfl (fun wz hw => regular_precedes_ok (hr34) wz ) ?_)
                  refine WL.q (Y.assign (.pl rfl)) rfl ?_
                  refine WL.next hQ40 (.cons (i := 0) rfl (.cons (i := 3) rfl (.cons (i := 5) rfl (.cons (i := 6) rfl (.cons (i := 7) rfl (.cons (i := 8) rfl (.cons (i := 9) rfl (.cons (i := 10) rfl (.cons (i := 14) rfl (.cons (i := 15) rfl (.cons (i := 16) rfl (.cons (i := 39) rfl (.cons (i := 40) rfl (.cons (i := 41) rfl (.cons (i := 54) rfl (.nil)))))))))))))))) ?_
                  refine W.cond (.pl rfl) (fun hC41 => ?_) (fun hC41 => ?_)
                  · replace hF28 := cpos hC41 hF28
                    -- region 17: regular.go:67
                    refine W.reg ?_
                    refine WL.q (Y.move (.pl rfl)) rfl ?_
                    obtain ⟨hk35, hF28⟩ := ckh hF28
                    refine WL.q (Y.add (.pl rfl) (.pl rfl) (ok64_lt (hk35))) rfl ?_
                    refine WL.q (Y.assign (.pl rfl)) rfl ?_
                    refine WL.nil ?_
                    refine W.go hK33 (.cons (i := 0) rfl (.cons (i := 3) rfl (.cons (i := 5) rfl (.cons (i := 6) rfl (.cons (i := 7) rfl (.cons (i := 8) rfl (.cons (i := 14) rfl (.cons (i := 15) rfl (.cons (i := 16) rfl (.cons (i := 39) rfl (.cons (i := 40) rfl (.cons (i := 41) rfl (.nil))))))))))))) ?_
                    -- region 20: regular.go:61
                    refine W.reg ?_
                    obtain ⟨hk36, hF28⟩ := ckh hF28
                    refine WL.q (Y.add (.pl rfl) (.pl rfl) (ok64_lt (hk36))) rfl ?_
                    refine WL.q (Y.move (.pl rfl)) rfl ?_
                    refine WL.nil ?_
                    obtain rfl := Option.some.inj hF28
                    exact W.again4 hK29 write32 (v29 + 1) overlaps28 (v29 + 1) k28 hN28 (Nat.lt_succ_self _) (.cons rfl (.cons rfl (.nil))) (.cons (i := 0) rfl (.cons (i := 3) rfl (.cons (i := 5) rfl (.cons (i := 6) rfl (.cons (i := 8) rfl (.cons (i := 14) rfl (.cons (i := 15) rfl (.cons (i := 16) rfl (.cons (i := 39) rfl (.cons (i := 40) rfl (.nil))))))))))) (fun wz hw => hw.pickK 8 [0, 1, 2, 3, 4, 5, 6] rfl)
                  · replace hF28 := cneg hC41 hF28
                    -- region 18: regular.go:68
                    refine W.seqR fun Q44 hQ44 => ?_
                    refine WL.q (Y.loadBA (ds := (encCall x18)) Try.underlying51 rfl cells51 (.pl rfl) (i := 4) rfl rfl subW) rfl ?_
                    refine WL.q (Y.loadBA (ds := (encCall x30)) Try.underlying51 rfl cells51 (.pl rfl) (i := 7) rfl rfl subW) rfl ?_
                    obtain ⟨r37, hr37, hF28⟩ := bnd hF28
                    refine WL.step (WO.callP isGo112 (.cons (.pl rfl) (.cons (.pl rfl) (.nil))) rfl (fun wz hw => regular_precedes_ok (hr37) wz ) ?_)
                    refine WL.q (Y.not (.pl rfl)) rfl ?_
                    refine WL.q (Y.assign (.pl rfl)) rfl ?_
                    refine WL.next hQ44 (.cons (i := 0) rfl (.cons (i := 3) rfl (.cons (i := 5) rfl (.cons (i := 6) rfl (.cons (i := 7) rfl (.cons (i := 8) rfl (.cons (i := 9) rfl (.cons (i := 14) rfl (.cons (i := 15) rfl (.cons (i := 16) rfl (.cons (i := 39) rfl (.cons (i := 40) rfl (.cons (i := 41) rfl (.cons (i := 60) rfl (.nil))))))))))))))) ?_
                    refine W.cond (.pl rfl) (fun hC45 => ?_) (fun hC45 => ?_)
                    · replace hF28 := cpos hC45 hF28
                      -- region 19: regular.go:69
                      refine W.reg ?_
                      refine WL.q (Y.move (.pl rfl)) rfl ?_
                      refine WL.q (Y.move (.pl rfl)) rfl ?_
                      obtain ⟨hk38, hF28⟩ := ckh hF28
                      refine WL.q (Y.add (.pl rfl) (.pl rfl) (ok64_lt (hk38))) rfl ?_
                      refine WL.step (WO.mset (f := Value.bool) (a := true) Try.underlying189 Try.underlying3 (.pl rfl) (.pl rfl) (.pl rfl) (i := 6) rfl ?_)
                      refine WL.nil ?_
                      refine W.go hK33 (.cons (i := 0) rfl (.cons (i := 3) rfl (.cons (i := 5) rfl (.cons (i := 6) rfl (.cons (i := 7) rfl (.cons (i := 8) rfl (.cons (i := 14) rfl (.cons (i := 15) rfl (.cons (i := 16) rfl (.cons (i := 39) rfl (.cons (i := 40) rfl (.cons (i := 41) rfl (.nil))))))))))))) ?_
                      -- region 20: regular.go:61
                      refine W.reg ?_
                      obtain ⟨hk39, hF28⟩ := ckh hF28
                      refine WL.q (Y.add (.pl rfl) (.pl rfl) (ok64_lt (hk39))) rfl ?_
                      refine WL.q (Y.move (.pl rfl)) rfl ?_
                      refine WL.nil ?_
                      obtain rfl := Option.some.inj hF28
                      exact W.again4 hK29 write32 last27 (mput overlaps28 (v29 + 1) true) (v29 + 1) k28 hN28 (Nat.lt_succ_self _) (.cons rfl (.cons rfl (.nil))) (.cons (i := 0) rfl (.cons (i := 3) rfl (.cons (i := 5) rfl (.cons (i := 6) rfl (.cons (i := 8) rfl (.cons (i := 14) rfl (.cons (i := 15) rfl (.cons (i := 16) rfl (.cons (i := 39) rfl (.cons (i := 40) rfl (.nil))))))))))) (fun wz hw => hw.pickK 8 [0, 1, 2, 3, 4, 5, 6] rfl)
                    · replace hF28 := cneg hC45 hF28
                      refine W.skip ?_
                      refine W.go hK33 (.cons (i := 0) rfl (.cons (i := 3) rfl (.cons (i := 5) rfl (.cons (i := 6) rfl (.cons (i := 7) rfl (.cons (i := 8) rfl (.cons (i := 14) rfl (.cons (i := 15) rfl (.cons (i := 16) rfl (.cons (i := 39) rfl (.cons (i := 40) rfl (.cons (i := 41) rfl (.nil))))))))))))) ?_
                      -- region 20: regular.go:61
                      refine W.reg ?_
                      obtain ⟨hk40, hF28⟩ := ckh hF28
                      refine WL.q (Y.add (.pl rfl) (.pl rfl) (ok64_lt (hk40))) rfl ?_
                      refine WL.q (Y.move (.pl rfl)) rfl ?_
                      refine WL.nil ?_
                      obtain rfl := Option.some.inj hF28
                      exact W.again4 hK29 write32 last27 overlaps28 (v29 + 1) k28 hN28 (Nat.lt_succ_self _) (.cons rfl (.cons rfl (.nil))) (.cons (i := 0) rfl (.cons (i := 3) rfl (.cons (i := 5) rfl (.cons (i := 6) rfl (.cons (i := 8) rfl (.cons (i := 14) rfl (.cons (i := 15) rfl (.cons (i := 16) rfl (.cons (i := 39) rfl (.cons (i := 40) rfl (.nil))))))))))) (fun wz hw => hw.pickK 8 [0, 1, 2, 3, 4, 5, 6] rfl)
              · replace hF28 := cneg hC32 hF28
                refine W.exit ?_
                obtain rfl := Option.some.inj hF28
                exact W.joinAt3 hK26 write26 last27 overlaps28 (einr hN28) (.cons rfl (.nil)) (.cons (i := 0) rfl (.cons (i := 3) rfl (.cons (i := 6) rfl (.cons (i := 8) rfl (.cons (i := 14) rfl (.cons (i := 15) rfl (.cons (i := 16) rfl (.nil)))))))) (fun wz hw => hw.pickK 7 [0, 1, 2, 3, 5, 6] rfl)
            · -- behind
              rintro write23 last24 overlaps25 rfl
              -- region 21: regular.go:72
              refine W.seqR fun Q49 hQ49 => ?_
              refine WL.q (Y.fieldAddr0 (off := 1) (ft := 3) Try.underlying159 rfl cells3 (.pl rfl)) rfl ?_
              refine WL.q (Y.loadB (v := .int .i64 write23) Try.underlying3 rfl (.pl rfl) (i := 4) rfl (rfl)) rfl ?_
              refine WL.q (Y.geq (.pl rfl) (.pl rfl)) rfl ?_
              refine WL.q (Y.move (.pl rfl)) rfl ?_
              refine WL.g (.pl rfl rfl rfl) (fun hg => Y.fieldAddr0 (off := 1) (ft := 3) Try.underlying159 rfl cells3 (.pl rfl)) rfl ?_
              refine WL.g (.pl rfl rfl rfl) (fun hg => Y.loadB (v := .int .i64 write23) Try.underlying3 rfl (.gd (hg) rfl) (i := 4) rfl (rfl)) rfl ?_
              refine WL.g (.pl rfl rfl rfl) (fun hg => Y.move (.pl rfl)) rfl ?_
              refine WL.g (.pl rfl rfl rfl) (fun hg => Y.eql (.gd (hg) rfl) (.gd (hg) rfl)) rfl ?_
              refine WL.g (.pl rfl rfl rfl) (fun hg => Y.move (.gd (hg) rfl)) rfl ?_
              refine WL.g (.gd rfl rfl rfl) (fun hg => Y.move (.pl rfl)) rfl ?_
              refine WL.g (.gd rfl rfl rfl) (fun hg => Y.fieldAddr0 (off := 1) (ft := 3) Try.underlying159 rfl cells3 (.pl rfl)) rfl ?_
              refine WL.g (.gd rfl rfl rfl) (fun hg => Y.loadB (v := .int .i64 write23) Try.underlying3 rfl (.gd (hg) rfl) (i := 4) rfl (rfl)) rfl ?_
              refine WL.g (.gd rfl rfl rfl) (fun hg => Y.mget (f := Value.bool) (dv := false) Try.underlying189 Try.underlying3 zero4 (.gd (hg) rfl) (.gd (hg) rfl) (i := 5) rfl) rfl ?_
              refine WL.g (.pl rfl rfl rfl) (fun hg => Y.or (.gd (hg) rfl) (fun h2 => .gd (band hg (eqf h2)) rfl)) rfl ?_
              refine WL.q (Y.and (.pl rfl) (fun h2 => .gd (eqt h2) rfl)) rfl ?_
              refine WL.q (Y.fieldAddr0 (off := 2) (ft := 4) Try.underlying159 rfl cells4 (.pl rfl)) rfl ?_
              refine WL.step (WO.storeB (cs' := (encRegularJudged (RegularJudged.mk v14 write23 ((decide (0 ≤ write23)) && ((decide (write23 = last24)) || ((mget overlaps25 write23).getD false))) false))) cells4 (.pl rfl) (.pl rfl) rfl (i := 4) rfl (ltl (m := 4) (by decide) rfl) (rfl) ?_)
              refine WL.next hQ49 (.cons (i := 0) rfl (.cons (i := 3) rfl (.cons (i := 6) rfl (.cons (i := 8) rfl (.cons (i := 14) rfl (.cons (i := 15) rfl (.cons (i := 16) rfl (.nil)))))))) ?_
              -- region 22: regular.go:73
              refine W.seqR fun Q50 hQ50 => ?_
              refine WL.q (Y.fieldAddr0 (off := 2) (ft := 4) Try.underlying159 rfl cells4 (.pl rfl)) rfl ?_
              refine WL.q (Y.loadB (v := .bool ((decide (0 ≤ write23)) && ((decide (write23 = last24)) || ((mget overlaps25 write23).getD false)))) Try.underlying4 rfl (.pl rfl) (i := 4) rfl (rfl)) rfl ?_
              refine WL.q (Y.move (.pl rfl)) rfl ?_
              refine WL.g (.pl rfl rfl rfl) (fun hg => Y.move (.pl rfl)) rfl ?_
              refine WL.g (.pl rfl rfl rfl) (fun hg => Y.mlen Try.underlying189 (.gd (hg) rfl) (i := 5) rfl) rfl ?_
              refine WL.g (.pl rfl rfl rfl) (fun hg => Y.gtr (.gd (hg) rfl) (.pl rfl)) rfl ?_
              refine WL.q (Y.or (.pl rfl) (fun h2 => .gd (eqf h2) rfl)) rfl ?_
              refine WL.q (Y.fieldAddr0 (off := 3) (ft := 4) Try.underlying159 rfl cells4 (.pl rfl)) rfl ?_
              refine WL.step (WO.storeB (cs' := (encRegularJudged (RegularJudged.mk v14 write23 ((decide (0 ≤ write23)) && ((decide (write23 = last24)) || ((mget overlaps25 write23).getD false))) (((decide (0 ≤ write23)) && ((decide (write23 = last24)) || ((mget overlaps25 write23).getD false))) || (decide (0 < ((overlaps25).length : Int))))))) cells4 (.pl rfl) (.pl rfl) rfl (i := 4) rfl (ltl (m := 4) (by decide) rfl) (rfl) ?_)
              refine WL.next hQ50 (.cons (i := 0) rfl (.cons (i := 3) rfl (.cons (i := 6) rfl (.cons (i := 14) rfl (.cons (i := 15) rfl (.cons (i := 16) rfl (.nil))))))) ?_
              -- region 23: regular.go:74
              refine W.reg ?_
              refine WL.q (Y.move (.pl rfl)) rfl ?_
              refine WL.q (Y.loadBA (ds := (encRegularJudged (RegularJudged.mk v14 write23 ((decide (0 ≤ write23)) && ((decide (write23 = last24)) || ((mget overlaps25 write23).getD false))) (((decide (0 ≤ write23)) && ((decide (write23 = last24)) || ((mget overlaps25 write23).getD false))) || (decide (0 < ((overlaps25).length : Int))))))) Try.underlying159 rfl cells159 (.pl rfl) (i := 4) rfl rfl subW) rfl ?_
              refine WL.step (WO.bsliceC (enc := encRegularJudged) (ys := ([(RegularJudged.mk v14 write23 ((decide (0 ≤ write23)) && ((decide (write23 = last24)) || ((mget overlaps25 write23).getD false))) (((decide (0 ≤ write23)) && ((decide (write23 = last24)) || ((mget overlaps25 write23).getD false))) || (decide (0 < ((overlaps25).length : Int)))))] : List RegularJudged)) Try.underlying156 bz159 (.cons (.pl rfl) (.nil)) rfl lenRegularJudged rfl rfl (by decide) (by decide) rfl fun b41 => ?_)
              obtain ⟨hk44, hF11⟩ := ckh hF11
              refine WL.step (WO.appendC (enc := encRegularJudged) Try.underlying156 ap159 lenRegularJudged oneRegularJudged (.pl rfl) rfl (.pl rfl) (i := 4) rfl (m2 := 0) rfl (hk44) rfl fun A42 c43 => ?_)
              refine WL.q (Y.assign (.pl rfl)) rfl ?_
              refine WL.nil ?_
              exact W.joinAt3 hK12 (out13 ++ ([(RegularJudged.mk v14 write23 ((decide (0 ≤ write23)) && ((decide (write23 = last24)) || ((mget overlaps25 write23).getD false))) (((decide (0 ≤ write23)) && ((decide (write23 = last24)) || ((mget overlaps25 write23).getD false))) || (decide (0 < ((overlaps25).length : Int)))))] : List RegularJudged)) A42 c43 (Option.some.inj hF11) (.cons rfl (.nil)) (.cons (i := 0) rfl (.cons (i := 14) rfl (.cons (i := 15) rfl (.cons (i := 16) rfl (.nil))))) (fun wz hw => hw.pickK 7 [1, 2, 3, 4] rfl)
      · -- behind
        rintro out17 A15 c16 rfl
        -- region 24: regular.go:51
        refine W.reg ?_
        obtain ⟨hk45, hF6⟩ := ckh hF6
        refine WL.q (Y.add (.pl rfl) (.pl rfl) (ok64_lt (hk45))) rfl ?_
        refine WL.q (Y.move (.pl rfl)) rfl ?_
        refine WL.nil ?_
        obtain rfl := Option.some.inj hF6
        exact W.again4 hK7 out17 (v14 + 1) A15 c16 k6 hN6 (Nat.lt_succ_self _) (.cons rfl (.cons rfl (.nil))) (.cons (i := 0) rfl (.cons (i := 14) rfl (.cons (i := 15) rfl (.nil)))) (fun wz hw => hw.pickK 4 [0, 1, 2, 3] rfl)
    · replace hF6 := cneg hC10 hF6
      refine W.exit ?_
      obtain rfl := Option.some.inj hF6
      exact W.joinAt3 hK4 out13 A11 c12 (einr hN6) (.cons rfl (.nil)) (.nil) (fun wz hw => hw.pickK 4 [0, 1, 2, 3] rfl)
  · -- behind
    rintro out10 A8 c9 rfl
    -- region 25: regular.go:76
    refine W.seqR fun Q53 hQ53 => ?_
    refine WL.q (Y.move (.pl rfl)) rfl ?_
    refine WL.q (Y.assign (.pl rfl)) rfl ?_
    refine WL.next hQ53 (.cons (i := 2) rfl (.nil)) ?_
    obtain rfl := Option.some.inj hF
    refine W.retV (fn := Try.f79) (vs := [.slice A8 (out10).length c9]) Try.results79 ⟨.tmp rfl, trivial⟩ (fun _ _ h => h) (fun wz hw => ?_)
    exact hR _ _ ⟨(A8, c9), trivial, rfl, (hw.pickK 4 [0, 1, 2, 3] rfl)⟩

def regular_log_turned_1 (N : Nat) (j1 : RegularJudged) : Option Unit :=
  some ()

theorem regular_log_turned_1_ok {N : Nat} {j1 : RegularJudged} {res : Unit} (hF : regular_log_turned_1 N j1 = some res) (w : World) :
    Pure Try.prog 114 [.agg (encRegularJudged j1).toArray] w (.bool (!j1.regular)) := by
  refine W.enter (n := 6) Try.func114 rfl rfl Sub.refl (by simp) (St.start w) fun R hR => ?_
  unfold regular_log_turned_1 at hF
  -- region 0: regular.go:81
  refine W.seqR fun Q1 hQ1 => ?_
  refine WL.step (WO.boxA (.pl rfl) rfl fun b2 => ?_)
  refine WL.q (Y.assign (.pl rfl)) rfl ?_
  refine WL.next hQ1 (.cons (i := 1) rfl (.nil)) ?_
  -- region 1: regular.go:81
  refine W.seqR fun Q2 hQ2 => ?_
  refine WL.q (Y.fieldAddr0 (off := 2) (ft := 4) Try.underlying159 rfl cells4 (.pl rfl)) rfl ?_
  refine WL.q (Y.loadB (v := .bool j1.regular) Try.underlying4 rfl (.pl rfl) (i := 0) rfl (rfl)) rfl ?_
  refine WL.q (Y.not (.pl rfl)) rfl ?_
  refine WL.q (Y.assign (.pl rfl)) rfl ?_
  refine WL.next hQ2 (.cons (i := 2) rfl (.nil)) ?_
  obtain rfl := Option.some.inj hF
  refine W.retV (fn := Try.f114) (vs := [.bool (!j1.regular)]) Try.results114 ⟨.tmp rfl, trivial⟩ (fun _ _ h => h) (fun wz hw => ?_)
  exact hR _ _ ⟨rfl, (hw.pick [] rfl)⟩

def slices_IndexFunc_regular_judged_regular_judged_L3 (N : Nat) (s1 : (List RegularJudged)) : Int → Option (Int ⊕ (Unit ⊕ Int))
  | v6 =>
    cond (decide (v6 < ((s1).length : Int)))
      (bd (ix s1 v6) fun (x7 : RegularJudged) =>
      bd (regular_log_turned_1 N x7) fun (r8 : Unit) =>
      cond (!x7.regular)
        (some (.inr (.inr v6)))
        (ck (ok64 (v6 + 1)) <|
        some (.inl (v6 + 1))))
      (some (.inr (.inl ())))

def slices_IndexFunc_regular_judged_regular_judged (N : Nat) (s1 : (List RegularJudged)) : Option Int :=
  bd (α := (Unit ⊕ Int)) (iter (slices_IndexFunc_regular_judged_regular_judged_L3 N s1) N 0) <|
  Sum.elim (fun _ => 
    some (-1)) (fun p => some p)

theorem slices_IndexFunc_regular_judged_regular_judged_ok {N : Nat} {s1 : (List RegularJudged)} {res : Int} (hF : slices_IndexFunc_regular_judged_regular_judged N s1 = some res) (w : World) {v5 : Value} (hs4 : SlIn encRegularJudged 4 w v5 s1) :
    Pure Try.prog 140 [v5, .func (.func 114) #[] #[]] w (.int .i64 res) := by
  obtain ⟨A2, c3, rfl, hcc3, hs4⟩ := hs4.form
  refine W.enter (n := 19) Try.func140 rfl rfl Sub.refl (by simp) (St.start w) fun R hR => ?_
  unfold slices_IndexFunc_regular_judged_regular_judged at hF
  -- region 0: slices.go:107
  refine W.seqR fun Q1 hQ1 => ?_
  refine WL.q (Y.assign (.pl rfl)) rfl ?_
  refine WL.next hQ1 (.cons (i := 0) rfl (.cons (i := 1) rfl (.nil))) ?_
  obtain ⟨o2, hF2, hF⟩ := bnd hF
  refine W.join0 (Em := []) (M := []) (I := (.inl ()) = o2) (.nil) (fun K3 hK3 => ?_) ?_
  · -- up to
    -- region 1: slices.go:108
    refine W.seqR fun Q4 hQ4 => ?_
    refine WL.q (Y.move (.pl rfl)) rfl ?_
    refine WL.q (Y.len Try.underlying156 (.pl rfl)) rfl ?_
    refine WL.q (Y.move (.pl rfl)) rfl ?_
    refine WL.next hQ4 (.cons (i := 0) rfl (.cons (i := 1) rfl (.cons (i := 7) rfl (.cons (i := 8) rfl (.nil))))) ?_
    refine W.block ?_
    refine W.loop1 (Em := fun (v6 : Int) => [(8, .int .i64 v6)]) (M := fun v6 => []) (I := fun v6 k5 => iter (slices_IndexFunc_regular_judged_regular_judged_L3 N s1) k5 v6 = some o2) 0 N (hF2) (.cons rfl (.nil)) (.cons (i := 0) rfl (.cons (i := 1) rfl (.cons (i := 7) rfl (.nil)))) (fun wz hw => hw.pick [] rfl) (fun v6 k5 hI K6 hK6 => ?_)
    obtain ⟨k5, t5, rfl, hF5, hN5⟩ := iter_step hI
    -- region 2: slices.go:108
    refine W.seqR fun Q7 hQ7 => ?_
    refine WL.q (Y.lss (.pl rfl) (.pl rfl)) rfl ?_
    refine WL.next hQ7 (.cons (i := 0) rfl (.cons (i := 1) rfl (.cons (i := 7) rfl (.cons (i := 8) rfl (.cons (i := 9) rfl (.nil)))))) ?_
    refine W.seq fun K8 hK8 => ?_
    refine W.cond (.pl rfl) (fun hC9 => ?_) (fun hC9 => ?_)
    · replace hF5 := cpos hC9 hF5
      refine W.skip ?_
      refine W.go hK8 (.cons (i := 0) rfl (.cons (i := 1) rfl (.cons (i := 7) rfl (.cons (i := 8) rfl (.nil))))) ?_
      refine W.seq fun K10 hK10 => ?_
      refine W.block ?_
      -- region 3: slices.go:108
      refine W.seqR fun Q11 hQ11 => ?_
      refine WL.q (Y.move (.pl rfl)) rfl ?_
      refine WL.q (Y.assign (.pl rfl)) rfl ?_
      refine WL.next hQ11 (.cons (i := 0) rfl (.cons (i := 1) rfl (.cons (i := 5) rfl (.cons (i := 7) rfl (.cons (i := 8) rfl (.nil)))))) ?_
      -- region 4: slices.go:109
      refine W.seqR fun Q12 hQ12 => ?_
      refine WL.q (Y.move (.pl rfl)) rfl ?_
      refine WL.q (Y.move (.pl rfl)) rfl ?_
      refine WL.q (Y.move (.pl rfl)) rfl ?_
      obtain ⟨x7, hx7, hF5⟩ := bnd hF5
      refine WL.q (Y.slEl Try.underlying156 cells159 hs4 (.pl rfl) (.pl rfl) (ix_lt (hx7))) rfl ?_
      refine WL.q (Y.loadSA (enc := encRegularJudged) (ds := (encRegularJudged x7)) (j := 0) Try.underlying159 rfl cells159 hs4 (.pl rfl) (hx7) rfl rfl subW) rfl ?_
      obtain ⟨r8, hr8, hF5⟩ := bnd hF5
      refine WL.step (WO.callG (γ := Unit) (first := []) (cap := []) (fun g => .bool (!x7.regular)) (fun g => []) (fun g => True) isGo114 (.pl rfl) (.cons (.pl rfl) (.nil)) rfl (fun wz hw => (regular_log_turned_1_ok (hr8) wz ).calls hw) ?_)
      rintro _ -
      refine WL.next hQ12 (.cons (i := 0) rfl (.cons (i := 1) rfl (.cons (i := 5) rfl (.cons (i := 7) rfl (.cons (i := 8) rfl (.cons (i := 16) rfl (.nil))))))) ?_
      refine W.cond (.pl rfl) (fun hC13 => ?_) (fun hC13 => ?_)
      · replace hF5 := cpos hC13 hF5
        -- region 5: slices.go:110
        refine W.seqR fun Q14 hQ14 => ?_
        refine WL.q (Y.move (.pl rfl)) rfl ?_
        refine WL.q (Y.assign (.pl rfl)) rfl ?_
        refine WL.next hQ14 (.cons (i := 4) rfl (.nil)) ?_
        obtain rfl := Option.some.inj hF5
        obtain rfl := einr hN5
        obtain rfl := Option.some.inj hF
        refine W.retV (fn := Try.f140) (vs := [.int .i64 v6]) Try.results140 ⟨.tmp rfl, trivial⟩ (fun _ _ h => h) (fun wz hw => ?_)
        exact hR _ _ ⟨rfl, (hw.pick [] rfl)⟩
      · replace hF5 := cneg hC13 hF5
        refine W.skip ?_
        refine W.go hK10 (.cons (i := 0) rfl (.cons (i := 1) rfl (.cons (i := 7) rfl (.cons (i := 8) rfl (.nil))))) ?_
        -- region 6: slices.go:108
        refine W.reg ?_
        obtain ⟨hk9, hF5⟩ := ckh hF5
        refine WL.q (Y.add (.pl rfl) (.pl rfl) (ok64_lt (hk9))) rfl ?_
        refine WL.q (Y.move (.pl rfl)) rfl ?_
        refine WL.nil ?_
        obtain rfl := Option.some.inj hF5
        exact W.again1 hK6 (v6 + 1) k5 hN5 (Nat.lt_succ_self _) (.cons rfl (.nil)) (.cons (i := 0) rfl (.cons (i := 1) rfl (.cons (i := 7) rfl (.nil)))) (fun wz hw => hw.pick [] rfl)
    · replace hF5 := cneg hC9 hF5
      refine W.exit ?_
      obtain rfl := Option.some.inj hF5
      exact W.joinAt0 hK3  (einr hN5) (.nil) (.nil) (fun wz hw => hw.pick [] rfl)
  · -- behind
    rintro  rfl
    -- region 7: slices.go:113
    refine W.seqR fun Q16 hQ16 => ?_
    refine WL.q (Y.assign (.pl rfl)) rfl ?_
    refine WL.next hQ16 (.cons (i := 4) rfl (.nil)) ?_
    obtain rfl := Option.some.inj hF
    refine W.retV (fn := Try.f140) (vs := [.int .i64 (-1)]) Try.results140 ⟨.tmp rfl, trivial⟩ (fun _ _ h => h) (fun wz hw => ?_)
    exact hR _ _ ⟨rfl, (hw.pick [] rfl)⟩

def slices_DeleteFunc_regular_judged_regular_judged_L3 (N : Nat) : ((List RegularJudged) × Int × Int) → Option (((List RegularJudged) × Int × Int) ⊕ ((List RegularJudged) × Int))
  | (s9, i11, j12) =>
    cond (decide (j12 < ((s9).length : Int)))
      (bd (ix s9 j12) fun (x13 : RegularJudged) =>
      bd (regular_log_turned_1 N x13) fun (r15 : Unit) =>
      cond (!(!x13.regular))
        (bd (ix s9 i11) fun (x16 : RegularJudged) =>
        ck (ok64 (i11 + 1)) <|
        ck (ok64 (j12 + 1)) <|
        some (.inl ((s9.set i11.toNat x13), (i11 + 1), (j12 + 1))))
        (ck (ok64 (j12 + 1)) <|
        some (.inl (s9, i11, (j12 + 1)))))
      (some (.inr (s9, i11)))

def slices_DeleteFunc_regular_judged_regular_judged (N : Nat) (s3 : (List RegularJudged)) : Option (List RegularJudged) :=
  bd (slices_IndexFunc_regular_judged_regular_judged N s3) fun (r4 : Int) =>
  cond (decide (r4 = (-1)))
    (some s3)
    (bd (α := ((List RegularJudged) × Int)) (ck (ok64 (r4 + 1)) <|
      iter (slices_DeleteFunc_regular_judged_regular_judged_L3 N) N (s3, r4, (r4 + 1))) <|
    fun (s5, i7) => 
      ck (slB (s5).length i7 ((s5).length : Int)) <|
      ck (slB ((ovr s5 i7.toNat (List.replicate ((s5.drop i7.toNat)).length (RegularJudged.z : RegularJudged)))).length 0 i7) <|
      some ((ovr s5 i7.toNat (List.replicate ((s5.drop i7.toNat)).length (RegularJudged.z : RegularJudged))).take i7.toNat))

theorem slices_DeleteFunc_regular_judged_regular_judged_ok {N : Nat} {s3 : (List RegularJudged)} {A1 : Option Addr} {c2 : Nat} {res : (List RegularJudged)} (hF : slices_DeleteFunc_regular_judged_regular_judged N s3 = some res) {w0 w : World} {T : List Chunk} (hw : St w0.heap.size w0 ([cR encRegularJudged 4 A1 c2 159 s3] ++ T) w) :
    Calls Try.prog 113 (List.toArray [.slice A1 (s3).length c2, .func (.func 114) #[] #[]]) w (fun e w' => ∃ g : Unit, (True) ∧ e = .returned (.slice A1 (res).length c2) ∧ St w0.heap.size w0 ([cR encRegularJudged 4 A1 c2 159 res] ++ T) w') := by
  refine W.enter (n := 42) Try.func113 rfl rfl Sub.refl (by simp) hw fun R hR => ?_
  unfold slices_DeleteFunc_regular_judged_regular_judged at hF
  -- region 0: slices.go:241
  refine W.seqR fun Q1 hQ1 => ?_
  refine WL.q (Y.assign (.pl rfl)) rfl ?_
  refine WL.next hQ1 (.cons (i := 0) rfl (.cons (i := 1) rfl (.nil))) ?_
  -- region 1: slices.go:242
  refine W.seqR fun Q2 hQ2 => ?_
  refine WL.q (Y.move (.pl rfl)) rfl ?_
  refine WL.q (Y.move (.pl rfl)) rfl ?_
  obtain ⟨r4, hr4, hF⟩ := bnd hF
  refine WL.step (WO.callP isGo140 (.cons (.pl rfl) (.cons (.pl rfl) (.nil))) rfl (fun wz hw => slices_IndexFunc_regular_judged_regular_judged_ok (hr4) wz (SlIn.ofRow lenRegularJudged hw (i := 0) rfl)) ?_)
  refine WL.q (Y.assign (.pl rfl)) rfl ?_
  refine WL.next hQ2 (.cons (i := 0) rfl (.cons (i := 1) rfl (.cons (i := 5) rfl (.nil)))) ?_
  refine W.seq fun K3 hK3 => ?_
  -- region 2: slices.go:243
  refine W.seqR fun Q4 hQ4 => ?_
  refine WL.q (Y.move (.pl rfl)) rfl ?_
  refine WL.q (Y.eql (.pl rfl) (.pl rfl)) rfl ?_
  refine WL.next hQ4 (.cons (i := 0) rfl (.cons (i := 1) rfl (.cons (i := 5) rfl (.cons (i := 12) rfl (.nil))))) ?_
  refine W.cond (.pl rfl) (fun hC5 => ?_) (fun hC5 => ?_)
  · replace hF := cpos hC5 hF
    -- region 3: slices.go:244
    refine W.seqR fun Q6 hQ6 => ?_
    refine WL.q (Y.move (.pl rfl)) rfl ?_
    refine WL.q (Y.assign (.pl rfl)) rfl ?_
    refine WL.next hQ6 (.cons (i := 4) rfl (.nil)) ?_
    obtain rfl := Option.some.inj hF
    refine W.retV (fn := Try.f113) (vs := [.slice A1 (s3).length c2]) Try.results113 ⟨.tmp rfl, trivial⟩ (fun _ _ h => h) (fun wz hw => ?_)
    exact hR _ _ ⟨(), trivial, rfl, (hw.pickK 1 [0] rfl)⟩
  · replace hF := cneg hC5 hF
    refine W.skip ?_
    refine W.go hK3 (.cons (i := 0) rfl (.cons (i := 1) rfl (.cons (i := 5) rfl (.nil)))) ?_
    obtain ⟨o7, hF7, hF⟩ := bnd hF
    refine W.join2 (Em := fun (s5 : (List RegularJudged)) (i7 : Int) => [(0, .slice A1 (s5).length c2), (5, .int .i64 i7)]) (M := fun s5 i7 => ([cR encRegularJudged 4 A1 c2 159 s5] ++ T)) (I := fun s5 i7 => (s5, i7) = o7 ∧ (s5).length = (s3).length) (.nil) (fun K8 hK8 => ?_) ?_
    · -- up to
      -- region 4: slices.go:247
      refine W.seqR fun Q9 hQ9 => ?_
      refine WL.q (Y.move (.pl rfl)) rfl ?_
      obtain ⟨hk8, hF7⟩ := ckh hF7
      refine WL.q (Y.add (.pl rfl) (.pl rfl) (ok64_lt (hk8))) rfl ?_
      refine WL.q (Y.assign (.pl rfl)) rfl ?_
      refine WL.next hQ9 (.cons (i := 0) rfl (.cons (i := 1) rfl (.cons (i := 5) rfl (.cons (i := 6) rfl (.nil))))) ?_
      refine W.block ?_
      refine W.loop3 (Em := fun (s9 : (List RegularJudged)) (i11 : Int) (j12 : Int) => [(0, .slice A1 (s9).length c2), (5, .int .i64 i11), (6, .int .i64 j12)]) (M := fun s9 i11 j12 => ([cR encRegularJudged 4 A1 c2 159 s9] ++ T)) (I := fun s9 i11 j12 k10 => iter (slices_DeleteFunc_regular_judged_regular_judged_L3 N) k10 (s9, i11, j12) = some o7 ∧ (s9).length = (s3).length) s3 r4 (r4 + 1) N (⟨hF7, (by simp)⟩) (.cons rfl (.cons rfl (.cons rfl (.nil)))) (.cons (i := 1) rfl (.nil)) (fun wz hw => hw.pickK 1 [0] rfl) (fun s9 i11 j12 k10 hI K11 hK11 => ?_)
      obtain ⟨hI, hl10⟩ := hI
      obtain ⟨k10, t10, rfl, hF10, hN10⟩ := iter_step hI
      refine W.seq fun K12 hK12 => ?_
      -- region 5: slices.go:247
      refine W.seqR fun Q13 hQ13 => ?_
      refine WL.q (Y.move (.pl rfl)) rfl ?_
      refine WL.q (Y.move (.pl rfl)) rfl ?_
      refine WL.q (Y.len Try.underlying156 (.pl rfl)) rfl ?_
      refine WL.q (Y.lss (.pl rfl) (.pl rfl)) rfl ?_
      refine WL.next hQ13 (.cons (i := 0) rfl (.cons (i := 1) rfl (.cons (i := 5) rfl (.cons (i := 6) rfl (.cons (i := 19) rfl (.nil)))))) ?_
      refine W.cond (.pl rfl) (fun hC14 => ?_) (fun hC14 => ?_)
      · replace hF10 := cpos hC14 hF10
        refine W.skip ?_
        refine W.go hK12 (.cons (i := 0) rfl (.cons (i := 1) rfl (.cons (i := 5) rfl (.cons (i := 6) rfl (.nil))))) ?_
        refine W.seq fun K15 hK15 => ?_
        refine W.block ?_
        -- region 7: slices.go:248
        refine W.seqR fun Q16 hQ16 => ?_
        refine WL.q (Y.move (.pl rfl)) rfl ?_
        refine WL.q (Y.move (.pl rfl)) rfl ?_
        obtain ⟨x13, hx13, hF10⟩ := bnd hF10
        refine WL.q (Y.rowEl Try.underlying156 cells159 (i := 0) rfl (.pl rfl) rfl (.pl rfl) (ix_lt (hx13))) rfl ?_
        refine WL.q (Y.loadRA (enc := encRegularJudged) (ds := (encRegularJudged x13)) (a := x13) (idx := j12) (j := 0) Try.underlying159 rfl cells159 lenRegularJudged (i := 0) rfl (.pl rfl) (ix_get (hx13)) rfl rfl subW) rfl ?_
        refine WL.step (WO.alloc (cs := (encRegularJudged (RegularJudged.mk 0 0 false false)).toArray) zero159 rfl rfl fun b14 => ?_)
        refine WL.step (WO.storeBA (ds := (encRegularJudged x13)) (cs' := (encRegularJudged x13)) cells159 (.pl rfl) (.pl rfl) rfl (oneRegularJudged _) (i := 0) rfl (lel (o := 0) (l := 4) (m := 4) (by decide) rfl rfl) (putW rfl) ?_)
        refine WL.next hQ16 (.cons (i := 0) rfl (.cons (i := 1) rfl (.cons (i := 5) rfl (.cons (i := 6) rfl (.cons (i := 7) rfl (.nil)))))) ?_
        -- region 8: slices.go:248
        refine W.seqR fun Q17 hQ17 => ?_
        refine WL.q (Y.move (.pl rfl)) rfl ?_
        refine WL.q (Y.loadBA (ds := (encRegularJudged x13)) Try.underlying159 rfl cells159 (.pl rfl) (i := 0) rfl rfl subW) rfl ?_
        obtain ⟨r15, hr15, hF10⟩ := bnd hF10
        refine WL.step (WO.callG (γ := Unit) (first := []) (cap := []) (fun g => .bool (!x13.regular)) (fun g => ([cBx b14 159 (encRegularJudged x13), cR encRegularJudged 4 A1 c2 159 s9] ++ T)) (fun g => True) isGo114 (.pl rfl) (.cons (.pl rfl) (.nil)) rfl (fun wz hw => (regular_log_turned_1_ok (hr15) wz ).calls hw) ?_)
        rintro _ -
        refine WL.q (Y.not (.pl rfl)) rfl ?_
        refine WL.next hQ17 (.cons (i := 0) rfl (.cons (i := 1) rfl (.cons (i := 5) rfl (.cons (i := 6) rfl (.cons (i := 7) rfl (.cons (i := 29) rfl (.nil))))))) ?_
        refine W.cond (.pl rfl) (fun hC18 => ?_) (fun hC18 => ?_)
        · replace hF10 := cpos hC18 hF10
          -- region 9: slices.go:249
          refine W.seqR fun Q19 hQ19 => ?_
          refine WL.q (Y.move (.pl rfl)) rfl ?_
          refine WL.q (Y.move (.pl rfl)) rfl ?_
          refine WL.q (Y.loadBA (ds := (encRegularJudged x13)) Try.underlying159 rfl cells159 (.pl rfl) (i := 0) rfl rfl subW) rfl ?_
          obtain ⟨x16, hx16, hF10⟩ := bnd hF10
          refine WL.q (Y.rowEl Try.underlying156 cells159 (i := 1) rfl (.pl rfl) rfl (.pl rfl) (ix_lt (hx16))) rfl ?_
          refine WL.step (WO.storeSA (enc := encRegularJudged) (a' := x13) (idx := i11) cells159 (.pl rfl) (.pl rfl) lenRegularJudged rfl (oneRegularJudged _) (i := 1) rfl (ix_lt (hx16)) rfl ?_)
          refine WL.next hQ19 (.cons (i := 0) rfl (.cons (i := 1) rfl (.cons (i := 5) rfl (.cons (i := 6) rfl (.nil))))) ?_
          -- region 10: slices.go:250
          refine W.reg ?_
          refine WL.q (Y.move (.pl rfl)) rfl ?_
          obtain ⟨hk17, hF10⟩ := ckh hF10
          refine WL.q (Y.add (.pl rfl) (.pl rfl) (ok64_lt (hk17))) rfl ?_
          refine WL.q (Y.assign (.pl rfl)) rfl ?_
          refine WL.nil ?_
          refine W.go hK15 (.cons (i := 0) rfl (.cons (i := 1) rfl (.cons (i := 5) rfl (.cons (i := 6) rfl (.nil))))) ?_
          -- region 6: slices.go:247
          refine W.reg ?_
          refine WL.q (Y.move (.pl rfl)) rfl ?_
          obtain ⟨hk18, hF10⟩ := ckh hF10
          refine WL.q (Y.add (.pl rfl) (.pl rfl) (ok64_lt (hk18))) rfl ?_
          refine WL.q (Y.assign (.pl rfl)) rfl ?_
          refine WL.nil ?_
          obtain rfl := Option.some.inj hF10
          exact W.again3 hK11 (s9.set i11.toNat x13) (i11 + 1) (j12 + 1) k10 ⟨hN10, (by simp [hl10])⟩ (Nat.lt_succ_self _) (.cons (eqSl (by simp [hl10])) (.cons rfl (.cons rfl (.nil)))) (.cons (i := 1) rfl (.nil)) (fun wz hw => hw.pickK 2 [1] rfl)
        · replace hF10 := cneg hC18 hF10
          refine W.skip ?_
          refine W.go hK15 (.cons (i := 0) rfl (.cons (i := 1) rfl (.cons (i := 5) rfl (.cons (i := 6) rfl (.nil))))) ?_
          -- region 6: slices.go:247
          refine W.reg ?_
          refine WL.q (Y.move (.pl rfl)) rfl ?_
          obtain ⟨hk19, hF10⟩ := ckh hF10
          refine WL.q (Y.add (.pl rfl) (.pl rfl) (ok64_lt (hk19))) rfl ?_
          refine WL.q (Y.assign (.pl rfl)) rfl ?_
          refine WL.nil ?_
          obtain rfl := Option.some.inj hF10
          exact W.again3 hK11 s9 i11 (j12 + 1) k10 ⟨hN10, (by simp [hl10])⟩ (Nat.lt_succ_self _) (.cons rfl (.cons rfl (.cons rfl (.nil)))) (.cons (i := 1) rfl (.nil)) (fun wz hw => hw.pickK 2 [1] rfl)
      · replace hF10 := cneg hC14 hF10
        refine W.exit ?_
        obtain rfl := Option.some.inj hF10
        exact W.joinAt2 hK8 s9 i11 (⟨einr hN10, (by simp [hl10])⟩) (.cons rfl (.cons rfl (.nil))) (.nil) (fun wz hw => hw.pickK 1 [0] rfl)
    · -- behind
      rintro s5 i7 ⟨rfl, hl6⟩
      -- region 11: slices.go:253
      refine W.seqR fun Q23 hQ23 => ?_
      refine WL.q (Y.move (.pl rfl)) rfl ?_
      refine WL.q (Y.move (.pl rfl)) rfl ?_
      obtain ⟨hk20, hF⟩ := ckh hF
      refine WL.q (Y.sliceR1 Try.underlying156 cells159 (i := 0) rfl (.pl rfl) rfl (.pl rfl) (hk20)) rfl ?_
      refine WL.step (WO.clearV (enc := encRegularJudged) (sz := 4) (z := RegularJudged.z) (lo := i7) (xs := s5) Try.underlying156 zero159 rfl lenRegularJudged oneRegularJudged (i := 0) rfl (.pl rfl) (fun _ => rfl) (slB_le (hk20)).1 (fit1 (hk20)) rfl ?_)
      refine WL.next hQ23 (.cons (i := 0) rfl (.cons (i := 5) rfl (.nil))) ?_
      -- region 12: slices.go:254
      refine W.seqR fun Q24 hQ24 => ?_
      refine WL.q (Y.move (.pl rfl)) rfl ?_
      refine WL.q (Y.move (.pl rfl)) rfl ?_
      obtain ⟨hk21, hF⟩ := ckh hF
      refine WL.q (Y.sliceR0 Try.underlying156 cells159 (i := 0) rfl (.pl rfl) (by simp [hl6]) (.pl rfl) (hk21)) rfl ?_
      refine WL.q (Y.assign (.pl rfl)) rfl ?_
      refine WL.next hQ24 (.cons (i := 4) rfl (.nil)) ?_
      obtain rfl := Option.some.inj hF
      refine W.retV (fn := Try.f113) (vs := [.slice A1 (((ovr s5 i7.toNat (List.replicate ((s5.drop i7.toNat)).length (RegularJudged.z : RegularJudged))).take i7.toNat)).length c2]) Try.results113 ⟨.tmp rfl, trivial⟩ (fun _ _ h => h) (fun wz hw => ?_)
      exact hR _ _ ⟨(), trivial, rfl, ((St.trunc (enc := encRegularJudged) (sz := 4) (j := i7.toNat) hw lenRegularJudged (i := 0) rfl).pickK 1 [0] rfl)⟩

def regular_log_turned_L27 (N : Nat) (r11 : (List RegularJudged)) (calls4 : (List Call)) (x13 : RegularJudged) : Int → Option (Int ⊕ (Unit ⊕ (Int × Int × Bool)))
  | v15 =>
    cond (decide (v15 < ((r11).length : Int)))
      (bd (ix r11 v15) fun (x16 : RegularJudged) =>
      bd (ix calls4 x13.n) fun (x18 : Call) =>
      bd (ix calls4 x16.n) fun (x19 : Call) =>
      bd (regular_precedes N x18 x19) fun (r20 : Unit) =>
      cond (((!(decide (x18.to_ = (-1)))) && (decide (x18.to_ < x19.from_))) && (decide (x16.write < x13.write)))
        (some (.inr (.inr (x13.n, x16.n, true))))
        (ck (ok64 (v15 + 1)) <|
        some (.inl (v15 + 1))))
      (some (.inr (.inl ())))

def regular_log_turned_L25 (N : Nat) (r11 : (List RegularJudged)) (calls4 : (List Call)) : Int → Option (Int ⊕ (Unit ⊕ (Int × Int × Bool)))
  | v12 =>
    cond (decide (v12 < ((r11).length : Int)))
      (bd (α := (Unit ⊕ (Int × Int × Bool))) (bd (ix r11 v12) fun (x13 : RegularJudged) =>
        iter (regular_log_turned_L27 N r11 calls4 x13) N 0) <|
      Sum.elim (fun _ => 
        ck (ok64 (v12 + 1)) <|
        some (.inl (v12 + 1))) (fun p => some (.inr (.inr p))))
      (some (.inr (.inl ())))

def regular_log_turned (N : Nat) (calls4 : (List Call)) (writes7 : (List Call)) : Option (Int × Int × Bool) :=
  bd (regular_log_reads N calls4 writes7) fun (r8 : (List RegularJudged)) =>
  bd (slices_DeleteFunc_regular_judged_regular_judged N r8) fun (r11 : (List RegularJudged)) =>
  bd (α := (Unit ⊕ (Int × Int × Bool))) (iter (regular_log_turned_L25 N r11 calls4) N 0) <|
  Sum.elim (fun _ => 
    some (0, 0, false)) (fun p => some p)

theorem regular_log_turned_ok {N : Nat} {calls4 : (List Call)} {writes7 : (List Call)} {b1 : Nat} {A2 : Option Addr} {c3 : Nat} {A5 : Option Addr} {c6 : Nat} {res : (Int × Int × Bool)} (hF : regular_log_turned N calls4 writes7 = some res) {w0 w : World} {T : List Chunk} (hw : St w0.heap.size w0 ([cBx b1 220 (Value.slice A2 (calls4).length c3 :: (Value.slice A5 (writes7).length c6 :: [])), cR encCall 7 A2 c3 51 calls4, cR encCall 7 A5 c6 51 writes7] ++ T) w) :
    Calls Try.prog 78 (List.toArray [.pointer (some ⟨b1, 0, none⟩)]) w (fun e w' => ∃ g : Unit, (True) ∧ e = .returned (.tuple #[.int .i64 res.1, .int .i64 res.2.1, .bool res.2.2]) ∧ St w0.heap.size w0 ([cBx b1 220 (Value.slice A2 (calls4).length c3 :: (Value.slice A5 (writes7).length c6 :: [])), cR encCall 7 A2 c3 51 calls4, cR encCall 7 A5 c6 51 writes7] ++ T) w') := by
  refine W.enter (n := 55) Try.func78 rfl rfl Sub.refl (by simp) hw fun R hR => ?_
  unfold regular_log_turned at hF
  -- region 0: regular.go:80
  refine W.seqR fun Q1 hQ1 => ?_
  refine WL.q (Y.assign (.pl rfl)) rfl ?_
  refine WL.q (Y.assign (.pl rfl)) rfl ?_
  refine WL.q (Y.assign (.pl rfl)) rfl ?_
  refine WL.next hQ1 (.cons (i := 0) rfl (.nil)) ?_
  -- region 1: regular.go:81
  refine W.seqR fun Q2 hQ2 => ?_
  refine WL.q (Y.move (.pl rfl)) rfl ?_
  obtain ⟨r8, hr8, hF⟩ := bnd hF
  refine WL.step (WO.call (γ := (Option Addr × Nat)) (fun g => .slice g.1 (r8).length g.2) (fun g => ([cBx b1 220 (Value.slice A2 (calls4).length c3 :: (Value.slice A5 (writes7).length c6 :: [])), cR encCall 7 A2 c3 51 calls4, cR encCall 7 A5 c6 51 writes7, cR encRegularJudged 4 g.1 g.2 159 r8] ++ T)) (fun g => True) isGo79 (.cons (.pl rfl) (.nil)) rfl (fun wz hw => regular_log_reads_ok (T := ([] ++ T)) (hr8) (hw.pickK 3 [0, 1, 2] rfl) ) ?_)
  rintro ⟨A9, c10⟩ -
  obtain ⟨r11, hr11, hF⟩ := bnd hF
  refine WL.step (WO.call (γ := Unit) (fun g => .slice A9 (r11).length c10) (fun g => ([cR encRegularJudged 4 A9 c10 159 r11, cBx b1 220 (Value.slice A2 (calls4).length c3 :: (Value.slice A5 (writes7).length c6 :: [])), cR encCall 7 A2 c3 51 calls4, cR encCall 7 A5 c6 51 writes7] ++ T)) (fun g => True) isGo113 (.cons (.pl rfl) (.cons (.pl rfl) (.nil))) rfl (fun wz hw => slices_DeleteFunc_regular_judged_regular_judged_ok (T := ([cBx b1 220 (Value.slice A2 (calls4).length c3 :: (Value.slice A5 (writes7).length c6 :: [])), cR encCall 7 A2 c3 51 calls4, cR encCall 7 A5 c6 51 writes7] ++ T)) (hr11) (hw.pickK 4 [3, 0, 1, 2] rfl) ) ?_)
  rintro _ -
  refine WL.q (Y.assign (.pl rfl)) rfl ?_
  refine WL.next hQ2 (.cons (i := 0) rfl (.cons (i := 5) rfl (.nil))) ?_
  obtain ⟨o3, hF3, hF⟩ := bnd hF
  refine W.join0 (Em := []) (M := ([cBx b1 220 (Value.slice A2 (calls4).length c3 :: (Value.slice A5 (writes7).length c6 :: [])), cR encCall 7 A2 c3 51 calls4, cR encCall 7 A5 c6 51 writes7] ++ T)) (I := (.inl ()) = o3) (.nil) (fun K4 hK4 => ?_) ?_
  · -- up to
    -- region 2: regular.go:82
    refine W.seqR fun Q5 hQ5 => ?_
    refine WL.q (Y.move (.pl rfl)) rfl ?_
    refine WL.q (Y.len Try.underlying156 (.pl rfl)) rfl ?_
    refine WL.q (Y.move (.pl rfl)) rfl ?_
    refine WL.next hQ5 (.cons (i := 0) rfl (.cons (i := 5) rfl (.cons (i := 13) rfl (.cons (i := 14) rfl (.cons (i := 15) rfl (.nil)))))) ?_
    refine W.block ?_
    refine W.loop1 (Em := fun (v12 : Int) => [(15, .int .i64 v12)]) (M := fun v12 => ([cBx b1 220 (Value.slice A2 (calls4).length c3 :: (Value.slice A5 (writes7).length c6 :: [])), cR encCall 7 A2 c3 51 calls4, cR encCall 7 A5 c6 51 writes7, cR encRegularJudged 4 A9 c10 159 r11] ++ T)) (I := fun v12 k6 => iter (regular_log_turned_L25 N r11 calls4) k6 v12 = some o3) 0 N (hF3) (.cons rfl (.nil)) (.cons (i := 0) rfl (.cons (i := 5) rfl (.cons (i := 13) rfl (.cons (i := 14) rfl (.nil))))) (fun wz hw => hw.pickK 4 [1, 2, 3, 0] rfl) (fun v12 k6 hI K7 hK7 => ?_)
    obtain ⟨k6, t6, rfl, hF6, hN6⟩ := iter_step hI
    -- region 3: regular.go:82
    refine W.seqR fun Q8 hQ8 => ?_
    refine WL.q (Y.lss (.pl rfl) (.pl rfl)) rfl ?_
    refine WL.next hQ8 (.cons (i := 0) rfl (.cons (i := 5) rfl (.cons (i := 13) rfl (.cons (i := 14) rfl (.cons (i := 15) rfl (.cons (i := 16) rfl (.nil))))))) ?_
    refine W.seq fun K9 hK9 => ?_
    refine W.cond (.pl rfl) (fun hC10 => ?_) (fun hC10 => ?_)
    · replace hF6 := cpos hC10 hF6
      refine W.skip ?_
      refine W.go hK9 (.cons (i := 0) rfl (.cons (i := 5) rfl (.cons (i := 13) rfl (.cons (i := 14) rfl (.cons (i := 15) rfl (.nil)))))) ?_
      obtain ⟨o11, hF11, hF6⟩ := bnd hF6
      refine W.join0 (Em := []) (M := ([cBx b1 220 (Value.slice A2 (calls4).length c3 :: (Value.slice A5 (writes7).length c6 :: [])), cR encCall 7 A2 c3 51 calls4, cR encCall 7 A5 c6 51 writes7, cR encRegularJudged 4 A9 c10 159 r11] ++ T)) (I := (.inl ()) = o11) (.cons (i := 0) rfl (.cons (i := 5) rfl (.cons (i := 13) rfl (.cons (i := 14) rfl (.cons (i := 15) rfl (.nil)))))) (fun K12 hK12 => ?_) ?_
      · -- up to
        refine W.block ?_
        -- region 4: regular.go:82
        refine W.seqR fun Q13 hQ13 => ?_
        obtain ⟨x13, hx13, hF11⟩ := bnd hF11
        refine WL.q (Y.rowEl Try.underlying156 cells159 (i := 3) rfl (.pl rfl) rfl (.pl rfl) (ix_lt (hx13))) rfl ?_
        refine WL.q (Y.loadRA (enc := encRegularJudged) (ds := (encRegularJudged x13)) (a := x13) (idx := v12) (j := 0) Try.underlying159 rfl cells159 lenRegularJudged (i := 3) rfl (.pl rfl) (ix_get (hx13)) rfl rfl subW) rfl ?_
        refine WL.step (WO.alloc (cs := (encRegularJudged (RegularJudged.mk 0 0 false false)).toArray) zero159 rfl rfl fun b14 => ?_)
        refine WL.step (WO.storeBA (ds := (encRegularJudged x13)) (cs' := (encRegularJudged x13)) cells159 (.pl rfl) (.pl rfl) rfl (oneRegularJudged _) (i := 0) rfl (lel (o := 0) (l := 4) (m := 4) (by decide) rfl rfl) (putW rfl) ?_)
        refine WL.next hQ13 (.cons (i := 0) rfl (.cons (i := 5) rfl (.cons (i := 7) rfl (.cons (i := 13) rfl (.cons (i := 14) rfl (.cons (i := 15) rfl (.nil))))))) ?_
        -- region 5: regular.go:83
        refine W.seqR fun Q14 hQ14 => ?_
        refine WL.q (Y.move (.pl rfl)) rfl ?_
        refine WL.q (Y.len Try.underlying156 (.pl rfl)) rfl ?_
        refine WL.q (Y.move (.pl rfl)) rfl ?_
        refine WL.next hQ14 (.cons (i := 0) rfl (.cons (i := 5) rfl (.cons (i := 7) rfl (.cons (i := 13) rfl (.cons (i := 14) rfl (.cons (i := 15) rfl (.cons (i := 19) rfl (.cons (i := 20) rfl (.cons (i := 21) rfl (.nil)))))))))) ?_
        refine W.block ?_
        refine W.loop1 (Em := fun (v15 : Int) => [(21, .int .i64 v15)]) (M := fun v15 => ([cBx b1 220 (Value.slice A2 (calls4).length c3 :: (Value.slice A5 (writes7).length c6 :: [])), cR encCall 7 A2 c3 51 calls4, cR encCall 7 A5 c6 51 writes7, cR encRegularJudged 4 A9 c10 159 r11, cBx b14 159 (encRegularJudged x13)] ++ T)) (I := fun v15 k15 => iter (regular_log_turned_L27 N r11 calls4 x13) k15 v15 = some o11) 0 N (hF11) (.cons rfl (.nil)) (.cons (i := 0) rfl (.cons (i := 5) rfl (.cons (i := 7) rfl (.cons (i := 13) rfl (.cons (i := 14) rfl (.cons (i := 15) rfl (.cons (i := 19) rfl (.cons (i := 20) rfl (.nil))))))))) (fun wz hw => hw.pickK 5 [1, 2, 3, 4, 0] rfl) (fun v15 k15 hI K16 hK16 => ?_)
        obtain ⟨k15, t15, rfl, hF15, hN15⟩ := iter_step hI
        -- region 6: regular.go:83
        refine W.seqR fun Q17 hQ17 => ?_
        refine WL.q (Y.lss (.pl rfl) (.pl rfl)) rfl ?_
        refine WL.next hQ17 (.cons (i := 0) rfl (.cons (i := 5) rfl (.cons (i := 7) rfl (.cons (i := 13) rfl (.cons (i := 14) rfl (.cons (i := 15) rfl (.cons (i := 19) rfl (.cons (i := 20) rfl (.cons (i := 21) rfl (.cons (i := 22) rfl (.nil))))))))))) ?_
        refine W.seq fun K18 hK18 => ?_
        refine W.cond (.pl rfl) (fun hC19 => ?_) (fun hC19 => ?_)
        · replace hF15 := cpos hC19 hF15
          refine W.skip ?_
          refine W.go hK18 (.cons (i := 0) rfl (.cons (i := 5) rfl (.cons (i := 7) rfl (.cons (i := 13) rfl (.cons (i := 14) rfl (.cons (i := 15) rfl (.cons (i := 19) rfl (.cons (i := 20) rfl (.cons (i := 21) rfl (.nil)))))))))) ?_
          refine W.seq fun K20 hK20 => ?_
          refine W.block ?_
          -- region 7: regular.go:83
          refine W.seqR fun Q21 hQ21 => ?_
          obtain ⟨x16, hx16, hF15⟩ := bnd hF15
          refine WL.q (Y.rowEl Try.underlying156 cells159 (i := 3) rfl (.pl rfl) rfl (.pl rfl) (ix_lt (hx16))) rfl ?_
          refine WL.q (Y.loadRA (enc := encRegularJudged) (ds := (encRegularJudged x16)) (a := x16) (idx := v15) (j := 0) Try.underlying159 rfl cells159 lenRegularJudged (i := 3) rfl (.pl rfl) (ix_get (hx16)) rfl rfl subW) rfl ?_
          refine WL.step (WO.alloc (cs := (encRegularJudged (RegularJudged.mk 0 0 false false)).toArray) zero159 rfl rfl fun b17 => ?_)
          refine WL.step (WO.storeBA (ds := (encRegularJudged x16)) (cs' := (encRegularJudged x16)) cells159 (.pl rfl) (.pl rfl) rfl (oneRegularJudged _) (i := 0) rfl (lel (o := 0) (l := 4) (m := 4) (by decide) rfl rfl) (putW rfl) ?_)
          refine WL.next hQ21 (.cons (i := 0) rfl (.cons (i := 5) rfl (.cons (i := 7) rfl (.cons (i := 9) rfl (.cons (i := 13) rfl (.cons (i := 14) rfl (.cons (i := 15) rfl (.cons (i := 19) rfl (.cons (i := 20) rfl (.cons (i := 21) rfl (.nil))))))))))) ?_
          -- region 8: regular.go:84
          refine W.seqD (by kernel_rfl) (by kernel_rfl) fun R22 hR22 => ?_
          refine WD.q (Y.move (.pl rfl)) rfl ?_
          refine WD.q (Y.nilCheck (.pl rfl)) rfl ?_
          refine WD.q (Y.fieldAddr0 (off := 0) (ft := 44) Try.underlying220 rfl cells44 (.pl rfl)) rfl ?_
          refine WD.q (Y.loadB (v := .slice A2 (calls4).length c3) Try.underlying44 rfl (.pl rfl) (i := 1) rfl (rfl)) rfl ?_
          refine WD.q (Y.fieldAddr0 (off := 0) (ft := 3) Try.underlying159 rfl cells3 (.pl rfl)) rfl ?_
          refine WD.q (Y.loadB (v := .int .i64 x13.n) Try.underlying3 rfl (.pl rfl) (i := 5) rfl (rfl)) rfl ?_
          obtain ⟨x18, hx18, hF15⟩ := bnd hF15
          refine WD.q (Y.rowEl Try.underlying44 cells51 (i := 2) rfl (.pl rfl) rfl (.pl rfl) (ix_lt (hx18))) rfl ?_
          refine WD.q (Y.loadRA (enc := encCall) (ds := (encCall x18)) (a := x18) (idx := x13.n) (j := 0) Try.underlying51 rfl cells51 lenCall (i := 2) rfl (.pl rfl) (ix_get (hx18)) rfl rfl subW) rfl ?_
          refine WD.q (Y.move (.pl rfl)) rfl ?_
          refine WD.q (Y.nilCheck (.pl rfl)) rfl ?_
          refine WD.q (Y.fieldAddr0 (off := 0) (ft := 44) Try.underlying220 rfl cells44 (.pl rfl)) rfl ?_
          refine WD.q (Y.loadB (v := .slice A2 (calls4).length c3) Try.underlying44 rfl (.pl rfl) (i := 1) rfl (rfl)) rfl ?_
          refine WD.q (Y.fieldAddr0 (off := 0) (ft := 3) Try.underlying159 rfl cells3 (.pl rfl)) rfl ?_
          refine WD.q (Y.loadB (v := .int .i64 x16.n) Try.underlying3 rfl (.pl rfl) (i := 0) rfl (rfl)) rfl ?_
          obtain ⟨x19, hx19, hF15⟩ := bnd hF15
          refine WD.q (Y.rowEl Try.underlying44 cells51 (i := 2) rfl (.pl rfl) rfl (.pl rfl) (ix_lt (hx19))) rfl ?_
          refine WD.q (Y.loadRA (enc := encCall) (ds := (encCall x19)) (a := x19) (idx := x16.n) (j := 0) Try.underlying51 rfl cells51 lenCall (i := 2) rfl (.pl rfl) (ix_get (hx19)) rfl rfl subW) rfl ?_
          obtain ⟨r20, hr20, hF15⟩ := bnd hF15
          refine WD.callP isGo112 (.cons (.pl rfl) (.cons (.pl rfl) (.nil))) rfl (fun wz hw => regular_precedes_ok (hr20) wz ) ?_
          refine WD.q (Y.move (.pl rfl)) rfl ?_
          refine WD.g (.pl rfl rfl rfl) (fun hg => Y.fieldAddr0 (off := 1) (ft := 3) Try.underlying159 rfl cells3 (.pl rfl)) rfl ?_
          refine WD.g (.pl rfl rfl rfl) (fun hg => Y.loadB (v := .int .i64 x13.write) Try.underlying3 rfl (.gd (hg) rfl) (i := 5) rfl (rfl)) rfl ?_
          refine WD.g (.pl rfl rfl rfl) (fun hg => Y.fieldAddr0 (off := 1) (ft := 3) Try.underlying159 rfl cells3 (.pl rfl)) rfl ?_
          refine WD.g (.pl rfl rfl rfl) (fun hg => Y.loadB (v := .int .i64 x16.write) Try.underlying3 rfl (.gd (hg) rfl) (i := 0) rfl (rfl)) rfl ?_
          refine WD.g (.pl rfl rfl rfl) (fun hg => Y.gtr (.gd (hg) rfl) (.gd (hg) rfl)) rfl ?_
          refine WD.q (Y.and (.pl rfl) (fun h2 => .gd (eqt h2) rfl)) rfl ?_
          refine WD.next hR22 (.cons (i := 0) rfl (.cons (i := 5) rfl (.cons (i := 7) rfl (.cons (i := 9) rfl (.cons (i := 13) rfl (.cons (i := 14) rfl (.cons (i := 15) rfl (.cons (i := 19) rfl (.cons (i := 20) rfl (.cons (i := 21) rfl (.cons (i := 48) rfl (.nil)))))))))))) ?_
          refine W.cond (.pl rfl) (fun hC23 => ?_) (fun hC23 => ?_)
          · replace hF15 := cpos hC23 hF15
            -- region 9: regular.go:85
            refine W.seqD (by kernel_rfl) (by kernel_rfl) fun R24 hR24 => ?_
            refine WD.q (Y.fieldAddr0 (off := 0) (ft := 3) Try.underlying159 rfl cells3 (.pl rfl)) rfl ?_
            refine WD.q (Y.loadB (v := .int .i64 x13.n) Try.underlying3 rfl (.pl rfl) (i := 5) rfl (rfl)) rfl ?_
            refine WD.q (Y.fieldAddr0 (off := 0) (ft := 3) Try.underlying159 rfl cells3 (.pl rfl)) rfl ?_
            refine WD.q (Y.loadB (v := .int .i64 x16.n) Try.underlying3 rfl (.pl rfl) (i := 0) rfl (rfl)) rfl ?_
            refine WD.q (Y.assign (.pl rfl)) rfl ?_
            refine WD.q (Y.assign (.pl rfl)) rfl ?_
            refine WD.q (Y.assign (.pl rfl)) rfl ?_
            refine WD.next hR24 (.cons (i := 2) rfl (.cons (i := 3) rfl (.cons (i := 4) rfl (.nil)))) ?_
            obtain rfl := Option.some.inj hF15
            obtain rfl := einr hN15
            obtain rfl := Option.some.inj hF6
            obtain rfl := einr hN6
            obtain rfl := Option.some.inj hF
            refine W.retV (fn := Try.f78) (vs := [.int .i64 x13.n, .int .i64 x16.n, .bool true]) Try.results78 ⟨.tmp rfl, ⟨.tmp rfl, ⟨.tmp rfl, trivial⟩⟩⟩ (fun _ _ h => h) (fun wz hw => ?_)
            exact hR _ _ ⟨(), trivial, rfl, (hw.pickK 6 [1, 2, 3] rfl)⟩
          · replace hF15 := cneg hC23 hF15
            refine W.skip ?_
            refine W.go hK20 (.cons (i := 0) rfl (.cons (i := 5) rfl (.cons (i := 7) rfl (.cons (i := 13) rfl (.cons (i := 14) rfl (.cons (i := 15) rfl (.cons (i := 19) rfl (.cons (i := 20) rfl (.cons (i := 21) rfl (.nil)))))))))) ?_
            -- region 10: regular.go:83
            refine W.reg ?_
            obtain ⟨hk21, hF15⟩ := ckh hF15
            refine WL.q (Y.add (.pl rfl) (.pl rfl) (ok64_lt (hk21))) rfl ?_
            refine WL.q (Y.move (.pl rfl)) rfl ?_
            refine WL.nil ?_
            obtain rfl := Option.some.inj hF15
            exact W.again1 hK16 (v15 + 1) k15 hN15 (Nat.lt_succ_self _) (.cons rfl (.nil)) (.cons (i := 0) rfl (.cons (i := 5) rfl (.cons (i := 7) rfl (.cons (i := 13) rfl (.cons (i := 14) rfl (.cons (i := 15) rfl (.cons (i := 19) rfl (.cons (i := 20) rfl (.nil))))))))) (fun wz hw => hw.pickK 6 [1, 2, 3, 4, 5] rfl)
        · replace hF15 := cneg hC19 hF15
          refine W.exit ?_
          obtain rfl := Option.some.inj hF15
          exact W.joinAt0 hK12  (einr hN15) (.nil) (.cons (i := 0) rfl (.cons (i := 5) rfl (.cons (i := 13) rfl (.cons (i := 14) rfl (.cons (i := 15) rfl (.nil)))))) (fun wz hw => hw.pickK 5 [0, 1, 2, 3] rfl)
      · -- behind
        rintro  rfl
        -- region 11: regular.go:82
        refine W.reg ?_
        obtain ⟨hk22, hF6⟩ := ckh hF6
        refine WL.q (Y.add (.pl rfl) (.pl rfl) (ok64_lt (hk22))) rfl ?_
        refine WL.q (Y.move (.pl rfl)) rfl ?_
        refine WL.nil ?_
        obtain rfl := Option.some.inj hF6
        exact W.again1 hK7 (v12 + 1) k6 hN6 (Nat.lt_succ_self _) (.cons rfl (.nil)) (.cons (i := 0) rfl (.cons (i := 5) rfl (.cons (i := 13) rfl (.cons (i := 14) rfl (.nil))))) (fun wz hw => hw.pickK 4 [0, 1, 2, 3] rfl)
    · replace hF6 := cneg hC10 hF6
      refine W.exit ?_
      obtain rfl := Option.some.inj hF6
      exact W.joinAt0 hK4  (einr hN6) (.nil) (.nil) (fun wz hw => hw.pickK 4 [0, 1, 2] rfl)
  · -- behind
    rintro  rfl
    -- region 12: regular.go:89
    refine W.seqR fun Q27 hQ27 => ?_
    refine WL.q (Y.assign (.pl rfl)) rfl ?_
    refine WL.q (Y.assign (.pl rfl)) rfl ?_
    refine WL.q (Y.assign (.pl rfl)) rfl ?_
    refine WL.next hQ27 (.cons (i := 2) rfl (.cons (i := 3) rfl (.cons (i := 4) rfl (.nil)))) ?_
    obtain rfl := Option.some.inj hF
    refine W.retV (fn := Try.f78) (vs := [.int .i64 0, .int .i64 0, .bool false]) Try.results78 ⟨.tmp rfl, ⟨.tmp rfl, ⟨.tmp rfl, trivial⟩⟩⟩ (fun _ _ h => h) (fun wz hw => ?_)
    exact hR _ _ ⟨(), trivial, rfl, (hw.pickK 3 [0, 1, 2] rfl)⟩

def regular_Check_L3 (N : Nat) (r19 : (List RegularJudged)) : (Int × Int) → Option ((Int × Int) ⊕ Int)
  | (level22, v23) =>
    cond (decide (v23 < ((r19).length : Int)))
      (bd (ix r19 v23) fun (x24 : RegularJudged) =>
      cond (!x24.safe)
        (ck (ok64 (v23 + 1)) <|
        some (.inl (0, (v23 + 1))))
        (cond (!x24.regular)
          (ck (ok64 (v23 + 1)) <|
          some (.inl ((min level22 1), (v23 + 1))))
          (ck (ok64 (v23 + 1)) <|
          some (.inl (level22, (v23 + 1))))))
      (some (.inr level22))

def regular_Check (N : Nat) (l1 : (List Event)) : Option (Int × Int) :=
  bd (regular_read N l1) fun (r6 : (Bool × (List Call) × (List Call) × Int)) =>
  cond (!(decide (r6.2.2.2 = 0)))
    (some (0, r6.2.2.2))
    (bd (α := Int) (ck (r6.1) <|
      bd (regular_log_turned N r6.2.1 r6.2.2.1) fun (r17 : (Int × Int × Bool)) =>
      cond r17.2.2
        (some 2)
        (some 3)) <|
    fun (level14 : Int) => 
      bd (α := Int) (bd (regular_log_reads N r6.2.1 r6.2.2.1) fun (r19 : (List RegularJudged)) =>
        iter (regular_Check_L3 N r19) N (level14, 0)) <|
      fun (level18 : Int) => 
        some (level18, 0))

theorem regular_Check_ok {N : Nat} {l1 : (List Event)} {res : (Int × Int)} (hF : regular_Check N l1 = some res) (w : World) {v5 : Value} (hs4 : SlIn encEvent 4 w v5 l1) :
    Pure Try.prog 45 [v5] w (.tuple #[.int .i64 res.1, .int .i64 res.2]) := by
  obtain ⟨A2, c3, rfl, hcc3, hs4⟩ := hs4.form
  refine W.enter (n := 46) Try.func45 rfl rfl Sub.refl (by simp) (St.start w) fun R hR => ?_
  unfold regular_Check at hF
  -- region 0: regular.go:93
  refine W.seqR fun Q1 hQ1 => ?_
  refine WL.q (Y.assign (.pl rfl)) rfl ?_
  refine WL.q (Y.assign (.pl rfl)) rfl ?_
  refine WL.next hQ1 (.cons (i := 0) rfl (.nil)) ?_
  -- region 1: regular.go:94
  refine W.seqR fun Q2 hQ2 => ?_
  refine WL.q (Y.move (.pl rfl)) rfl ?_
  obtain ⟨r6, hr6, hF⟩ := bnd hF
  refine WL.step (WO.callM isGo77 (.cons (.pl rfl) (.nil)) rfl (fun wz hw => regular_read_ok (hr6) wz (hs4.mono hw)) ?_)
  rintro ⟨b7, A8, c9, A10, c11⟩ hl12
  refine WL.q (Y.move (.pl rfl)) rfl ?_
  refine WL.q (Y.extract (.pl rfl) rfl) rfl ?_
  refine WL.q (Y.extract (.pl rfl) rfl) rfl ?_
  refine WL.q (Y.assign (.pl rfl)) rfl ?_
  refine WL.q (Y.assign (.pl rfl)) rfl ?_
  refine WL.next hQ2 (.cons (i := 4) rfl (.cons (i := 5) rfl (.nil))) ?_
  refine W.seq fun K3 hK3 => ?_
  -- region 2: regular.go:95
  refine W.seqR fun Q4 hQ4 => ?_
  refine WL.q (Y.move (.pl rfl)) rfl ?_
  refine WL.q (Y.neq (.pl rfl) (.pl rfl)) rfl ?_
  refine WL.next hQ4 (.cons (i := 4) rfl (.cons (i := 5) rfl (.cons (i := 18) rfl (.nil)))) ?_
  refine W.cond (.pl rfl) (fun hC5 => ?_) (fun hC5 => ?_)
  · replace hF := cpos hC5 hF
    -- region 3: regular.go:96
    refine W.seqR fun Q6 hQ6 => ?_
    refine WL.q (Y.move (.pl rfl)) rfl ?_
    refine WL.q (Y.assign (.pl rfl)) rfl ?_
    refine WL.q (Y.assign (.pl rfl)) rfl ?_
    refine WL.next hQ6 (.cons (i := 2) rfl (.cons (i := 3) rfl (.nil))) ?_
    obtain rfl := Option.some.inj hF
    refine W.retV (fn := Try.f45) (vs := [.int .i64 0, .int .i64 r6.2.2.2]) Try.results45 ⟨.tmp rfl, ⟨.tmp rfl, trivial⟩⟩ (fun _ _ h => h) (fun wz hw => ?_)
    exact hR _ _ ⟨rfl, (hw.pick [] rfl)⟩
  · replace hF := cneg hC5 hF
    refine W.skip ?_
    refine W.go hK3 (.cons (i := 4) rfl (.nil)) ?_
    -- region 4: regular.go:98
    refine W.seqR fun Q7 hQ7 => ?_
    refine WL.q (Y.assign (.pl rfl)) rfl ?_
    refine WL.next hQ7 (.cons (i := 4) rfl (.cons (i := 6) rfl (.nil))) ?_
    obtain ⟨o8, hF8, hF⟩ := bnd hF
    refine W.join2 (Em := fun (level14 : Int) (b13 : Nat) => [(4, .pointer (some ⟨b13, 0, none⟩)), (6, .int .i64 level14)]) (M := fun level14 b13 => [cBx b13 220 (Value.slice A8 (r6.2.1).length c9 :: (Value.slice A10 (r6.2.2.1).length c11 :: [])), cR encCall 7 A8 c9 51 r6.2.1, cR encCall 7 A10 c11 51 r6.2.2.1]) (I := fun level14 b13 => level14 = o8) (.nil) (fun K9 hK9 => ?_) ?_
    · -- up to
      -- region 5: regular.go:99
      obtain ⟨hk15, hF8⟩ := ckh hF8
      obtain ⟨b16, rfl⟩ := Option.isSome_iff_exists.1 (hl12.symm.trans hk15)
      refine W.seqR fun Q10 hQ10 => ?_
      refine WL.q (Y.move (.pl rfl)) rfl ?_
      obtain ⟨r17, hr17, hF8⟩ := bnd hF8
      refine WL.step (WO.call (γ := Unit) (fun g => .tuple #[.int .i64 r17.1, .int .i64 r17.2.1, .bool r17.2.2]) (fun g => [cBx b16 220 (Value.slice A8 (r6.2.1).length c9 :: (Value.slice A10 (r6.2.2.1).length c11 :: [])), cR encCall 7 A8 c9 51 r6.2.1, cR encCall 7 A10 c11 51 r6.2.2.1]) (fun g => True) isGo78 (.cons (.pl rfl) (.nil)) rfl (fun wz hw => regular_log_turned_ok (T := []) (hr17) (hw.pick [0, 1, 2] rfl) ) ?_)
      rintro _ -
      refine WL.q (Y.move (.pl rfl)) rfl ?_
      refine WL.q (Y.extract (.pl rfl) rfl) rfl ?_
      refine WL.q (Y.extract (.pl rfl) rfl) rfl ?_
      refine WL.q (Y.extract (.pl rfl) rfl) rfl ?_
      refine WL.q (Y.assign (.pl rfl)) rfl ?_
      refine WL.q (Y.assign (.pl rfl)) rfl ?_
      refine WL.q (Y.assign (.pl rfl)) rfl ?_
      refine WL.next hQ10 (.cons (i := 4) rfl (.cons (i := 6) rfl (.cons (i := 9) rfl (.nil)))) ?_
      -- region 6: regular.go:99
      refine W.seqR fun Q11 hQ11 => ?_
      refine WL.q (Y.move (.pl rfl)) rfl ?_
      refine WL.next hQ11 (.cons (i := 4) rfl (.cons (i := 6) rfl (.cons (i := 26) rfl (.nil)))) ?_
      refine W.cond (.pl rfl) (fun hC12 => ?_) (fun hC12 => ?_)
      · replace hF8 := cpos hC12 hF8
        -- region 7: regular.go:100
        refine W.reg ?_
        refine WL.q (Y.assign (.pl rfl)) rfl ?_
        refine WL.nil ?_
        exact W.joinAt2 hK9 2 b16 (Option.some.inj hF8) (.cons rfl (.cons rfl (.nil))) (.nil) (fun wz hw => hw.pick [0, 1, 2] rfl)
      · replace hF8 := cneg hC12 hF8
        refine W.skip ?_
        exact W.joinAt2 hK9 3 b16 (Option.some.inj hF8) (.cons rfl (.cons rfl (.nil))) (.nil) (fun wz hw => hw.pick [0, 1, 2] rfl)
    · -- behind
      rintro level14 b13 rfl
      obtain ⟨o14, hF14, hF⟩ := bnd hF
      refine W.join1 (Em := fun (level18 : Int) => [(6, .int .i64 level18)]) (M := fun level18 => []) (I := fun level18 => level18 = o14) (.nil) (fun K15 hK15 => ?_) ?_
      · -- up to
        -- region 8: regular.go:102
        refine W.seqR fun Q16 hQ16 => ?_
        refine WL.q (Y.move (.pl rfl)) rfl ?_
        obtain ⟨r19, hr19, hF14⟩ := bnd hF14
        refine WL.step (WO.call (γ := (Option Addr × Nat)) (fun g => .slice g.1 (r19).length g.2) (fun g => [cBx b13 220 (Value.slice A8 (r6.2.1).length c9 :: (Value.slice A10 (r6.2.2.1).length c11 :: [])), cR encCall 7 A8 c9 51 r6.2.1, cR encCall 7 A10 c11 51 r6.2.2.1, cR encRegularJudged 4 g.1 g.2 159 r19]) (fun g => True) isGo79 (.cons (.pl rfl) (.nil)) rfl (fun wz hw => regular_log_reads_ok (T := []) (hr19) (hw.pick [0, 1, 2] rfl) ) ?_)
        rintro ⟨A20, c21⟩ -
        refine WL.q (Y.len Try.underlying156 (.pl rfl)) rfl ?_
        refine WL.q (Y.move (.pl rfl)) rfl ?_
        refine WL.next hQ16 (.cons (i := 6) rfl (.cons (i := 28) rfl (.cons (i := 29) rfl (.cons (i := 30) rfl (.nil))))) ?_
        refine W.block ?_
        refine W.loop2 (Em := fun (level22 : Int) (v23 : Int) => [(6, .int .i64 level22), (30, .int .i64 v23)]) (M := fun level22 v23 => [cR encRegularJudged 4 A20 c21 159 r19]) (I := fun level22 v23 k17 => iter (regular_Check_L3 N r19) k17 (level22, v23) = some o14) level14 0 N (hF14) (.cons rfl (.cons rfl (.nil))) (.cons (i := 28) rfl (.cons (i := 29) rfl (.nil))) (fun wz hw => hw.pick [3] rfl) (fun level22 v23 k17 hI K18 hK18 => ?_)
        obtain ⟨k17, t17, rfl, hF17, hN17⟩ := iter_step hI
        -- region 9: regular.go:102
        refine W.seqR fun Q19 hQ19 => ?_
        refine WL.q (Y.lss (.pl rfl) (.pl rfl)) rfl ?_
        refine WL.next hQ19 (.cons (i := 6) rfl (.cons (i := 28) rfl (.cons (i := 29) rfl (.cons (i := 30) rfl (.cons (i := 31) rfl (.nil)))))) ?_
        refine W.seq fun K20 hK20 => ?_
        refine W.cond (.pl rfl) (fun hC21 => ?_) (fun hC21 => ?_)
        · replace hF17 := cpos hC21 hF17
          refine W.skip ?_
          refine W.go hK20 (.cons (i := 6) rfl (.cons (i := 28) rfl (.cons (i := 29) rfl (.cons (i := 30) rfl (.nil))))) ?_
          refine W.seq fun K22 hK22 => ?_
          refine W.block ?_
          -- region 10: regular.go:102
          refine W.seqR fun Q23 hQ23 => ?_
          obtain ⟨x24, hx24, hF17⟩ := bnd hF17
          refine WL.q (Y.rowEl Try.underlying156 cells159 (i := 0) rfl (.pl rfl) rfl (.pl rfl) (ix_lt (hx24))) rfl ?_
          refine WL.q (Y.loadRA (enc := encRegularJudged) (ds := (encRegularJudged x24)) (a := x24) (idx := v23) (j := 0) Try.underlying159 rfl cells159 lenRegularJudged (i := 0) rfl (.pl rfl) (ix_get (hx24)) rfl rfl subW) rfl ?_
          refine WL.step (WO.alloc (cs := (encRegularJudged (RegularJudged.mk 0 0 false false)).toArray) zero159 rfl rfl fun b25 => ?_)
          refine WL.step (WO.storeBA (ds := (encRegularJudged x24)) (cs' := (encRegularJudged x24)) cells159 (.pl rfl) (.pl rfl) rfl (oneRegularJudged _) (i := 0) rfl (lel (o := 0) (l := 4) (m := 4) (by decide) rfl rfl) (putW rfl) ?_)
          refine WL.next hQ23 (.cons (i := 6) rfl (.cons (i := 11) rfl (.cons (i := 28) rfl (.cons (i := 29) rfl (.cons (i := 30) rfl (.nil)))))) ?_
          refine W.block ?_
          -- region 11: regular.go:104
          refine W.seqR fun Q24 hQ24 => ?_
          refine WL.q (Y.fieldAddr0 (off := 3) (ft := 4) Try.underlying159 rfl cells4 (.pl rfl)) rfl ?_
          refine WL.q (Y.loadB (v := .bool x24.safe) Try.underlying4 rfl (.pl rfl) (i := 0) rfl (rfl)) rfl ?_
          refine WL.q (Y.not (.pl rfl)) rfl ?_
          refine WL.q (Y.assign (.pl rfl)) rfl ?_
          refine WL.next hQ24 (.cons (i := 6) rfl (.cons (i := 11) rfl (.cons (i := 28) rfl (.cons (i := 29) rfl (.cons (i := 30) rfl (.cons (i := 34) rfl (.nil))))))) ?_
          refine W.cond (.pl rfl) (fun hC25 => ?_) (fun hC25 => ?_)
          · replace hF17 := cpos hC25 hF17
            -- region 12: regular.go:105
            refine W.reg ?_
            refine WL.q (Y.assign (.pl rfl)) rfl ?_
            refine WL.nil ?_
            refine W.go hK22 (.cons (i := 6) rfl (.cons (i := 28) rfl (.cons (i := 29) rfl (.cons (i := 30) rfl (.nil))))) ?_
            -- region 15: regular.go:102
            refine W.reg ?_
            obtain ⟨hk26, hF17⟩ := ckh hF17
            refine WL.q (Y.add (.pl rfl) (.pl rfl) (ok64_lt (hk26))) rfl ?_
            refine WL.q (Y.move (.pl rfl)) rfl ?_
            refine WL.nil ?_
            obtain rfl := Option.some.inj hF17
            exact W.again2 hK18 0 (v23 + 1) k17 hN17 (Nat.lt_succ_self _) (.cons rfl (.cons rfl (.nil))) (.cons (i := 28) rfl (.cons (i := 29) rfl (.nil))) (fun wz hw => hw.pick [1] rfl)
          · replace hF17 := cneg hC25 hF17
            -- region 13: regular.go:106
            refine W.seqR fun Q28 hQ28 => ?_
            refine WL.q (Y.fieldAddr0 (off := 2) (ft := 4) Try.underlying159 rfl cells4 (.pl rfl)) rfl ?_
            refine WL.q (Y.loadB (v := .bool x24.regular) Try.underlying4 rfl (.pl rfl) (i := 0) rfl (rfl)) rfl ?_
            refine WL.q (Y.not (.pl rfl)) rfl ?_
            refine WL.q (Y.assign (.pl rfl)) rfl ?_
            refine WL.next hQ28 (.cons (i := 6) rfl (.cons (i := 28) rfl (.cons (i := 29) rfl (.cons (i := 30) rfl (.cons (i := 38) rfl (.nil)))))) ?_
            refine W.cond (.pl rfl) (fun hC29 => ?_) (fun hC29 => ?_)
            · replace hF17 := cpos hC29 hF17
              -- region 14: regular.go:107
              refine W.reg ?_
              refine WL.q (Y.move (.pl rfl)) rfl ?_
              refine WL.q (Y.min (.pl rfl) (.pl rfl)) rfl ?_
              refine WL.q (Y.assign (.pl rfl)) rfl ?_
              refine WL.nil ?_
              refine W.go hK22 (.cons (i := 6) rfl (.cons (i := 28) rfl (.cons (i := 29) rfl (.cons (i := 30) rfl (.nil))))) ?_
              -- region 15: regular.go:102
              refine W.reg ?_
              obtain ⟨hk27, hF17⟩ := ckh hF17
              refine WL.q (Y.add (.pl rfl) (.pl rfl) (ok64_lt (hk27))) rfl ?_
              refine WL.q (Y.move (.pl rfl)) rfl ?_
              refine WL.nil ?_
              obtain rfl := Option.some.inj hF17
              exact W.again2 hK18 (min level22 1) (v23 + 1) k17 hN17 (Nat.lt_succ_self _) (.cons rfl (.cons rfl (.nil))) (.cons (i := 28) rfl (.cons (i := 29) rfl (.nil))) (fun wz hw => hw.pick [1] rfl)
            · replace hF17 := cneg hC29 hF17
              refine W.skip ?_
              refine W.go hK22 (.cons (i := 6) rfl (.cons (i := 28) rfl (.cons (i := 29) rfl (.cons (i := 30) rfl (.nil))))) ?_
              -- region 15: regular.go:102
              refine W.reg ?_
              obtain ⟨hk28, hF17⟩ := ckh hF17
              refine WL.q (Y.add (.pl rfl) (.pl rfl) (ok64_lt (hk28))) rfl ?_
              refine WL.q (Y.move (.pl rfl)) rfl ?_
              refine WL.nil ?_
              obtain rfl := Option.some.inj hF17
              exact W.again2 hK18 level22 (v23 + 1) k17 hN17 (Nat.lt_succ_self _) (.cons rfl (.cons rfl (.nil))) (.cons (i := 28) rfl (.cons (i := 29) rfl (.nil))) (fun wz hw => hw.pick [1] rfl)
        · replace hF17 := cneg hC21 hF17
          refine W.exit ?_
          obtain rfl := Option.some.inj hF17
          exact W.joinAt1 hK15 level22 (einr hN17) (.cons rfl (.nil)) (.nil) (fun wz hw => hw.pick [] rfl)
      · -- behind
        rintro level18 rfl
        -- region 16: regular.go:110
        refine W.seqR fun Q33 hQ33 => ?_
        refine WL.q (Y.move (.pl rfl)) rfl ?_
        refine WL.q (Y.assign (.pl rfl)) rfl ?_
        refine WL.q (Y.assign (.pl rfl)) rfl ?_
        refine WL.next hQ33 (.cons (i := 2) rfl (.cons (i := 3) rfl (.nil))) ?_
        obtain rfl := Option.some.inj hF
        refine W.retV (fn := Try.f45) (vs := [.int .i64 level18, .int .i64 0]) Try.results45 ⟨.tmp rfl, ⟨.tmp rfl, trivial⟩⟩ (fun _ _ h => h) (fun wz hw => ?_)
        exact hR _ _ ⟨rfl, (hw.pick [] rfl)⟩

def regular_Turned (N : Nat) (l1 : (List Event)) : Option (Int × Int × Bool × Int) :=
  bd (regular_read N l1) fun (r6 : (Bool × (List Call) × (List Call) × Int)) =>
  cond (!(decide (r6.2.2.2 = 0)))
    (some (0, 0, false, r6.2.2.2))
    (ck (r6.1) <|
    bd (regular_log_turned N r6.2.1 r6.2.2.1) fun (r15 : (Int × Int × Bool)) =>
    some (r15.1, r15.2.1, r15.2.2, 0))

theorem regular_Turned_ok {N : Nat} {l1 : (List Event)} {res : (Int × Int × Bool × Int)} (hF : regular_Turned N l1 = some res) (w : World) {v5 : Value} (hs4 : SlIn encEvent 4 w v5 l1) :
    Pure Try.prog 49 [v5] w (.tuple #[.int .i64 res.1, .int .i64 res.2.1, .bool res.2.2.1, .int .i64 res.2.2.2]) := by
  obtain ⟨A2, c3, rfl, hcc3, hs4⟩ := hs4.form
  refine W.enter (n := 28) Try.func49 rfl rfl Sub.refl (by simp) (St.start w) fun R hR => ?_
  unfold regular_Turned at hF
  -- region 0: regular.go:114
  refine W.seqR fun Q1 hQ1 => ?_
  refine WL.q (Y.assign (.pl rfl)) rfl ?_
  refine WL.q (Y.assign (.pl rfl)) rfl ?_
  refine WL.q (Y.assign (.pl rfl)) rfl ?_
  refine WL.q (Y.assign (.pl rfl)) rfl ?_
  refine WL.next hQ1 (.cons (i := 0) rfl (.nil)) ?_
  -- region 1: regular.go:115
  refine W.seqR fun Q2 hQ2 => ?_
  refine WL.q (Y.move (.pl rfl)) rfl ?_
  obtain ⟨r6, hr6, hF⟩ := bnd hF
  refine WL.step (WO.callM isGo77 (.cons (.pl rfl) (.nil)) rfl (fun wz hw => regular_read_ok (hr6) wz (hs4.mono hw)) ?_)
  rintro ⟨b7, A8, c9, A10, c11⟩ hl12
  refine WL.q (Y.move (.pl rfl)) rfl ?_
  refine WL.q (Y.extract (.pl rfl) rfl) rfl ?_
  refine WL.q (Y.extract (.pl rfl) rfl) rfl ?_
  refine WL.q (Y.assign (.pl rfl)) rfl ?_
  refine WL.q (Y.assign (.pl rfl)) rfl ?_
  refine WL.next hQ2 (.cons (i := 6) rfl (.cons (i := 7) rfl (.nil))) ?_
  refine W.seq fun K3 hK3 => ?_
  -- region 2: regular.go:116
  refine W.seqR fun Q4 hQ4 => ?_
  refine WL.q (Y.move (.pl rfl)) rfl ?_
  refine WL.q (Y.neq (.pl rfl) (.pl rfl)) rfl ?_
  refine WL.next hQ4 (.cons (i := 6) rfl (.cons (i := 7) rfl (.cons (i := 17) rfl (.nil)))) ?_
  refine W.cond (.pl rfl) (fun hC5 => ?_) (fun hC5 => ?_)
  · replace hF := cpos hC5 hF
    -- region 3: regular.go:117
    refine W.seqR fun Q6 hQ6 => ?_
    refine WL.q (Y.move (.pl rfl)) rfl ?_
    refine WL.q (Y.assign (.pl rfl)) rfl ?_
    refine WL.q (Y.assign (.pl rfl)) rfl ?_
    refine WL.q (Y.assign (.pl rfl)) rfl ?_
    refine WL.q (Y.assign (.pl rfl)) rfl ?_
    refine WL.next hQ6 (.cons (i := 2) rfl (.cons (i := 3) rfl (.cons (i := 4) rfl (.cons (i := 5) rfl (.nil))))) ?_
    obtain rfl := Option.some.inj hF
    refine W.retV (fn := Try.f49) (vs := [.int .i64 0, .int .i64 0, .bool false, .int .i64 r6.2.2.2]) Try.results49 ⟨.tmp rfl, ⟨.tmp rfl, ⟨.tmp rfl, ⟨.tmp rfl, trivial⟩⟩⟩⟩ (fun _ _ h => h) (fun wz hw => ?_)
    exact hR _ _ ⟨rfl, (hw.pick [] rfl)⟩
  · replace hF := cneg hC5 hF
    refine W.skip ?_
    refine W.go hK3 (.cons (i := 6) rfl (.nil)) ?_
    -- region 4: regular.go:119
    obtain ⟨hk13, hF⟩ := ckh hF
    obtain ⟨b14, rfl⟩ := Option.isSome_iff_exists.1 (hl12.symm.trans hk13)
    refine W.seqR fun Q7 hQ7 => ?_
    refine WL.q (Y.move (.pl rfl)) rfl ?_
    obtain ⟨r15, hr15, hF⟩ := bnd hF
    refine WL.step (WO.call (γ := Unit) (fun g => .tuple #[.int .i64 r15.1, .int .i64 r15.2.1, .bool r15.2.2]) (fun g => [cBx b14 220 (Value.slice A8 (r6.2.1).length c9 :: (Value.slice A10 (r6.2.2.1).length c11 :: [])), cR encCall 7 A8 c9 51 r6.2.1, cR encCall 7 A10 c11 51 r6.2.2.1]) (fun g => True) isGo78 (.cons (.pl rfl) (.nil)) rfl (fun wz hw => regular_log_turned_ok (T := []) (hr15) (hw.pick [0, 1, 2] rfl) ) ?_)
    rintro _ -
    refine WL.q (Y.move (.pl rfl)) rfl ?_
    refine WL.q (Y.extract (.pl rfl) rfl) rfl ?_
    refine WL.q (Y.extract (.pl rfl) rfl) rfl ?_
    refine WL.q (Y.extract (.pl rfl) rfl) rfl ?_
    refine WL.q (Y.assign (.pl rfl)) rfl ?_
    refine WL.q (Y.assign (.pl rfl)) rfl ?_
    refine WL.q (Y.assign (.pl rfl)) rfl ?_
    refine WL.next hQ7 (.cons (i := 8) rfl (.cons (i := 9) rfl (.cons (i := 10) rfl (.nil)))) ?_
    -- region 5: regular.go:120
    refine W.seqR fun Q8 hQ8 => ?_
    refine WL.q (Y.move (.pl rfl)) rfl ?_
    refine WL.q (Y.move (.pl rfl)) rfl ?_
    refine WL.q (Y.move (.pl rfl)) rfl ?_
    refine WL.q (Y.assign (.pl rfl)) rfl ?_
    refine WL.q (Y.assign (.pl rfl)) rfl ?_
    refine WL.q (Y.assign (.pl rfl)) rfl ?_
    refine WL.q (Y.assign (.pl rfl)) rfl ?_
    refine WL.next hQ8 (.cons (i := 2) rfl (.cons (i := 3) rfl (.cons (i := 4) rfl (.cons (i := 5) rfl (.nil))))) ?_
    obtain rfl := Option.some.inj hF
    refine W.retV (fn := Try.f49) (vs := [.int .i64 r15.1, .int .i64 r15.2.1, .bool r15.2.2, .int .i64 0]) Try.results49 ⟨.tmp rfl, ⟨.tmp rfl, ⟨.tmp rfl, ⟨.tmp rfl, trivial⟩⟩⟩⟩ (fun _ _ h => h) (fun wz hw => ?_)
    exact hR _ _ ⟨rfl, (hw.pick [] rfl)⟩

def alibkeep_late (N : Nat) : Option Unit :=
  some ()

theorem alibkeep_late_ok {N : Nat} {res : Unit} (hF : alibkeep_late N = some res) (w : World) :
    Made Try.prog 80 [] w (fun g : Option Addr => .slice g (([(Event.mk 0 0 1 5), (Event.mk 0 0 0 0), (Event.mk 1 0 2 0), (Event.mk 1 0 0 0)] : List Event)).length (([(Event.mk 0 0 1 5), (Event.mk 0 0 0 0), (Event.mk 1 0 2 0), (Event.mk 1 0 0 0)] : List Event)).length) (fun g => [cR encEvent 4 g (([(Event.mk 0 0 1 5), (Event.mk 0 0 0 0), (Event.mk 1 0 2 0), (Event.mk 1 0 0 0)] : List Event)).length 34 ([(Event.mk 0 0 1 5), (Event.mk 0 0 0 0), (Event.mk 1 0 2 0), (Event.mk 1 0 0 0)] : List Event)]) (fun g => True) := by
  refine W.enter (n := 6) Try.func80 rfl rfl Sub.refl (by simp) (St.start w) fun R hR => ?_
  unfold alibkeep_late at hF
  -- region 0: seq.go:29
  refine W.seqR fun Q1 hQ1 => ?_
  refine WL.q (Y.assign (.pl rfl)) rfl ?_
  refine WL.next hQ1 (.nil) ?_
  -- region 1: seq.go:30
  refine W.seqR fun Q2 hQ2 => ?_
  refine WL.q (Y.build (cs := (encEvent (Event.mk 0 0 1 5)).toArray) shape34 (.cons (.pl rfl) (.cons (.pl rfl) (.cons (.pl rfl) (.nil)))) (one_parts ⟨rfl, ⟨rfl, ⟨rfl, trivial⟩⟩⟩) rfl) rfl ?_
  refine WL.q (Y.build (cs := (encEvent (Event.mk 0 0 0 0)).toArray) shape34 (.cons (.pl rfl) (.nil)) (one_parts ⟨rfl, trivial⟩) rfl) rfl ?_
  refine WL.q (Y.build (cs := (encEvent (Event.mk 1 0 2 0)).toArray) shape34 (.cons (.pl rfl) (.cons (.pl rfl) (.nil))) (one_parts ⟨rfl, ⟨rfl, trivial⟩⟩) rfl) rfl ?_
  refine WL.q (Y.build (cs := (encEvent (Event.mk 1 0 0 0)).toArray) shape34 (.cons (.pl rfl) (.cons (.pl rfl) (.nil))) (one_parts ⟨rfl, ⟨rfl, trivial⟩⟩) rfl) rfl ?_
  refine WL.step (WO.bsliceC (enc := encEvent) (ys := ([(Event.mk 0 0 1 5), (Event.mk 0 0 0 0), (Event.mk 1 0 2 0), (Event.mk 1 0 0 0)] : List Event)) Try.underlying26 bz34 (.cons (.pl rfl) (.cons (.pl rfl) (.cons (.pl rfl) (.cons (.pl rfl) (.nil))))) rfl lenEvent rfl rfl (by decide) (by decide) rfl fun b1 => ?_)
  refine WL.q (Y.assign (.pl rfl)) rfl ?_
  refine WL.next hQ2 (.cons (i := 0) rfl (.nil)) ?_
  obtain rfl := Option.some.inj hF
  refine W.retV (fn := Try.f80) (vs := [.slice (some ⟨b1, 0, none⟩) (([(Event.mk 0 0 1 5), (Event.mk 0 0 0 0), (Event.mk 1 0 2 0), (Event.mk 1 0 0 0)] : List Event)).length (([(Event.mk 0 0 1 5), (Event.mk 0 0 0 0), (Event.mk 1 0 2 0), (Event.mk 1 0 0 0)] : List Event)).length]) Try.results80 ⟨.tmp rfl, trivial⟩ (fun _ _ h => h) (fun wz hw => ?_)
  exact hR _ _ ⟨(some ⟨b1, 0, none⟩), trivial, rfl, (hw.pick [0] rfl)⟩

def alibkeep_ok_L3 (N : Nat) (l1 : (List Int)) : Int → Option (Int ⊕ (Unit ⊕ Bool))
  | v6 =>
    cond (decide (v6 < ((l1).length : Int)))
      (bd (ix l1 v6) fun (x7 : Int) =>
      cond (!(decide (x7 = 0)))
        (some (.inr (.inr false)))
        (ck (ok64 (v6 + 1)) <|
        some (.inl (v6 + 1))))
      (some (.inr (.inl ())))

def alibkeep_ok (N : Nat) (l1 : (List Int)) : Option Bool :=
  bd (α := (Unit ⊕ Bool)) (iter (alibkeep_ok_L3 N l1) N 0) <|
  Sum.elim (fun _ => 
    some true) (fun p => some p)

theorem alibkeep_ok_ok {N : Nat} {l1 : (List Int)} {res : Bool} (hF : alibkeep_ok N l1 = some res) (w : World) {v5 : Value} (hs4 : SlIn (eI .i64) 1 w v5 l1) :
    Pure Try.prog 28 [v5] w (.bool res) := by
  obtain ⟨A2, c3, rfl, hcc3, hs4⟩ := hs4.form
  refine W.enter (n := 14) Try.func28 rfl rfl Sub.refl (by simp) (St.start w) fun R hR => ?_
  unfold alibkeep_ok at hF
  -- region 0: order.go:22
  refine W.seqR fun Q1 hQ1 => ?_
  refine WL.q (Y.assign (.pl rfl)) rfl ?_
  refine WL.next hQ1 (.cons (i := 0) rfl (.nil)) ?_
  obtain ⟨o2, hF2, hF⟩ := bnd hF
  refine W.join0 (Em := []) (M := []) (I := (.inl ()) = o2) (.nil) (fun K3 hK3 => ?_) ?_
  · -- up to
    -- region 1: order.go:23
    refine W.seqR fun Q4 hQ4 => ?_
    refine WL.q (Y.move (.pl rfl)) rfl ?_
    refine WL.q (Y.len Try.underlying108 (.pl rfl)) rfl ?_
    refine WL.q (Y.move (.pl rfl)) rfl ?_
    refine WL.next hQ4 (.cons (i := 5) rfl (.cons (i := 6) rfl (.cons (i := 7) rfl (.nil)))) ?_
    refine W.block ?_
    refine W.loop1 (Em := fun (v6 : Int) => [(7, .int .i64 v6)]) (M := fun v6 => []) (I := fun v6 k5 => iter (alibkeep_ok_L3 N l1) k5 v6 = some o2) 0 N (hF2) (.cons rfl (.nil)) (.cons (i := 5) rfl (.cons (i := 6) rfl (.nil))) (fun wz hw => hw.pick [] rfl) (fun v6 k5 hI K6 hK6 => ?_)
    obtain ⟨k5, t5, rfl, hF5, hN5⟩ := iter_step hI
    -- region 2: order.go:23
    refine W.seqR fun Q7 hQ7 => ?_
    refine WL.q (Y.lss (.pl rfl) (.pl rfl)) rfl ?_
    refine WL.next hQ7 (.cons (i := 5) rfl (.cons (i := 6) rfl (.cons (i := 7) rfl (.cons (i := 8) rfl (.nil))))) ?_
    refine W.seq fun K8 hK8 => ?_
    refine W.cond (.pl rfl) (fun hC9 => ?_) (fun hC9 => ?_)
    · replace hF5 := cpos hC9 hF5
      refine W.skip ?_
      refine W.go hK8 (.cons (i := 5) rfl (.cons (i := 6) rfl (.cons (i := 7) rfl (.nil)))) ?_
      refine W.seq fun K10 hK10 => ?_
      refine W.block ?_
      -- region 3: order.go:23
      refine W.seqR fun Q11 hQ11 => ?_
      obtain ⟨x7, hx7, hF5⟩ := bnd hF5
      refine WL.q (Y.slEl Try.underlying108 cells28 hs4 (.pl rfl) (.pl rfl) (ix_lt (hx7))) rfl ?_
      refine WL.q (Y.loadS (enc := (eI .i64)) (v := .int .i64 x7) (j := 0) Try.underlying28 rfl hs4 (.pl rfl) (hx7) rfl rfl) rfl ?_
      refine WL.q (Y.assign (.pl rfl)) rfl ?_
      refine WL.next hQ11 (.cons (i := 4) rfl (.cons (i := 5) rfl (.cons (i := 6) rfl (.cons (i := 7) rfl (.nil))))) ?_
      -- region 4: order.go:24
      refine W.seqR fun Q12 hQ12 => ?_
      refine WL.q (Y.move (.pl rfl)) rfl ?_
      refine WL.q (Y.neq (.pl rfl) (.pl rfl)) rfl ?_
      refine WL.next hQ12 (.cons (i := 5) rfl (.cons (i := 6) rfl (.cons (i := 7) rfl (.cons (i := 12) rfl (.nil))))) ?_
      refine W.cond (.pl rfl) (fun hC13 => ?_) (fun hC13 => ?_)
      · replace hF5 := cpos hC13 hF5
        -- region 5: order.go:25
        refine W.seqR fun Q14 hQ14 => ?_
        refine WL.q (Y.assign (.pl rfl)) rfl ?_
        refine WL.next hQ14 (.cons (i := 2) rfl (.nil)) ?_
        obtain rfl := Option.some.inj hF5
        obtain rfl := einr hN5
        obtain rfl := Option.some.inj hF
        refine W.retV (fn := Try.f28) (vs := [.bool false]) Try.results28 ⟨.tmp rfl, trivial⟩ (fun _ _ h => h) (fun wz hw => ?_)
        exact hR _ _ ⟨rfl, (hw.pick [] rfl)⟩
      · replace hF5 := cneg hC13 hF5
        refine W.skip ?_
        refine W.go hK10 (.cons (i := 5) rfl (.cons (i := 6) rfl (.cons (i := 7) rfl (.nil)))) ?_
        -- region 6: order.go:23
        refine W.reg ?_
        obtain ⟨hk8, hF5⟩ := ckh hF5
        refine WL.q (Y.add (.pl rfl) (.pl rfl) (ok64_lt (hk8))) rfl ?_
        refine WL.q (Y.move (.pl rfl)) rfl ?_
        refine WL.nil ?_
        obtain rfl := Option.some.inj hF5
        exact W.again1 hK6 (v6 + 1) k5 hN5 (Nat.lt_succ_self _) (.cons rfl (.nil)) (.cons (i := 5) rfl (.cons (i := 6) rfl (.nil))) (fun wz hw => hw.pick [] rfl)
    · replace hF5 := cneg hC9 hF5
      refine W.exit ?_
      obtain rfl := Option.some.inj hF5
      exact W.joinAt0 hK3  (einr hN5) (.nil) (.nil) (fun wz hw => hw.pick [] rfl)
  · -- behind
    rintro  rfl
    -- region 7: order.go:28
    refine W.seqR fun Q16 hQ16 => ?_
    refine WL.q (Y.assign (.pl rfl)) rfl ?_
    refine WL.next hQ16 (.cons (i := 2) rfl (.nil)) ?_
    obtain rfl := Option.some.inj hF
    refine W.retV (fn := Try.f28) (vs := [.bool true]) Try.results28 ⟨.tmp rfl, trivial⟩ (fun _ _ h => h) (fun wz hw => ?_)
    exact hR _ _ ⟨rfl, (hw.pick [] rfl)⟩

def alibkeep_regularLives (N : Nat) : Option Bool :=
  bd (regular_Check N ([(Event.mk 0 0 1 5), (Event.mk 1 0 2 0), (Event.mk 1 0 0 5), (Event.mk 1 0 2 0), (Event.mk 1 0 0 0), (Event.mk 0 0 0 0)] : List Event)) fun (r2 : (Int × Int)) =>
  bd (regular_Turned N ([(Event.mk 0 0 1 5), (Event.mk 1 0 2 0), (Event.mk 1 0 0 5), (Event.mk 1 0 2 0), (Event.mk 1 0 0 0), (Event.mk 0 0 0 0)] : List Event)) fun (r3 : (Int × Int × Bool × Int)) =>
  bd (alibkeep_late N) fun (r4 : Unit) =>
  bd (regular_Check N ([(Event.mk 0 0 1 5), (Event.mk 0 0 0 0), (Event.mk 1 0 2 0), (Event.mk 1 0 0 0)] : List Event)) fun (r6 : (Int × Int)) =>
  bd (alibkeep_ok N ([r2.2, r3.2.2.2, r6.2] : List Int)) fun (r8 : Bool) =>
  some (((((r8 && (decide (r2.1 = 2))) && (decide (r3.1 = 1))) && (decide (r3.2.1 = 2))) && r3.2.2.1) && (decide (r6.1 = 0)))

theorem alibkeep_regularLives_ok {N : Nat} {res : Bool} (hF : alibkeep_regularLives N = some res) (w : World) :
    Pure Try.prog 46 [] w (.bool res) := by
  refine W.enter (n := 58) Try.func46 rfl rfl Sub.refl (by simp) (St.start w) fun R hR => ?_
  unfold alibkeep_regularLives at hF
  -- region 0: regular.go:15
  refine W.seqR fun Q1 hQ1 => ?_
  refine WL.q (Y.assign (.pl rfl)) rfl ?_
  refine WL.next hQ1 (.nil) ?_
  -- region 1: regular.go:16
  refine W.seqR fun Q2 hQ2 => ?_
  refine WL.q (Y.build (cs := (encEvent (Event.mk 0 0 1 5)).toArray) shape34 (.cons (.pl rfl) (.cons (.pl rfl) (.cons (.pl rfl) (.nil)))) (one_parts ⟨rfl, ⟨rfl, ⟨rfl, trivial⟩⟩⟩) rfl) rfl ?_
  refine WL.q (Y.build (cs := (encEvent (Event.mk 1 0 2 0)).toArray) shape34 (.cons (.pl rfl) (.cons (.pl rfl) (.nil))) (one_parts ⟨rfl, ⟨rfl, trivial⟩⟩) rfl) rfl ?_
  refine WL.q (Y.build (cs := (encEvent (Event.mk 1 0 0 5)).toArray) shape34 (.cons (.pl rfl) (.cons (.pl rfl) (.nil))) (one_parts ⟨rfl, ⟨rfl, trivial⟩⟩) rfl) rfl ?_
  refine WL.q (Y.build (cs := (encEvent (Event.mk 1 0 2 0)).toArray) shape34 (.cons (.pl rfl) (.cons (.pl rfl) (.nil))) (one_parts ⟨rfl, ⟨rfl, trivial⟩⟩) rfl) rfl ?_
  refine WL.q (Y.build (cs := (encEvent (Event.mk 1 0 0 0)).toArray) shape34 (.cons (.pl rfl) (.cons (.pl rfl) (.nil))) (one_parts ⟨rfl, ⟨rfl, trivial⟩⟩) rfl) rfl ?_
  refine WL.q (Y.build (cs := (encEvent (Event.mk 0 0 0 0)).toArray) shape34 (.cons (.pl rfl) (.nil)) (one_parts ⟨rfl, trivial⟩) rfl) rfl ?_
  refine WL.step (WO.bsliceC (enc := encEvent) (ys := ([(Event.mk 0 0 1 5), (Event.mk 1 0 2 0), (Event.mk 1 0 0 5), (Event.mk 1 0 2 0), (Event.mk 1 0 0 0), (Event.mk 0 0 0 0)] : List Event)) Try.underlying26 bz34 (.cons (.pl rfl) (.cons (.pl rfl) (.cons (.pl rfl) (.cons (.pl rfl) (.cons (.pl rfl) (.cons (.pl rfl) (.nil))))))) rfl lenEvent rfl rfl (by decide) (by decide) rfl fun b1 => ?_)
  refine WL.q (Y.assign (.pl rfl)) rfl ?_
  refine WL.next hQ2 (.cons (i := 1) rfl (.nil)) ?_
  -- region 2: regular.go:17
  refine W.seqR fun Q3 hQ3 => ?_
  refine WL.q (Y.move (.pl rfl)) rfl ?_
  obtain ⟨r2, hr2, hF⟩ := bnd hF
  refine WL.step (WO.callP isGo45 (.cons (.pl rfl) (.nil)) rfl (fun wz hw => regular_Check_ok (hr2) wz (SlIn.ofRow lenEvent hw (i := 0) rfl)) ?_)
  refine WL.q (Y.move (.pl rfl)) rfl ?_
  refine WL.q (Y.extract (.pl rfl) rfl) rfl ?_
  refine WL.q (Y.extract (.pl rfl) rfl) rfl ?_
  refine WL.q (Y.assign (.pl rfl)) rfl ?_
  refine WL.q (Y.assign (.pl rfl)) rfl ?_
  refine WL.next hQ3 (.cons (i := 1) rfl (.cons (i := 2) rfl (.cons (i := 3) rfl (.nil)))) ?_
  -- region 3: regular.go:18
  refine W.seqR fun Q4 hQ4 => ?_
  refine WL.q (Y.move (.pl rfl)) rfl ?_
  obtain ⟨r3, hr3, hF⟩ := bnd hF
  refine WL.step (WO.callP isGo49 (.cons (.pl rfl) (.nil)) rfl (fun wz hw => regular_Turned_ok (hr3) wz (SlIn.ofRow lenEvent hw (i := 0) rfl)) ?_)
  refine WL.q (Y.move (.pl rfl)) rfl ?_
  refine WL.q (Y.extract (.pl rfl) rfl) rfl ?_
  refine WL.q (Y.extract (.pl rfl) rfl) rfl ?_
  refine WL.q (Y.extract (.pl rfl) rfl) rfl ?_
  refine WL.q (Y.extract (.pl rfl) rfl) rfl ?_
  refine WL.q (Y.assign (.pl rfl)) rfl ?_
  refine WL.q (Y.assign (.pl rfl)) rfl ?_
  refine WL.q (Y.assign (.pl rfl)) rfl ?_
  refine WL.q (Y.assign (.pl rfl)) rfl ?_
  refine WL.next hQ4 (.cons (i := 2) rfl (.cons (i := 3) rfl (.cons (i := 4) rfl (.cons (i := 5) rfl (.cons (i := 6) rfl (.cons (i := 7) rfl (.nil))))))) ?_
  -- region 4: regular.go:19
  refine W.seqR fun Q5 hQ5 => ?_
  obtain ⟨r4, hr4, hF⟩ := bnd hF
  refine WL.step (WO.callM isGo80 (.nil) rfl (fun wz hw => alibkeep_late_ok (hr4) wz ) ?_)
  rintro A5 -
  obtain ⟨r6, hr6, hF⟩ := bnd hF
  refine WL.step (WO.callP isGo45 (.cons (.pl rfl) (.nil)) rfl (fun wz hw => regular_Check_ok (hr6) wz (SlIn.ofRow lenEvent hw (i := 0) rfl)) ?_)
  refine WL.q (Y.move (.pl rfl)) rfl ?_
  refine WL.q (Y.extract (.pl rfl) rfl) rfl ?_
  refine WL.q (Y.extract (.pl rfl) rfl) rfl ?_
  refine WL.q (Y.assign (.pl rfl)) rfl ?_
  refine WL.q (Y.assign (.pl rfl)) rfl ?_
  refine WL.next hQ5 (.cons (i := 2) rfl (.cons (i := 3) rfl (.cons (i := 4) rfl (.cons (i := 5) rfl (.cons (i := 6) rfl (.cons (i := 7) rfl (.cons (i := 8) rfl (.cons (i := 9) rfl (.nil))))))))) ?_
  -- region 5: regular.go:20
  refine W.seqR fun Q6 hQ6 => ?_
  refine WL.q (Y.move (.pl rfl)) rfl ?_
  refine WL.q (Y.move (.pl rfl)) rfl ?_
  refine WL.q (Y.move (.pl rfl)) rfl ?_
  refine WL.step (WO.bsliceC (enc := (eI .i64)) (ys := ([r2.2, r3.2.2.2, r6.2] : List Int)) Try.underlying108 bz28 (.cons (.pl rfl) (.cons (.pl rfl) (.cons (.pl rfl) (.nil)))) rfl (fun _ => rfl) rfl rfl (by decide) (by decide) rfl fun b7 => ?_)
  obtain ⟨r8, hr8, hF⟩ := bnd hF
  refine WL.step (WO.callP isGo28 (.cons (.pl rfl) (.nil)) rfl (fun wz hw => alibkeep_ok_ok (hr8) wz (SlIn.ofRow (fun _ => rfl) hw (i := 0) rfl)) ?_)
  refine WL.q (Y.move (.pl rfl)) rfl ?_
  refine WL.g (.pl rfl rfl rfl) (fun hg => Y.move (.pl rfl)) rfl ?_
  refine WL.g (.pl rfl rfl rfl) (fun hg => Y.eql (.gd (hg) rfl) (.pl rfl)) rfl ?_
  refine WL.q (Y.and (.pl rfl) (fun h2 => .gd (eqt h2) rfl)) rfl ?_
  refine WL.q (Y.move (.pl rfl)) rfl ?_
  refine WL.g (.pl rfl rfl rfl) (fun hg => Y.move (.pl rfl)) rfl ?_
  refine WL.g (.pl rfl rfl rfl) (fun hg => Y.eql (.gd (hg) rfl) (.pl rfl)) rfl ?_
  refine WL.q (Y.and (.pl rfl) (fun h2 => .gd (eqt h2) rfl)) rfl ?_
  refine WL.q (Y.move (.pl rfl)) rfl ?_
  refine WL.g (.pl rfl rfl rfl) (fun hg => Y.move (.pl rfl)) rfl ?_
  refine WL.g (.pl rfl rfl rfl) (fun hg => Y.eql (.gd (hg) rfl) (.pl rfl)) rfl ?_
  refine WL.q (Y.and (.pl rfl) (fun h2 => .gd (eqt h2) rfl)) rfl ?_
  refine WL.q (Y.move (.pl rfl)) rfl ?_
  refine WL.g (.pl rfl rfl rfl) (fun hg => Y.move (.pl rfl)) rfl ?_
  refine WL.q (Y.and (.pl rfl) (fun h2 => .gd (eqt h2) rfl)) rfl ?_
  refine WL.q (Y.move (.pl rfl)) rfl ?_
  refine WL.g (.pl rfl rfl rfl) (fun hg => Y.move (.pl rfl)) rfl ?_
  refine WL.g (.pl rfl rfl rfl) (fun hg => Y.eql (.gd (hg) rfl) (.pl rfl)) rfl ?_
  refine WL.q (Y.and (.pl rfl) (fun h2 => .gd (eqt h2) rfl)) rfl ?_
  refine WL.q (Y.assign (.pl rfl)) rfl ?_
  refine WL.next hQ6 (.cons (i := 0) rfl (.nil)) ?_
  obtain rfl := Option.some.inj hF
  refine W.retV (fn := Try.f46) (vs := [.bool (((((r8 && (decide (r2.1 = 2))) && (decide (r3.1 = 1))) && (decide (r3.2.1 = 2))) && r3.2.2.1) && (decide (r6.1 = 0)))]) Try.results46 ⟨.tmp rfl, trivial⟩ (fun _ _ h => h) (fun wz hw => ?_)
  exact hR _ _ ⟨rfl, (hw.pick [] rfl)⟩

end Go.Proofs.Yteklmleiiiodfaa
