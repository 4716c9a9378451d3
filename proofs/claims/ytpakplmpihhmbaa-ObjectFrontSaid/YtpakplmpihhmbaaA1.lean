/- Objects: what their code computes, and the walks. -/
import Derived.Test.YtpakplmpihhmbaaChecked
import Derived.Test.YtpakplmpihhmbaaShelf
import Derived.Test.YtpakplmpihhmbaaStrMap
set_option linter.unusedVariables false
set_option linter.unusedSimpArgs false
set_option linter.unusedSectionVars false
set_option maxRecDepth 100000
namespace Go.Proofs.Ytpakplmpihhmbaa
open Go.RowKit
structure ObjectSingle where

deriving DecidableEq
def ObjectSingle.z : ObjectSingle := ⟨⟩
def encObjectSingle (x : ObjectSingle) : List Value := []
theorem lenObjectSingle (x : ObjectSingle) : (encObjectSingle x).length = 0 := rfl
theorem oneObjectSingle : ∀ x, ∀ v ∈ encObjectSingle x, v.oneCell' = true := fun x => one_nil
structure ObjectSet where
  many : ObjectSingle
deriving DecidableEq
def ObjectSet.z : ObjectSet := ⟨ObjectSingle.z⟩
def encObjectSet (x : ObjectSet) : List Value := (encObjectSingle x.many ++ [])
theorem lenObjectSet (x : ObjectSet) : (encObjectSet x).length = 0 := rfl
theorem oneObjectSet : ∀ x, ∀ v ∈ encObjectSet x, v.oneCell' = true := fun x => (one_app (oneObjectSingle _) one_nil)
structure ObjectRegister where
  single : ObjectSingle
deriving DecidableEq
def ObjectRegister.z : ObjectRegister := ⟨ObjectSingle.z⟩
def encObjectRegister (x : ObjectRegister) : List Value := (encObjectSingle x.single ++ [])
theorem lenObjectRegister (x : ObjectRegister) : (encObjectRegister x).length = 0 := rfl
theorem oneObjectRegister : ∀ x, ∀ v ∈ encObjectRegister x, v.oneCell' = true := fun x => (one_app (oneObjectSingle _) one_nil)
structure Do where
  kind : Int
  arg : Int
  res : Int
deriving DecidableEq
def Do.z : Do := ⟨0, 0, 0⟩
def encDo (x : Do) : List Value := (Value.int .i64 x.kind :: (Value.int .i64 x.arg :: (Value.int .i64 x.res :: [])))
theorem lenDo (x : Do) : (encDo x).length = 3 := rfl
theorem eqDo (x y : Do) : eqCells [true, true, true] (encDo x) (encDo y) = some (decide (x = y)) := by
  cases x; cases y; simp [encDo, eqCells, Do.mk.injEq, Bool.beq_eq_decide_eq]
theorem oneDo : ∀ x, ∀ v ∈ encDo x, v.oneCell' = true := fun x => (one_cons rfl (one_cons rfl (one_cons rfl one_nil)))
theorem cells3 : Try.prog.cellsOf 3 = 0 + 1 := by kernel_rfl
theorem cells28 : Try.prog.cellsOf 28 = 2 + 1 := by kernel_rfl
theorem cells29 : Try.prog.cellsOf 29 = 0 + 1 := by kernel_rfl
theorem isGo25 : IsGo Try.prog 25 := ⟨_, Try.func25, by kernel_rfl, rfl⟩
theorem isGo27 : IsGo Try.prog 27 := ⟨_, Try.func27, by kernel_rfl, rfl⟩
theorem isGo28 : IsGo Try.prog 28 := ⟨_, Try.func28, by kernel_rfl, rfl⟩
theorem isGo30 : IsGo Try.prog 30 := ⟨_, Try.func30, by kernel_rfl, rfl⟩
theorem isGo32 : IsGo Try.prog 32 := ⟨_, Try.func32, by kernel_rfl, rfl⟩
theorem isGo33 : IsGo Try.prog 33 := ⟨_, Try.func33, by kernel_rfl, rfl⟩
theorem isGo63 : IsGo Try.prog 63 := ⟨_, Try.func63, by kernel_rfl, rfl⟩
theorem isGo64 : IsGo Try.prog 64 := ⟨_, Try.func64, by kernel_rfl, rfl⟩
theorem isGo65 : IsGo Try.prog 65 := ⟨_, Try.func65, by kernel_rfl, rfl⟩
theorem isGo66 : IsGo Try.prog 66 := ⟨_, Try.func66, by kernel_rfl, rfl⟩
theorem isGo67 : IsGo Try.prog 67 := ⟨_, Try.func67, by kernel_rfl, rfl⟩
theorem isGo91 : IsGo Try.prog 91 := ⟨_, Try.func91, by kernel_rfl, rfl⟩
theorem isGo120 : IsGo Try.prog 120 := ⟨_, Try.func120, by kernel_rfl, rfl⟩
theorem isGo121 : IsGo Try.prog 121 := ⟨_, Try.func121, by kernel_rfl, rfl⟩
theorem isGo122 : IsGo Try.prog 122 := ⟨_, Try.func122, by kernel_rfl, rfl⟩
theorem isGo123 : IsGo Try.prog 123 := ⟨_, Try.func123, by kernel_rfl, rfl⟩
theorem isGo124 : IsGo Try.prog 124 := ⟨_, Try.func124, by kernel_rfl, rfl⟩
theorem isGo125 : IsGo Try.prog 125 := ⟨_, Try.func125, by kernel_rfl, rfl⟩
theorem isGo126 : IsGo Try.prog 126 := ⟨_, Try.func126, by kernel_rfl, rfl⟩
theorem isGo127 : IsGo Try.prog 127 := ⟨_, Try.func127, by kernel_rfl, rfl⟩
theorem isGo128 : IsGo Try.prog 128 := ⟨_, Try.func128, by kernel_rfl, rfl⟩
theorem isGo129 : IsGo Try.prog 129 := ⟨_, Try.func129, by kernel_rfl, rfl⟩
theorem isGo130 : IsGo Try.prog 130 := ⟨_, Try.func130, by kernel_rfl, rfl⟩
theorem isGo131 : IsGo Try.prog 131 := ⟨_, Try.func131, by kernel_rfl, rfl⟩
theorem isGo132 : IsGo Try.prog 132 := ⟨_, Try.func132, by kernel_rfl, rfl⟩
theorem isGo133 : IsGo Try.prog 133 := ⟨_, Try.func133, by kernel_rfl, rfl⟩
theorem isGo134 : IsGo Try.prog 134 := ⟨_, Try.func134, by kernel_rfl, rfl⟩
theorem isGo135 : IsGo Try.prog 135 := ⟨_, Try.func135, by kernel_rfl, rfl⟩
theorem isGo138 : IsGo Try.prog 138 := ⟨_, Try.func138, by kernel_rfl, rfl⟩
theorem isGo141 : IsGo Try.prog 141 := ⟨_, Try.func141, by kernel_rfl, rfl⟩
theorem zero28 : ∃ i, Try.prog.info? 28 = some i ∧ i.zero = some (Value.agg #[(Value.int .i64 0), (Value.int .i64 0), (Value.int .i64 0)]) := ⟨_, rfl, by kernel_rfl⟩
theorem zero133 : ∃ i, Try.prog.info? 133 = some i ∧ i.zero = some (Value.agg #[]) := ⟨_, rfl, by kernel_rfl⟩
theorem zero136 : ∃ i, Try.prog.info? 136 = some i ∧ i.zero = some (Value.agg #[]) := ⟨_, rfl, by kernel_rfl⟩
theorem zero137 : ∃ i, Try.prog.info? 137 = some i ∧ i.zero = some (Value.agg #[]) := ⟨_, rfl, by kernel_rfl⟩
theorem zero138 : ∃ i, Try.prog.info? 138 = some i ∧ i.zero = some (Value.agg #[]) := ⟨_, rfl, by kernel_rfl⟩
theorem zero139 : ∃ i, Try.prog.info? 139 = some i ∧ i.zero = some (Value.agg #[]) := ⟨_, rfl, by kernel_rfl⟩
theorem bz3 : ∃ i, Try.prog.info? 3 = some i ∧ i.zero = some (Value.int .i64 0) ∧ i.size = 1 := ⟨_, rfl, by kernel_rfl, by kernel_rfl⟩
theorem bz28 : ∃ i, Try.prog.info? 28 = some i ∧ i.zero = some (Value.agg #[(Value.int .i64 0), (Value.int .i64 0), (Value.int .i64 0)]) ∧ i.size = 3 := ⟨_, rfl, by kernel_rfl, by kernel_rfl⟩
theorem bz29 : ∃ i, Try.prog.info? 29 = some i ∧ i.zero = some (Value.int .i64 0) ∧ i.size = 1 := ⟨_, rfl, by kernel_rfl, by kernel_rfl⟩
theorem ap3 : ∃ i z, Try.prog.info? 3 = some i ∧ i.zero = some z ∧ i.size = 1 ∧ i.bytes = 8 ∧ z.cells.size = 1 ∧ 0 < 1 := ⟨_, (Value.int .i64 0), rfl, by kernel_rfl, by kernel_rfl, by kernel_rfl, by kernel_rfl, by decide⟩
theorem shape28 : Shape Try.prog 28 [(0, 1), (1, 1), (2, 1)] #[(Value.int .i64 0), (Value.int .i64 0), (Value.int .i64 0)] := ⟨_, _, Value.agg #[(Value.int .i64 0), (Value.int .i64 0), (Value.int .i64 0)], Try.underlying28, rfl, by kernel_rfl, rfl, by kernel_rfl, by decide⟩
theorem siz134 : ∃ i, Try.prog.info? 134 = some i ∧ i.size = 0 := ⟨_, rfl, by kernel_rfl⟩
theorem cel134 : Try.prog.cellsOf 134 = 0 := by kernel_rfl
theorem siz136 : ∃ i, Try.prog.info? 136 = some i ∧ i.size = 0 := ⟨_, rfl, by kernel_rfl⟩
theorem cel136 : Try.prog.cellsOf 136 = 0 := by kernel_rfl
theorem siz137 : ∃ i, Try.prog.info? 137 = some i ∧ i.size = 0 := ⟨_, rfl, by kernel_rfl⟩
theorem cel137 : Try.prog.cellsOf 137 = 0 := by kernel_rfl
theorem siz138 : ∃ i, Try.prog.info? 138 = some i ∧ i.size = 0 := ⟨_, rfl, by kernel_rfl⟩
theorem cel138 : Try.prog.cellsOf 138 = 0 := by kernel_rfl
theorem meth133_start : ∀ w, (method (Try.prog.types.size + Made.depth) 133 (.agg #[]) "alibi/object.start").run Try.prog w = .ok (120, .agg #[]) w := fun w => by kernel_rfl
theorem nah133_start : ∀ w, (nilAhead (Try.prog.types.size + Made.depth) 133 (.agg #[]) "alibi/object.start").run Try.prog w = .ok (some false) w := fun w => by kernel_rfl
theorem meth133_step : ∀ w, (method (Try.prog.types.size + Made.depth) 133 (.agg #[]) "alibi/object.step").run Try.prog w = .ok (122, .agg #[]) w := fun w => by kernel_rfl
theorem nah133_step : ∀ w, (nilAhead (Try.prog.types.size + Made.depth) 133 (.agg #[]) "alibi/object.step").run Try.prog w = .ok (some false) w := fun w => by kernel_rfl
theorem meth133_valid : ∀ w, (method (Try.prog.types.size + Made.depth) 133 (.agg #[]) "alibi/object.valid").run Try.prog w = .ok (121, .agg #[]) w := fun w => by kernel_rfl
theorem nah133_valid : ∀ w, (nilAhead (Try.prog.types.size + Made.depth) 133 (.agg #[]) "alibi/object.valid").run Try.prog w = .ok (some false) w := fun w => by kernel_rfl
theorem meth136_start : ∀ w, (method (Try.prog.types.size + Made.depth) 136 (.agg #[]) "alibi/object.start").run Try.prog w = .ok (123, .agg #[]) w := fun w => by kernel_rfl
theorem nah136_start : ∀ w, (nilAhead (Try.prog.types.size + Made.depth) 136 (.agg #[]) "alibi/object.start").run Try.prog w = .ok (some false) w := fun w => by kernel_rfl
theorem meth136_step : ∀ w, (method (Try.prog.types.size + Made.depth) 136 (.agg #[]) "alibi/object.step").run Try.prog w = .ok (126, .agg #[]) w := fun w => by kernel_rfl
theorem nah136_step : ∀ w, (nilAhead (Try.prog.types.size + Made.depth) 136 (.agg #[]) "alibi/object.step").run Try.prog w = .ok (some false) w := fun w => by kernel_rfl
theorem meth136_valid : ∀ w, (method (Try.prog.types.size + Made.depth) 136 (.agg #[]) "alibi/object.valid").run Try.prog w = .ok (124, .agg #[]) w := fun w => by kernel_rfl
theorem nah136_valid : ∀ w, (nilAhead (Try.prog.types.size + Made.depth) 136 (.agg #[]) "alibi/object.valid").run Try.prog w = .ok (some false) w := fun w => by kernel_rfl
theorem meth137_start : ∀ w, (method (Try.prog.types.size + Made.depth) 137 (.agg #[]) "alibi/object.start").run Try.prog w = .ok (123, .agg #[]) w := fun w => by kernel_rfl
theorem nah137_start : ∀ w, (nilAhead (Try.prog.types.size + Made.depth) 137 (.agg #[]) "alibi/object.start").run Try.prog w = .ok (some false) w := fun w => by kernel_rfl
theorem meth137_step : ∀ w, (method (Try.prog.types.size + Made.depth) 137 (.agg #[]) "alibi/object.step").run Try.prog w = .ok (128, .agg #[]) w := fun w => by kernel_rfl
theorem nah137_step : ∀ w, (nilAhead (Try.prog.types.size + Made.depth) 137 (.agg #[]) "alibi/object.step").run Try.prog w = .ok (some false) w := fun w => by kernel_rfl
theorem meth137_valid : ∀ w, (method (Try.prog.types.size + Made.depth) 137 (.agg #[]) "alibi/object.valid").run Try.prog w = .ok (124, .agg #[]) w := fun w => by kernel_rfl
theorem nah137_valid : ∀ w, (nilAhead (Try.prog.types.size + Made.depth) 137 (.agg #[]) "alibi/object.valid").run Try.prog w = .ok (some false) w := fun w => by kernel_rfl
theorem meth138_start : ∀ w, (method (Try.prog.types.size + Made.depth) 138 (.agg #[]) "alibi/object.start").run Try.prog w = .ok (123, .agg #[]) w := fun w => by kernel_rfl
theorem nah138_start : ∀ w, (nilAhead (Try.prog.types.size + Made.depth) 138 (.agg #[]) "alibi/object.start").run Try.prog w = .ok (some false) w := fun w => by kernel_rfl
theorem meth138_step : ∀ w, (method (Try.prog.types.size + Made.depth) 138 (.agg #[]) "alibi/object.step").run Try.prog w = .ok (129, .agg #[]) w := fun w => by kernel_rfl
theorem nah138_step : ∀ w, (nilAhead (Try.prog.types.size + Made.depth) 138 (.agg #[]) "alibi/object.step").run Try.prog w = .ok (some false) w := fun w => by kernel_rfl
theorem meth138_valid : ∀ w, (method (Try.prog.types.size + Made.depth) 138 (.agg #[]) "alibi/object.valid").run Try.prog w = .ok (130, .agg #[]) w := fun w => by kernel_rfl
theorem nah138_valid : ∀ w, (nilAhead (Try.prog.types.size + Made.depth) 138 (.agg #[]) "alibi/object.valid").run Try.prog w = .ok (some false) w := fun w => by kernel_rfl
theorem meth139_start : ∀ w, (method (Try.prog.types.size + Made.depth) 139 (.agg #[]) "alibi/object.start").run Try.prog w = .ok (120, .agg #[]) w := fun w => by kernel_rfl
theorem nah139_start : ∀ w, (nilAhead (Try.prog.types.size + Made.depth) 139 (.agg #[]) "alibi/object.start").run Try.prog w = .ok (some false) w := fun w => by kernel_rfl
theorem meth139_step : ∀ w, (method (Try.prog.types.size + Made.depth) 139 (.agg #[]) "alibi/object.step").run Try.prog w = .ok (141, .agg #[]) w := fun w => by kernel_rfl
theorem nah139_step : ∀ w, (nilAhead (Try.prog.types.size + Made.depth) 139 (.agg #[]) "alibi/object.step").run Try.prog w = .ok (some false) w := fun w => by kernel_rfl
theorem meth139_valid : ∀ w, (method (Try.prog.types.size + Made.depth) 139 (.agg #[]) "alibi/object.valid").run Try.prog w = .ok (121, .agg #[]) w := fun w => by kernel_rfl
theorem nah139_valid : ∀ w, (nilAhead (Try.prog.types.size + Made.depth) 139 (.agg #[]) "alibi/object.valid").run Try.prog w = .ok (some false) w := fun w => by kernel_rfl
def object_of (N : Nat) (typ1 : Int) : Option Int :=
  cond (decide (typ1 = 1))
    (some 133)
    (cond (decide (typ1 = 2))
      (some 136)
      (cond (decide (typ1 = 3))
        (some 137)
        (cond (decide (typ1 = 4))
          (some 138)
          (cond (decide (typ1 = 5))
            (some 139)
            (some 0)))))

theorem object_of_ok {N : Nat} {typ1 : Int} {res : Int} (hF : object_of N typ1 = some res) (w : World) :
    Pure Try.prog 67 [.int .i64 typ1] w ((ifV res)) := by
  refine W.enter (n := 24) Try.func67 rfl rfl Sub.refl (by simp) (St.start w) fun R hR => ?_
  unfold object_of at hF
  -- region 0: object.go:112
  refine W.seqR fun Q1 hQ1 => ?_
  refine WL.q (Y.assign (.pl rfl)) rfl ?_
  refine WL.next hQ1 (.cons (i := 0) rfl (.nil)) ?_
  refine W.seq fun K2 hK2 => ?_
  -- region 1: object.go:113
  refine W.seqR fun Q3 hQ3 => ?_
  refine WL.q (Y.move (.pl rfl)) rfl ?_
  refine WL.next hQ3 (.cons (i := 3) rfl (.nil)) ?_
  refine W.block ?_
  -- region 2: object.go:114
  refine W.seqR fun Q4 hQ4 => ?_
  refine WL.q (Y.eql (.pl rfl) (.pl rfl)) rfl ?_
  refine WL.q (Y.assign (.pl rfl)) rfl ?_
  refine WL.next hQ4 (.cons (i := 3) rfl (.cons (i := 4) rfl (.nil))) ?_
  refine W.cond (.pl rfl) (fun hC5 => ?_) (fun hC5 => ?_)
  · replace hF := cpos hC5 hF
    -- region 3: object.go:115
    refine W.seqR fun Q6 hQ6 => ?_
    refine WL.q (Y.build0 Try.underlying133 zero133 (by kernel_rfl)) rfl ?_
    refine WL.q (Y.mkI Try.underlying133 rfl (.pl rfl)) rfl ?_
    refine WL.q (Y.assign (.pl rfl)) rfl ?_
    refine WL.next hQ6 (.cons (i := 2) rfl (.nil)) ?_
    obtain rfl := Option.some.inj hF
    refine W.retV (fn := Try.f67) (vs := [(ifV 133)]) Try.results67 ⟨.tmp rfl, trivial⟩ (fun _ _ h => h) (fun w hw => ?_)
    exact hR _ _ ⟨rfl, (hw.pick [] rfl)⟩
  · replace hF := cneg hC5 hF
    -- region 4: object.go:116
    refine W.seqR fun Q7 hQ7 => ?_
    refine WL.q (Y.eql (.pl rfl) (.pl rfl)) rfl ?_
    refine WL.q (Y.assign (.pl rfl)) rfl ?_
    refine WL.next hQ7 (.cons (i := 3) rfl (.cons (i := 8) rfl (.nil))) ?_
    refine W.cond (.pl rfl) (fun hC8 => ?_) (fun hC8 => ?_)
    · replace hF := cpos hC8 hF
      -- region 5: object.go:117
      refine W.seqR fun Q9 hQ9 => ?_
      refine WL.q (Y.build0 Try.underlying136 zero136 (by kernel_rfl)) rfl ?_
      refine WL.q (Y.mkI Try.underlying136 rfl (.pl rfl)) rfl ?_
      refine WL.q (Y.assign (.pl rfl)) rfl ?_
      refine WL.next hQ9 (.cons (i := 2) rfl (.nil)) ?_
      obtain rfl := Option.some.inj hF
      refine W.retV (fn := Try.f67) (vs := [(ifV 136)]) Try.results67 ⟨.tmp rfl, trivial⟩ (fun _ _ h => h) (fun w hw => ?_)
      exact hR _ _ ⟨rfl, (hw.pick [] rfl)⟩
    · replace hF := cneg hC8 hF
      -- region 6: object.go:118
      refine W.seqR fun Q10 hQ10 => ?_
      refine WL.q (Y.eql (.pl rfl) (.pl rfl)) rfl ?_
      refine WL.q (Y.assign (.pl rfl)) rfl ?_
      refine WL.next hQ10 (.cons (i := 3) rfl (.cons (i := 12) rfl (.nil))) ?_
      refine W.cond (.pl rfl) (fun hC11 => ?_) (fun hC11 => ?_)
      · replace hF := cpos hC11 hF
        -- region 7: object.go:119
        refine W.seqR fun Q12 hQ12 => ?_
        refine WL.q (Y.build0 Try.underlying137 zero137 (by kernel_rfl)) rfl ?_
        refine WL.q (Y.mkI Try.underlying137 rfl (.pl rfl)) rfl ?_
        refine WL.q (Y.assign (.pl rfl)) rfl ?_
        refine WL.next hQ12 (.cons (i := 2) rfl (.nil)) ?_
        obtain rfl := Option.some.inj hF
        refine W.retV (fn := Try.f67) (vs := [(ifV 137)]) Try.results67 ⟨.tmp rfl, trivial⟩ (fun _ _ h => h) (fun w hw => ?_)
        exact hR _ _ ⟨rfl, (hw.pick [] rfl)⟩
      · replace hF := cneg hC11 hF
        -- region 8: object.go:120
        refine W.seqR fun Q13 hQ13 => ?_
        refine WL.q (Y.eql (.pl rfl) (.pl rfl)) rfl ?_
        refine WL.q (Y.assign (.pl rfl)) rfl ?_
        refine WL.next hQ13 (.cons (i := 3) rfl (.cons (i := 16) rfl (.nil))) ?_
        refine W.cond (.pl rfl) (fun hC14 => ?_) (fun hC14 => ?_)
        · replace hF := cpos hC14 hF
          -- region 9: object.go:121
          refine W.seqR fun Q15 hQ15 => ?_
          refine WL.q (Y.build0 Try.underlying138 zero138 (by kernel_rfl)) rfl ?_
          refine WL.q (Y.mkI Try.underlying138 rfl (.pl rfl)) rfl ?_
          refine WL.q (Y.assign (.pl rfl)) rfl ?_
          refine WL.next hQ15 (.cons (i := 2) rfl (.nil)) ?_
          obtain rfl := Option.some.inj hF
          refine W.retV (fn := Try.f67) (vs := [(ifV 138)]) Try.results67 ⟨.tmp rfl, trivial⟩ (fun _ _ h => h) (fun w hw => ?_)
          exact hR _ _ ⟨rfl, (hw.pick [] rfl)⟩
        · replace hF := cneg hC14 hF
          -- region 10: object.go:122
          refine W.seqR fun Q16 hQ16 => ?_
          refine WL.q (Y.eql (.pl rfl) (.pl rfl)) rfl ?_
          refine WL.q (Y.assign (.pl rfl)) rfl ?_
          refine WL.next hQ16 (.cons (i := 20) rfl (.nil)) ?_
          refine W.cond (.pl rfl) (fun hC17 => ?_) (fun hC17 => ?_)
          · replace hF := cpos hC17 hF
            -- region 11: object.go:123
            refine W.seqR fun Q18 hQ18 => ?_
            refine WL.q (Y.build0 Try.underlying139 zero139 (by kernel_rfl)) rfl ?_
            refine WL.q (Y.mkI Try.underlying139 rfl (.pl rfl)) rfl ?_
            refine WL.q (Y.assign (.pl rfl)) rfl ?_
            refine WL.next hQ18 (.cons (i := 2) rfl (.nil)) ?_
            obtain rfl := Option.some.inj hF
            refine W.retV (fn := Try.f67) (vs := [(ifV 139)]) Try.results67 ⟨.tmp rfl, trivial⟩ (fun _ _ h => h) (fun w hw => ?_)
            exact hR _ _ ⟨rfl, (hw.pick [] rfl)⟩
          · replace hF := cneg hC17 hF
            refine W.skip ?_
            refine W.go hK2 (.nil) ?_
            -- region 12: object.go:125
            refine W.seqR fun Q19 hQ19 => ?_
            refine WL.q (Y.assign (.pl rfl)) rfl ?_
            refine WL.next hQ19 (.cons (i := 2) rfl (.nil)) ?_
            obtain rfl := Option.some.inj hF
            refine W.retV (fn := Try.f67) (vs := [(ifV 0)]) Try.results67 ⟨.tmp rfl, trivial⟩ (fun _ _ h => h) (fun w hw => ?_)
            exact hR _ _ ⟨rfl, (hw.pick [] rfl)⟩

def object_single_valid (N : Nat) (a1 : ObjectSingle) (s2 : (List Int)) : Option Bool :=
  bd ((cond ((decide (((s2).length : Int) = 1)) == true) (ix s2 0) (some 0))) fun (x8 : Int) =>
  bd ((cond (((decide (((s2).length : Int) = 1)) && (decide (0 ≤ x8))) == true) (ix s2 0) (some 0))) fun (x9 : Int) =>
  some (((decide (((s2).length : Int) = 1)) && (decide (0 ≤ x8))) && (decide (x9 ≤ 1000)))

theorem object_single_valid_ok {N : Nat} {a1 : ObjectSingle} {s2 : (List Int)} {res : Bool} (hF : object_single_valid N a1 s2 = some res) (w : World) {v6 : Value} (hs5 : SlIn (eI .i64) 1 w v6 s2) :
    Pure Try.prog 121 [.agg (encObjectSingle a1).toArray, v6] w (.bool res) := by
  obtain ⟨A3, c4, rfl, hcc4, hs5⟩ := hs5.form
  refine W.enter (n := 20) Try.func121 rfl rfl Sub.refl (by simp) (St.start w) fun R hR => ?_
  unfold object_single_valid at hF
  -- region 0: object.go:23
  refine W.seqR fun Q1 hQ1 => ?_
  refine WL.step (WO.boxA (.pl rfl) rfl fun b7 => ?_)
  refine WL.q (Y.assign (.pl rfl)) rfl ?_
  refine WL.next hQ1 (.cons (i := 1) rfl (.nil)) ?_
  -- region 1: object.go:23
  refine W.seqR fun Q2 hQ2 => ?_
  refine WL.q (Y.move (.pl rfl)) rfl ?_
  refine WL.q (Y.len Try.underlying22 (.pl rfl)) rfl ?_
  refine WL.q (Y.eql (.pl rfl) (.pl rfl)) rfl ?_
  refine WL.q (Y.move (.pl rfl)) rfl ?_
  refine WL.g (.pl rfl rfl rfl) (fun hg => Y.move (.pl rfl)) rfl ?_
  obtain ⟨x8, hx8, hF⟩ := bnd hF
  refine WL.g (.pl rfl rfl rfl) (fun hg => Y.slEl Try.underlying22 cells3 hs5 (.gd (hg) rfl) (.pl rfl) (ix_lt (gpos hg hx8))) rfl ?_
  refine WL.g (.pl rfl rfl rfl) (fun hg => Y.loadS (enc := (eI .i64)) (v := .int .i64 x8) (j := 0) Try.underlying3 rfl hs5 (.gd (hg) rfl) (gpos hg hx8) rfl rfl) rfl ?_
  refine WL.g (.pl rfl rfl rfl) (fun hg => Y.geq (.gd (hg) rfl) (.pl rfl)) rfl ?_
  refine WL.q (Y.and (.pl rfl) (fun h2 => .gd (eqt h2) rfl)) rfl ?_
  refine WL.q (Y.move (.pl rfl)) rfl ?_
  refine WL.g (.pl rfl rfl rfl) (fun hg => Y.move (.pl rfl)) rfl ?_
  obtain ⟨x9, hx9, hF⟩ := bnd hF
  refine WL.g (.pl rfl rfl rfl) (fun hg => Y.slEl Try.underlying22 cells3 hs5 (.gd (hg) rfl) (.pl rfl) (ix_lt (gpos hg hx9))) rfl ?_
  refine WL.g (.pl rfl rfl rfl) (fun hg => Y.loadS (enc := (eI .i64)) (v := .int .i64 x9) (j := 0) Try.underlying3 rfl hs5 (.gd (hg) rfl) (gpos hg hx9) rfl rfl) rfl ?_
  refine WL.g (.pl rfl rfl rfl) (fun hg => Y.leq (.gd (hg) rfl) (.pl rfl)) rfl ?_
  refine WL.q (Y.and (.pl rfl) (fun h2 => .gd (eqt h2) rfl)) rfl ?_
  refine WL.q (Y.assign (.pl rfl)) rfl ?_
  refine WL.next hQ2 (.cons (i := 4) rfl (.nil)) ?_
  obtain rfl := Option.some.inj hF
  refine W.retV (fn := Try.f121) (vs := [.bool (((decide (((s2).length : Int) = 1)) && (decide (0 ≤ x8))) && (decide (x9 ≤ 1000)))]) Try.results121 ⟨.tmp rfl, trivial⟩ (fun _ _ h => h) (fun w hw => ?_)
  exact hR _ _ ⟨rfl, (hw.pick [] rfl)⟩

def object_many_valid_1 (N : Nat) (n1 : Int) : Option Unit :=
  some ()

theorem object_many_valid_1_ok {N : Nat} {n1 : Int} {res : Unit} (hF : object_many_valid_1 N n1 = some res) (w : World) :
    Pure Try.prog 125 [.int .i64 n1] w (.bool ((decide (n1 < 1)) || (decide (1000 < n1)))) := by
  refine W.enter (n := 9) Try.func125 rfl rfl Sub.refl (by simp) (St.start w) fun R hR => ?_
  unfold object_many_valid_1 at hF
  -- region 0: object.go:49
  refine W.seqR fun Q1 hQ1 => ?_
  refine WL.q (Y.assign (.pl rfl)) rfl ?_
  refine WL.next hQ1 (.cons (i := 0) rfl (.nil)) ?_
  -- region 1: object.go:49
  refine W.seqR fun Q2 hQ2 => ?_
  refine WL.q (Y.move (.pl rfl)) rfl ?_
  refine WL.q (Y.lss (.pl rfl) (.pl rfl)) rfl ?_
  refine WL.q (Y.move (.pl rfl)) rfl ?_
  refine WL.g (.pl rfl rfl rfl) (fun hg => Y.move (.pl rfl)) rfl ?_
  refine WL.g (.pl rfl rfl rfl) (fun hg => Y.gtr (.gd (hg) rfl) (.pl rfl)) rfl ?_
  refine WL.q (Y.or (.pl rfl) (fun h2 => .gd (eqf h2) rfl)) rfl ?_
  refine WL.q (Y.assign (.pl rfl)) rfl ?_
  refine WL.next hQ2 (.cons (i := 2) rfl (.nil)) ?_
  obtain rfl := Option.some.inj hF
  refine W.retV (fn := Try.f125) (vs := [.bool ((decide (n1 < 1)) || (decide (1000 < n1)))]) Try.results125 ⟨.tmp rfl, trivial⟩ (fun _ _ h => h) (fun w hw => ?_)
  exact hR _ _ ⟨rfl, (hw.pick [] rfl)⟩

def slices_IndexFunc_int_int_L3 (N : Nat) (s1 : (List Int)) : Int → Option (Int ⊕ (Unit ⊕ Int))
  | v6 =>
    cond (decide (v6 < ((s1).length : Int)))
      (bd (ix s1 v6) fun (x7 : Int) =>
      bd (object_many_valid_1 N x7) fun (r8 : Unit) =>
      cond ((decide (x7 < 1)) || (decide (1000 < x7)))
        (some (.inr (.inr v6)))
        (ck (ok64 (v6 + 1)) <|
        some (.inl (v6 + 1))))
      (some (.inr (.inl ())))

def slices_IndexFunc_int_int (N : Nat) (s1 : (List Int)) : Option Int :=
  bd (α := (Unit ⊕ Int)) (iter (slices_IndexFunc_int_int_L3 N s1) N 0) <|
  Sum.elim (fun _ => 
    some (-1)) (fun p => some p)

theorem slices_IndexFunc_int_int_ok {N : Nat} {s1 : (List Int)} {res : Int} (hF : slices_IndexFunc_int_int N s1 = some res) (w : World) {v5 : Value} (hs4 : SlIn (eI .i64) 1 w v5 s1) :
    Pure Try.prog 63 [v5, .func (.func 125) #[] #[]] w (.int .i64 res) := by
  obtain ⟨A2, c3, rfl, hcc3, hs4⟩ := hs4.form
  refine W.enter (n := 19) Try.func63 rfl rfl Sub.refl (by simp) (St.start w) fun R hR => ?_
  unfold slices_IndexFunc_int_int at hF
  -- region 0: slices.go:107
  refine W.seqR fun Q1 hQ1 => ?_
  refine WL.q (Y.assign (.pl rfl)) rfl ?_
  refine WL.next hQ1 (.cons (i := 0) rfl (.cons (i := 1) rfl (.nil))) ?_
  obtain ⟨o2, hF2, hF⟩ := bnd hF
  refine W.join0 (Em := []) (M := []) (I := (.inl ()) = o2) (.nil) (fun K3 hK3 => ?_) ?_
  · -- up to
    -- region 1: slices.go:108
    refine W.seqR fun Q4 hQ4 => ?_
    refine WL.q (Y.move (.pl rfl)) rfl ?_
    refine WL.q (Y.len Try.underlying22 (.pl rfl)) rfl ?_
    refine WL.q (Y.move (.pl rfl)) rfl ?_
    refine WL.next hQ4 (.cons (i := 0) rfl (.cons (i := 1) rfl (.cons (i := 7) rfl (.cons (i := 8) rfl (.nil))))) ?_
    refine W.block ?_
    refine W.loop1 (Em := fun (v6 : Int) => [(8, .int .i64 v6)]) (M := fun v6 => []) (I := fun v6 k5 => iter (slices_IndexFunc_int_int_L3 N s1) k5 v6 = some o2) 0 N (hF2) (.cons rfl (.nil)) (.cons (i := 0) rfl (.cons (i := 1) rfl (.cons (i := 7) rfl (.nil)))) (fun w hw => hw.pick [] rfl) (fun v6 k5 hI K6 hK6 => ?_)
    obtain ⟨k5, t5, rfl, hF5, hN5⟩ := iter_step hI
    -- region 2: slices.go:108
    refine W.seqR fun Q7 hQ7 => ?_
    refine WL.q (Y.lss (.pl rfl) (.pl rfl)) rfl ?_
    refine WL.next hQ7 (.cons (i := 0) rfl (.cons (i := 1) rfl (.cons (i := 7) rfl (.cons (i := 8) rfl (.cons (i := 9) rfl (.nil)))))) ?_
    refine W.seq fun K8 hK8 => ?_
    refine W.cond (.pl rfl) (fun hC9 => ?_) (fun hC9 => ?_)
    · replace hF5 := cpos hC9 hF5
      refine W.skip ?_
      refine W.go hK8 (.cons (i := 0) rfl (.cons (i := 1) rfl (.cons (i := 7) rfl (.cons (i := 8) rfl (.nil))))) ?_
      refine W.seq fun K10 hK10 => ?_
      refine W.block ?_
      -- region 3: slices.go:108
      refine W.seqR fun Q11 hQ11 => ?_
      refine WL.q (Y.move (.pl rfl)) rfl ?_
      refine WL.q (Y.assign (.pl rfl)) rfl ?_
      refine WL.next hQ11 (.cons (i := 0) rfl (.cons (i := 1) rfl (.cons (i := 5) rfl (.cons (i := 7) rfl (.cons (i := 8) rfl (.nil)))))) ?_
      -- region 4: slices.go:109
      refine W.seqR fun Q12 hQ12 => ?_
      refine WL.q (Y.move (.pl rfl)) rfl ?_
      refine WL.q (Y.move (.pl rfl)) rfl ?_
      refine WL.q (Y.move (.pl rfl)) rfl ?_
      obtain ⟨x7, hx7, hF5⟩ := bnd hF5
      refine WL.q (Y.slEl Try.underlying22 cells3 hs4 (.pl rfl) (.pl rfl) (ix_lt (hx7))) rfl ?_
      refine WL.q (Y.loadS (enc := (eI .i64)) (v := .int .i64 x7) (j := 0) Try.underlying3 rfl hs4 (.pl rfl) (hx7) rfl rfl) rfl ?_
      obtain ⟨r8, hr8, hF5⟩ := bnd hF5
      refine WL.step (WO.callG (γ := Unit) (first := []) (cap := []) (fun g => .bool ((decide (x7 < 1)) || (decide (1000 < x7)))) (fun g => []) (fun _ => True) isGo125 (.pl rfl) (.cons (.pl rfl) (.nil)) rfl (fun w hw => (object_many_valid_1_ok (hr8) w ).calls hw) ?_)
      rintro _ -
      refine WL.next hQ12 (.cons (i := 0) rfl (.cons (i := 1) rfl (.cons (i := 5) rfl (.cons (i := 7) rfl (.cons (i := 8) rfl (.cons (i := 16) rfl (.nil))))))) ?_
      refine W.cond (.pl rfl) (fun hC13 => ?_) (fun hC13 => ?_)
      · replace hF5 := cpos hC13 hF5
        -- region 5: slices.go:110
        refine W.seqR fun Q14 hQ14 => ?_
        refine WL.q (Y.move (.pl rfl)) rfl ?_
        refine WL.q (Y.assign (.pl rfl)) rfl ?_
        refine WL.next hQ14 (.cons (i := 4) rfl (.nil)) ?_
        obtain rfl := Option.some.inj hF5
        obtain rfl := einr hN5
        obtain rfl := Option.some.inj hF
        refine W.retV (fn := Try.f63) (vs := [.int .i64 v6]) Try.results63 ⟨.tmp rfl, trivial⟩ (fun _ _ h => h) (fun w hw => ?_)
        exact hR _ _ ⟨rfl, (hw.pick [] rfl)⟩
      · replace hF5 := cneg hC13 hF5
        refine W.skip ?_
        refine W.go hK10 (.cons (i := 0) rfl (.cons (i := 1) rfl (.cons (i := 7) rfl (.cons (i := 8) rfl (.nil))))) ?_
        -- region 6: slices.go:108
        refine W.reg ?_
        obtain ⟨hk9, hF5⟩ := ckh hF5
        refine WL.q (Y.add (.pl rfl) (.pl rfl) (ok64_lt (hk9))) rfl ?_
        refine WL.q (Y.move (.pl rfl)) rfl ?_
        refine WL.nil ?_
        obtain rfl := Option.some.inj hF5
        exact W.again1 hK6 (v6 + 1) k5 hN5 (Nat.lt_succ_self _) (.cons rfl (.nil)) (.cons (i := 0) rfl (.cons (i := 1) rfl (.cons (i := 7) rfl (.nil)))) (fun w hw => hw.pick [] rfl)
    · replace hF5 := cneg hC9 hF5
      refine W.exit ?_
      obtain rfl := Option.some.inj hF5
      exact W.joinAt0 hK3  (einr hN5) (.nil) (.nil) (fun w hw => hw.pick [] rfl)
  · -- behind
    rintro  rfl
    -- region 7: slices.go:113
    refine W.seqR fun Q16 hQ16 => ?_
    refine WL.q (Y.assign (.pl rfl)) rfl ?_
    refine WL.next hQ16 (.cons (i := 4) rfl (.nil)) ?_
    obtain rfl := Option.some.inj hF
    refine W.retV (fn := Try.f63) (vs := [.int .i64 (-1)]) Try.results63 ⟨.tmp rfl, trivial⟩ (fun _ _ h => h) (fun w hw => ?_)
    exact hR _ _ ⟨rfl, (hw.pick [] rfl)⟩

def slices_ContainsFunc_int_int (N : Nat) (s1 : (List Int)) : Option Bool :=
  bd (slices_IndexFunc_int_int N s1) fun (r6 : Int) =>
  some (decide (0 ≤ r6))

theorem slices_ContainsFunc_int_int_ok {N : Nat} {s1 : (List Int)} {res : Bool} (hF : slices_ContainsFunc_int_int N s1 = some res) (w : World) {v5 : Value} (hs4 : SlIn (eI .i64) 1 w v5 s1) :
    Pure Try.prog 25 [v5, .func (.func 125) #[] #[]] w (.bool res) := by
  obtain ⟨A2, c3, rfl, hcc3, hs4⟩ := hs4.form
  refine W.enter (n := 9) Try.func25 rfl rfl Sub.refl (by simp) (St.start w) fun R hR => ?_
  unfold slices_ContainsFunc_int_int at hF
  -- region 0: slices.go:124
  refine W.seqR fun Q1 hQ1 => ?_
  refine WL.q (Y.assign (.pl rfl)) rfl ?_
  refine WL.next hQ1 (.cons (i := 0) rfl (.cons (i := 1) rfl (.nil))) ?_
  -- region 1: slices.go:125
  refine W.seqR fun Q2 hQ2 => ?_
  refine WL.q (Y.move (.pl rfl)) rfl ?_
  refine WL.q (Y.move (.pl rfl)) rfl ?_
  obtain ⟨r6, hr6, hF⟩ := bnd hF
  refine WL.step (WO.callP isGo63 (.cons (.pl rfl) (.cons (.pl rfl) (.nil))) rfl (fun w hw => slices_IndexFunc_int_int_ok (hr6) w (hs4.mono hw)) ?_)
  refine WL.q (Y.geq (.pl rfl) (.pl rfl)) rfl ?_
  refine WL.q (Y.assign (.pl rfl)) rfl ?_
  refine WL.next hQ2 (.cons (i := 4) rfl (.nil)) ?_
  obtain rfl := Option.some.inj hF
  refine W.retV (fn := Try.f25) (vs := [.bool (decide (0 ≤ r6))]) Try.results25 ⟨.tmp rfl, trivial⟩ (fun _ _ h => h) (fun w hw => ?_)
  exact hR _ _ ⟨rfl, (hw.pick [] rfl)⟩

def object_many_valid (N : Nat) (a1 : ObjectSingle) (s2 : (List Int)) : Option Bool :=
  bd (slices_ContainsFunc_int_int N s2) fun (r8 : Bool) =>
  some (!r8)

theorem object_many_valid_ok {N : Nat} {a1 : ObjectSingle} {s2 : (List Int)} {res : Bool} (hF : object_many_valid N a1 s2 = some res) (w : World) {v6 : Value} (hs5 : SlIn (eI .i64) 1 w v6 s2) :
    Pure Try.prog 124 [.agg (encObjectSingle a1).toArray, v6] w (.bool res) := by
  obtain ⟨A3, c4, rfl, hcc4, hs5⟩ := hs5.form
  refine W.enter (n := 8) Try.func124 rfl rfl Sub.refl (by simp) (St.start w) fun R hR => ?_
  unfold object_many_valid at hF
  -- region 0: object.go:48
  refine W.seqR fun Q1 hQ1 => ?_
  refine WL.step (WO.boxA (.pl rfl) rfl fun b7 => ?_)
  refine WL.q (Y.assign (.pl rfl)) rfl ?_
  refine WL.next hQ1 (.cons (i := 1) rfl (.nil)) ?_
  -- region 1: object.go:49
  refine W.seqR fun Q2 hQ2 => ?_
  refine WL.q (Y.move (.pl rfl)) rfl ?_
  obtain ⟨r8, hr8, hF⟩ := bnd hF
  refine WL.step (WO.callP isGo25 (.cons (.pl rfl) (.cons (.pl rfl) (.nil))) rfl (fun w hw => slices_ContainsFunc_int_int_ok (hr8) w (hs5.mono hw)) ?_)
  refine WL.q (Y.not (.pl rfl)) rfl ?_
  refine WL.q (Y.assign (.pl rfl)) rfl ?_
  refine WL.next hQ2 (.cons (i := 4) rfl (.nil)) ?_
  obtain rfl := Option.some.inj hF
  refine W.retV (fn := Try.f124) (vs := [.bool (!r8)]) Try.results124 ⟨.tmp rfl, trivial⟩ (fun _ _ h => h) (fun w hw => ?_)
  exact hR _ _ ⟨rfl, (hw.pick [] rfl)⟩

def object_set_valid_L3 (N : Nat) (s2 : (List Int)) : Int → Option (Int ⊕ (Unit ⊕ Bool))
  | i8 =>
    cond (decide (i8 < ((s2).length : Int)))
      (ck (ok64 (i8 - 1)) <|
      bd (ix s2 (i8 - 1)) fun (x10 : Int) =>
      bd (ix s2 i8) fun (x11 : Int) =>
      cond (decide (x11 ≤ x10))
        (some (.inr (.inr false)))
        (ck (ok64 (i8 + 1)) <|
        some (.inl (i8 + 1))))
      (some (.inr (.inl ())))

def object_set_valid (N : Nat) (x1 : ObjectSet) (s2 : (List Int)) : Option Bool :=
  bd (α := (Unit ⊕ Bool)) (iter (object_set_valid_L3 N s2) N 1) <|
  Sum.elim (fun _ => 
    bd (object_many_valid N x1.many s2) fun (r13 : Bool) =>
    some r13) (fun p => some p)

theorem object_set_valid_ok {N : Nat} {x1 : ObjectSet} {s2 : (List Int)} {res : Bool} (hF : object_set_valid N x1 s2 = some res) (w : World) {v6 : Value} (hs5 : SlIn (eI .i64) 1 w v6 s2) :
    Pure Try.prog 130 [.agg (encObjectSet x1).toArray, v6] w (.bool res) := by
  obtain ⟨A3, c4, rfl, hcc4, hs5⟩ := hs5.form
  refine W.enter (n := 26) Try.func130 rfl rfl Sub.refl (by simp) (St.start w) fun R hR => ?_
  unfold object_set_valid at hF
  -- region 0: object.go:87
  refine W.seqR fun Q1 hQ1 => ?_
  refine WL.step (WO.boxA (.pl rfl) rfl fun b7 => ?_)
  refine WL.q (Y.assign (.pl rfl)) rfl ?_
  refine WL.next hQ1 (.cons (i := 1) rfl (.cons (i := 2) rfl (.nil))) ?_
  obtain ⟨o2, hF2, hF⟩ := bnd hF
  refine W.join0 (Em := []) (M := [cBx b7 138 (encObjectSet x1)]) (I := (.inl ()) = o2) (.cons (i := 1) rfl (.cons (i := 2) rfl (.nil))) (fun K3 hK3 => ?_) ?_
  · -- up to
    -- region 1: object.go:88
    refine W.seqR fun Q4 hQ4 => ?_
    refine WL.q (Y.assign (.pl rfl)) rfl ?_
    refine WL.next hQ4 (.cons (i := 1) rfl (.cons (i := 2) rfl (.cons (i := 5) rfl (.nil)))) ?_
    refine W.block ?_
    refine W.loop1 (Em := fun (i8 : Int) => [(5, .int .i64 i8)]) (M := fun i8 => [cBx b7 138 (encObjectSet x1)]) (I := fun i8 k5 => iter (object_set_valid_L3 N s2) k5 i8 = some o2) 1 N (hF2) (.cons rfl (.nil)) (.cons (i := 1) rfl (.cons (i := 2) rfl (.nil))) (fun w hw => hw.pick [0] rfl) (fun i8 k5 hI K6 hK6 => ?_)
    obtain ⟨k5, t5, rfl, hF5, hN5⟩ := iter_step hI
    refine W.seq fun K7 hK7 => ?_
    -- region 2: object.go:88
    refine W.seqR fun Q8 hQ8 => ?_
    refine WL.q (Y.move (.pl rfl)) rfl ?_
    refine WL.q (Y.move (.pl rfl)) rfl ?_
    refine WL.q (Y.len Try.underlying22 (.pl rfl)) rfl ?_
    refine WL.q (Y.lss (.pl rfl) (.pl rfl)) rfl ?_
    refine WL.next hQ8 (.cons (i := 1) rfl (.cons (i := 2) rfl (.cons (i := 5) rfl (.cons (i := 9) rfl (.nil))))) ?_
    refine W.cond (.pl rfl) (fun hC9 => ?_) (fun hC9 => ?_)
    · replace hF5 := cpos hC9 hF5
      refine W.skip ?_
      refine W.go hK7 (.cons (i := 1) rfl (.cons (i := 2) rfl (.cons (i := 5) rfl (.nil)))) ?_
      refine W.seq fun K10 hK10 => ?_
      refine W.block ?_
      -- region 4: object.go:89
      refine W.seqD (by kernel_rfl) (by kernel_rfl) fun R11 hR11 => ?_
      refine WD.q (Y.move (.pl rfl)) rfl ?_
      refine WD.q (Y.move (.pl rfl)) rfl ?_
      obtain ⟨hk9, hF5⟩ := ckh hF5
      refine WD.q (Y.sub (.pl rfl) (.pl rfl) (ok64_lt (hk9))) rfl ?_
      obtain ⟨x10, hx10, hF5⟩ := bnd hF5
      refine WD.q (Y.slEl Try.underlying22 cells3 hs5 (.pl rfl) (.pl rfl) (ix_lt (hx10))) rfl ?_
      refine WD.q (Y.loadS (enc := (eI .i64)) (v := .int .i64 x10) (j := 0) Try.underlying3 rfl hs5 (.pl rfl) (hx10) rfl rfl) rfl ?_
      refine WD.q (Y.move (.pl rfl)) rfl ?_
      refine WD.q (Y.move (.pl rfl)) rfl ?_
      obtain ⟨x11, hx11, hF5⟩ := bnd hF5
      refine WD.q (Y.slEl Try.underlying22 cells3 hs5 (.pl rfl) (.pl rfl) (ix_lt (hx11))) rfl ?_
      refine WD.q (Y.loadS (enc := (eI .i64)) (v := .int .i64 x11) (j := 0) Try.underlying3 rfl hs5 (.pl rfl) (hx11) rfl rfl) rfl ?_
      refine WD.q (Y.geq (.pl rfl) (.pl rfl)) rfl ?_
      refine WD.next hR11 (.cons (i := 1) rfl (.cons (i := 2) rfl (.cons (i := 5) rfl (.cons (i := 21) rfl (.nil))))) ?_
      refine W.cond (.pl rfl) (fun hC12 => ?_) (fun hC12 => ?_)
      · replace hF5 := cpos hC12 hF5
        -- region 5: object.go:90
        refine W.seqR fun Q13 hQ13 => ?_
        refine WL.q (Y.assign (.pl rfl)) rfl ?_
        refine WL.next hQ13 (.cons (i := 4) rfl (.nil)) ?_
        obtain rfl := Option.some.inj hF5
        obtain rfl := einr hN5
        obtain rfl := Option.some.inj hF
        refine W.retV (fn := Try.f130) (vs := [.bool false]) Try.results130 ⟨.tmp rfl, trivial⟩ (fun _ _ h => h) (fun w hw => ?_)
        exact hR _ _ ⟨rfl, (hw.pick [] rfl)⟩
      · replace hF5 := cneg hC12 hF5
        refine W.skip ?_
        refine W.go hK10 (.cons (i := 1) rfl (.cons (i := 2) rfl (.cons (i := 5) rfl (.nil)))) ?_
        -- region 3: object.go:88
        refine W.reg ?_
        refine WL.q (Y.move (.pl rfl)) rfl ?_
        obtain ⟨hk12, hF5⟩ := ckh hF5
        refine WL.q (Y.add (.pl rfl) (.pl rfl) (ok64_lt (hk12))) rfl ?_
        refine WL.q (Y.assign (.pl rfl)) rfl ?_
        refine WL.nil ?_
        obtain rfl := Option.some.inj hF5
        exact W.again1 hK6 (i8 + 1) k5 hN5 (Nat.lt_succ_self _) (.cons rfl (.nil)) (.cons (i := 1) rfl (.cons (i := 2) rfl (.nil))) (fun w hw => hw.pick [0] rfl)
    · replace hF5 := cneg hC9 hF5
      refine W.exit ?_
      obtain rfl := Option.some.inj hF5
      exact W.joinAt0 hK3  (einr hN5) (.nil) (.cons (i := 1) rfl (.cons (i := 2) rfl (.nil))) (fun w hw => hw.pick [0] rfl)
  · -- behind
    rintro  rfl
    -- region 6: object.go:93
    refine W.seqR fun Q15 hQ15 => ?_
    refine WL.q (Y.fieldAddrZ (ft := 134) Try.underlying138 rfl siz134 cel138 (.pl rfl) (i' := 0) rfl) rfl ?_
    refine WL.q (Y.load0 Try.underlying134 siz134 (.pl rfl)) rfl ?_
    refine WL.q (Y.move (.pl rfl)) rfl ?_
    obtain ⟨r13, hr13, hF⟩ := bnd hF
    refine WL.step (WO.callP isGo124 (.cons (.pl rfl) (.cons (.pl rfl) (.nil))) rfl (fun w hw => object_many_valid_ok (hr13) w (hs5.mono hw)) ?_)
    refine WL.q (Y.assign (.pl rfl)) rfl ?_
    refine WL.next hQ15 (.cons (i := 4) rfl (.nil)) ?_
    obtain rfl := Option.some.inj hF
    refine W.retV (fn := Try.f130) (vs := [.bool r13]) Try.results130 ⟨.tmp rfl, trivial⟩ (fun _ _ h => h) (fun w hw => ?_)
    exact hR _ _ ⟨rfl, (hw.pick [] rfl)⟩

def object_Check (N : Nat) (typ1 : Int) (s2 : (List Int)) : Option Int :=
  bd (object_of N typ1) fun (r7 : Int) =>
  cond (decide (r7 = 0))
    (some 1)
    (cond (decide (50 < ((s2).length : Int)))
      (some 2)
      (bd (α := Bool) (cond (decide (r7 = 133))
          (bd (object_single_valid N (ObjectSingle.mk ) s2) fun (r9 : Bool) =>
          some (!r9))
          (cond (decide (r7 = 136))
            (bd (object_many_valid N (ObjectSingle.mk ) s2) fun (r10 : Bool) =>
            some (!r10))
            (cond (decide (r7 = 137))
              (bd (object_many_valid N (ObjectSingle.mk ) s2) fun (r11 : Bool) =>
              some (!r11))
              (cond (decide (r7 = 138))
                (bd (object_set_valid N (ObjectSet.mk (ObjectSingle.mk )) s2) fun (r12 : Bool) =>
                some (!r12))
                (cond (decide (r7 = 139))
                  (bd (object_single_valid N (ObjectSingle.mk ) s2) fun (r13 : Bool) =>
                  some (!r13))
                  (none)))))) <|
      fun (v8 : Bool) => 
        cond v8
          (some 3)
          (some 0)))

theorem object_Check_ok {N : Nat} {typ1 : Int} {s2 : (List Int)} {res : Int} (hF : object_Check N typ1 s2 = some res) (w : World) {v6 : Value} (hs5 : SlIn (eI .i64) 1 w v6 s2) :
    Pure Try.prog 32 [.int .i64 typ1, v6] w (.int .i64 res) := by
  obtain ⟨A3, c4, rfl, hcc4, hs5⟩ := hs5.form
  refine W.enter (n := 20) Try.func32 rfl rfl Sub.refl (by simp) (St.start w) fun R hR => ?_
  unfold object_Check at hF
  -- region 0: object.go:138
  refine W.seqR fun Q1 hQ1 => ?_
  refine WL.q (Y.assign (.pl rfl)) rfl ?_
  refine WL.next hQ1 (.cons (i := 0) rfl (.cons (i := 1) rfl (.nil))) ?_
  -- region 1: object.go:139
  refine W.seqR fun Q2 hQ2 => ?_
  refine WL.q (Y.move (.pl rfl)) rfl ?_
  obtain ⟨r7, hr7, hF⟩ := bnd hF
  refine WL.step (WO.callP isGo67 (.cons (.pl rfl) (.nil)) rfl (fun w hw => object_of_ok (hr7) w ) ?_)
  refine WL.q (Y.assign (.pl rfl)) rfl ?_
  refine WL.next hQ2 (.cons (i := 1) rfl (.cons (i := 5) rfl (.nil))) ?_
  refine W.seq fun K3 hK3 => ?_
  refine W.block ?_
  -- region 2: object.go:141
  refine W.seqR fun Q4 hQ4 => ?_
  refine WL.q (Y.move (.pl rfl)) rfl ?_
  refine WL.q (Y.eqNilI Try.underlying91 (.pl rfl)) rfl ?_
  refine WL.q (Y.assign (.pl rfl)) rfl ?_
  refine WL.next hQ4 (.cons (i := 1) rfl (.cons (i := 5) rfl (.cons (i := 8) rfl (.nil)))) ?_
  refine W.cond (.pl rfl) (fun hC5 => ?_) (fun hC5 => ?_)
  · replace hF := cpos hC5 hF
    -- region 3: object.go:142
    refine W.seqR fun Q6 hQ6 => ?_
    refine WL.q (Y.assign (.pl rfl)) rfl ?_
    refine WL.next hQ6 (.cons (i := 4) rfl (.nil)) ?_
    obtain rfl := Option.some.inj hF
    refine W.retV (fn := Try.f32) (vs := [.int .i64 1]) Try.results32 ⟨.tmp rfl, trivial⟩ (fun _ _ h => h) (fun w hw => ?_)
    exact hR _ _ ⟨rfl, (hw.pick [] rfl)⟩
  · replace hF := cneg hC5 hF
    -- region 4: object.go:143
    refine W.seqR fun Q7 hQ7 => ?_
    refine WL.q (Y.move (.pl rfl)) rfl ?_
    refine WL.q (Y.len Try.underlying22 (.pl rfl)) rfl ?_
    refine WL.q (Y.gtr (.pl rfl) (.pl rfl)) rfl ?_
    refine WL.q (Y.assign (.pl rfl)) rfl ?_
    refine WL.next hQ7 (.cons (i := 1) rfl (.cons (i := 5) rfl (.cons (i := 11) rfl (.nil)))) ?_
    refine W.cond (.pl rfl) (fun hC8 => ?_) (fun hC8 => ?_)
    · replace hF := cpos hC8 hF
      -- region 5: object.go:144
      refine W.seqR fun Q9 hQ9 => ?_
      refine WL.q (Y.assign (.pl rfl)) rfl ?_
      refine WL.next hQ9 (.cons (i := 4) rfl (.nil)) ?_
      obtain rfl := Option.some.inj hF
      refine W.retV (fn := Try.f32) (vs := [.int .i64 2]) Try.results32 ⟨.tmp rfl, trivial⟩ (fun _ _ h => h) (fun w hw => ?_)
      exact hR _ _ ⟨rfl, (hw.pick [] rfl)⟩
    · replace hF := cneg hC8 hF
      obtain ⟨o10, hF10, hF⟩ := bnd hF
      refine W.join1 (Em := fun (v8 : Bool) => [(15, .bool v8)]) (M := fun v8 => []) (I := fun v8 => v8 = o10) (.nil) (fun K11 hK11 => ?_) ?_
      · -- up to
        -- region 6: object.go:145
        refine W.reg ?_
        refine WL.q (Y.move (.pl rfl)) rfl ?_
        refine WL.q (Y.move (.pl rfl)) rfl ?_
        refine bsplit (decide (r7 = 133)) (fun hT12 => ?_) (fun hT12 => ?_)
        · replace hF10 := cpos hT12 hF10
          obtain ⟨r9, hr9, hF10⟩ := bnd hF10
          refine WL.step (WO.callI (γ := Unit) (u := .agg #[]) (v := .agg #[]) (fun g => .bool r9) (fun g => []) (fun _ => True) meth133_valid isGo121 (Evs.ifE (k := 133) (of_decide_eq_true hT12) rfl (.pl rfl)) (.cons (.pl rfl) (.nil)) rfl (fun w hw => (object_single_valid_ok (hr9) w (hs5.mono hw)).calls hw) ?_)
          rintro _ -
          refine WL.q (Y.not (.pl rfl)) rfl ?_
          refine WL.q (Y.assign (.pl rfl)) rfl ?_
          refine WL.nil ?_
          exact W.joinAt1 hK11 (!r9) (Option.some.inj hF10) (.cons rfl (.nil)) (.nil) (fun w hw => hw.pick [] rfl)
        · replace hF10 := cneg hT12 hF10
          refine bsplit (decide (r7 = 136)) (fun hT13 => ?_) (fun hT13 => ?_)
          · replace hF10 := cpos hT13 hF10
            obtain ⟨r10, hr10, hF10⟩ := bnd hF10
            refine WL.step (WO.callI (γ := Unit) (u := .agg #[]) (v := .agg #[]) (fun g => .bool r10) (fun g => []) (fun _ => True) meth136_valid isGo124 (Evs.ifE (k := 136) (of_decide_eq_true hT13) rfl (.pl rfl)) (.cons (.pl rfl) (.nil)) rfl (fun w hw => (object_many_valid_ok (hr10) w (hs5.mono hw)).calls hw) ?_)
            rintro _ -
            refine WL.q (Y.not (.pl rfl)) rfl ?_
            refine WL.q (Y.assign (.pl rfl)) rfl ?_
            refine WL.nil ?_
            exact W.joinAt1 hK11 (!r10) (Option.some.inj hF10) (.cons rfl (.nil)) (.nil) (fun w hw => hw.pick [] rfl)
          · replace hF10 := cneg hT13 hF10
            refine bsplit (decide (r7 = 137)) (fun hT14 => ?_) (fun hT14 => ?_)
            · replace hF10 := cpos hT14 hF10
              obtain ⟨r11, hr11, hF10⟩ := bnd hF10
              refine WL.step (WO.callI (γ := Unit) (u := .agg #[]) (v := .agg #[]) (fun g => .bool r11) (fun g => []) (fun _ => True) meth137_valid isGo124 (Evs.ifE (k := 137) (of_decide_eq_true hT14) rfl (.pl rfl)) (.cons (.pl rfl) (.nil)) rfl (fun w hw => (object_many_valid_ok (hr11) w (hs5.mono hw)).calls hw) ?_)
              rintro _ -
              refine WL.q (Y.not (.pl rfl)) rfl ?_
              refine WL.q (Y.assign (.pl rfl)) rfl ?_
              refine WL.nil ?_
              exact W.joinAt1 hK11 (!r11) (Option.some.inj hF10) (.cons rfl (.nil)) (.nil) (fun w hw => hw.pick [] rfl)
            · replace hF10 := cneg hT14 hF10
              refine bsplit (decide (r7 = 138)) (fun hT15 => ?_) (fun hT15 => ?_)
              · replace hF10 := cpos hT15 hF10
                obtain ⟨r12, hr12, hF10⟩ := bnd hF10
                refine WL.step (WO.callI (γ := Unit) (u := .agg #[]) (v := .agg #[]) (fun g => .bool r12) (fun g => []) (fun _ => True) meth138_valid isGo130 (Evs.ifE (k := 138) (of_decide_eq_true hT15) rfl (.pl rfl)) (.cons (.pl rfl) (.nil)) rfl (fun w hw => (object_set_valid_ok (hr12) w (hs5.mono hw)).calls hw) ?_)
                rintro _ -
                refine WL.q (Y.not (.pl rfl)) rfl ?_
                refine WL.q (Y.assign (.pl rfl)) rfl ?_
                refine WL.nil ?_
                exact W.joinAt1 hK11 (!r12) (Option.some.inj hF10) (.cons rfl (.nil)) (.nil) (fun w hw => hw.pick [] rfl)
              · replace hF10 := cneg hT15 hF10
                refine bsplit (decide (r7 = 139)) (fun hT16 => ?_) (fun hT16 => ?_)
                · replace hF10 := cpos hT16 hF10
                  obtain ⟨r13, hr13, hF10⟩ := bnd hF10
                  refine WL.step (WO.callI (γ := Unit) (u := .agg #[]) (v := .agg #[]) (fun g => .bool r13) (fun g => []) (fun _ => True) meth139_valid isGo121 (Evs.ifE (k := 139) (of_decide_eq_true hT16) rfl (.pl rfl)) (.cons (.pl rfl) (.nil)) rfl (fun w hw => (object_single_valid_ok (hr13) w (hs5.mono hw)).calls hw) ?_)
                  rintro _ -
                  refine WL.q (Y.not (.pl rfl)) rfl ?_
                  refine WL.q (Y.assign (.pl rfl)) rfl ?_
                  refine WL.nil ?_
                  exact W.joinAt1 hK11 (!r13) (Option.some.inj hF10) (.cons rfl (.nil)) (.nil) (fun w hw => hw.pick [] rfl)
                · replace hF10 := cneg hT16 hF10
                  exact nomatch hF10
      · -- behind
        rintro v8 rfl
        refine W.cond (.pl rfl) (fun hC17 => ?_) (fun hC17 => ?_)
        · replace hF := cpos hC17 hF
          -- region 7: object.go:146
          refine W.seqR fun Q18 hQ18 => ?_
          refine WL.q (Y.assign (.pl rfl)) rfl ?_
          refine WL.next hQ18 (.cons (i := 4) rfl (.nil)) ?_
          obtain rfl := Option.some.inj hF
          refine W.retV (fn := Try.f32) (vs := [.int .i64 3]) Try.results32 ⟨.tmp rfl, trivial⟩ (fun _ _ h => h) (fun w hw => ?_)
          exact hR _ _ ⟨rfl, (hw.pick [] rfl)⟩
        · replace hF := cneg hC17 hF
          refine W.skip ?_
          refine W.go hK3 (.nil) ?_
          -- region 8: object.go:148
          refine W.seqR fun Q19 hQ19 => ?_
          refine WL.q (Y.assign (.pl rfl)) rfl ?_
          refine WL.next hQ19 (.cons (i := 4) rfl (.nil)) ?_
          obtain rfl := Option.some.inj hF
          refine W.retV (fn := Try.f32) (vs := [.int .i64 0]) Try.results32 ⟨.tmp rfl, trivial⟩ (fun _ _ h => h) (fun w hw => ?_)
          exact hR _ _ ⟨rfl, (hw.pick [] rfl)⟩

def history_typeOf (N : Nat) (kind1 : Int) : Option Int :=
  bd (α := Bool) (cond (decide (kind1 = 1))
      (some (decide (kind1 = 1)))
      (some (decide (kind1 = 2)))) <|
  fun (v2 : Bool) => 
    cond v2
      (some 1)
      (bd (α := Bool) (cond (decide (kind1 = 3))
          (some (decide (kind1 = 3)))
          (some (decide (kind1 = 4)))) <|
      fun (v3 : Bool) => 
        cond v3
          (some 2)
          (bd (α := Bool) (cond (decide (kind1 = 5))
              (some (decide (kind1 = 5)))
              (some (decide (kind1 = 6)))) <|
          fun (v4 : Bool) => 
            cond v4
              (some 3)
              (bd (α := Bool) (cond (decide (kind1 = 7))
                  (some (decide (kind1 = 7)))
                  (cond (decide (kind1 = 8))
                    (some (decide (kind1 = 8)))
                    (some (decide (kind1 = 9))))) <|
              fun (v5 : Bool) => 
                cond v5
                  (some 4)
                  (cond (decide (kind1 = 10))
                    (some 5)
                    (some 0)))))

theorem history_typeOf_ok {N : Nat} {kind1 : Int} {res : Int} (hF : history_typeOf N kind1 = some res) (w : World) :
    Pure Try.prog 91 [.int .i64 kind1] w (.int .i64 res) := by
  refine W.enter (n := 19) Try.func91 rfl rfl Sub.refl (by simp) (St.start w) fun R hR => ?_
  unfold history_typeOf at hF
  -- region 0: history.go:11
  refine W.seqR fun Q1 hQ1 => ?_
  refine WL.q (Y.assign (.pl rfl)) rfl ?_
  refine WL.next hQ1 (.cons (i := 0) rfl (.nil)) ?_
  refine W.seq fun K2 hK2 => ?_
  -- region 1: history.go:12
  refine W.seqR fun Q3 hQ3 => ?_
  refine WL.q (Y.move (.pl rfl)) rfl ?_
  refine WL.next hQ3 (.cons (i := 3) rfl (.nil)) ?_
  refine W.block ?_
  obtain ⟨o4, hF4, hF⟩ := bnd hF
  refine W.join1 (Em := fun (v2 : Bool) => [(4, .bool v2)]) (M := fun v2 => []) (I := fun v2 => v2 = o4) (.cons (i := 3) rfl (.nil)) (fun K5 hK5 => ?_) ?_
  · -- up to
    -- region 2: history.go:13
    refine W.seqR fun Q6 hQ6 => ?_
    refine WL.q (Y.eql (.pl rfl) (.pl rfl)) rfl ?_
    refine WL.q (Y.assign (.pl rfl)) rfl ?_
    refine WL.next hQ6 (.cons (i := 3) rfl (.cons (i := 4) rfl (.nil))) ?_
    refine W.cond (.pl rfl) (fun hC7 => ?_) (fun hC7 => ?_)
    · replace hF4 := cpos hC7 hF4
      refine W.skip ?_
      exact W.joinAt1 hK5 (decide (kind1 = 1)) (Option.some.inj hF4) (.cons rfl (.nil)) (.cons (i := 3) rfl (.nil)) (fun w hw => hw.pick [] rfl)
    · replace hF4 := cneg hC7 hF4
      -- region 3: history.go:13
      refine W.reg ?_
      refine WL.q (Y.eql (.pl rfl) (.pl rfl)) rfl ?_
      refine WL.q (Y.assign (.pl rfl)) rfl ?_
      refine WL.nil ?_
      exact W.joinAt1 hK5 (decide (kind1 = 2)) (Option.some.inj hF4) (.cons rfl (.nil)) (.cons (i := 3) rfl (.nil)) (fun w hw => hw.pick [] rfl)
  · -- behind
    rintro v2 rfl
    refine W.cond (.pl rfl) (fun hC9 => ?_) (fun hC9 => ?_)
    · replace hF := cpos hC9 hF
      -- region 4: history.go:14
      refine W.seqR fun Q10 hQ10 => ?_
      refine WL.q (Y.assign (.pl rfl)) rfl ?_
      refine WL.next hQ10 (.cons (i := 2) rfl (.nil)) ?_
      obtain rfl := Option.some.inj hF
      refine W.retV (fn := Try.f91) (vs := [.int .i64 1]) Try.results91 ⟨.tmp rfl, trivial⟩ (fun _ _ h => h) (fun w hw => ?_)
      exact hR _ _ ⟨rfl, (hw.pick [] rfl)⟩
    · replace hF := cneg hC9 hF
      obtain ⟨o11, hF11, hF⟩ := bnd hF
      refine W.join1 (Em := fun (v3 : Bool) => [(7, .bool v3)]) (M := fun v3 => []) (I := fun v3 => v3 = o11) (.cons (i := 3) rfl (.nil)) (fun K12 hK12 => ?_) ?_
      · -- up to
        -- region 5: history.go:15
        refine W.seqR fun Q13 hQ13 => ?_
        refine WL.q (Y.eql (.pl rfl) (.pl rfl)) rfl ?_
        refine WL.q (Y.assign (.pl rfl)) rfl ?_
        refine WL.next hQ13 (.cons (i := 3) rfl (.cons (i := 7) rfl (.nil))) ?_
        refine W.cond (.pl rfl) (fun hC14 => ?_) (fun hC14 => ?_)
        · replace hF11 := cpos hC14 hF11
          refine W.skip ?_
          exact W.joinAt1 hK12 (decide (kind1 = 3)) (Option.some.inj hF11) (.cons rfl (.nil)) (.cons (i := 3) rfl (.nil)) (fun w hw => hw.pick [] rfl)
        · replace hF11 := cneg hC14 hF11
          -- region 6: history.go:15
          refine W.reg ?_
          refine WL.q (Y.eql (.pl rfl) (.pl rfl)) rfl ?_
          refine WL.q (Y.assign (.pl rfl)) rfl ?_
          refine WL.nil ?_
          exact W.joinAt1 hK12 (decide (kind1 = 4)) (Option.some.inj hF11) (.cons rfl (.nil)) (.cons (i := 3) rfl (.nil)) (fun w hw => hw.pick [] rfl)
      · -- behind
        rintro v3 rfl
        refine W.cond (.pl rfl) (fun hC16 => ?_) (fun hC16 => ?_)
        · replace hF := cpos hC16 hF
          -- region 7: history.go:16
          refine W.seqR fun Q17 hQ17 => ?_
          refine WL.q (Y.assign (.pl rfl)) rfl ?_
          refine WL.next hQ17 (.cons (i := 2) rfl (.nil)) ?_
          obtain rfl := Option.some.inj hF
          refine W.retV (fn := Try.f91) (vs := [.int .i64 2]) Try.results91 ⟨.tmp rfl, trivial⟩ (fun _ _ h => h) (fun w hw => ?_)
          exact hR _ _ ⟨rfl, (hw.pick [] rfl)⟩
        · replace hF := cneg hC16 hF
          obtain ⟨o18, hF18, hF⟩ := bnd hF
          refine W.join1 (Em := fun (v4 : Bool) => [(10, .bool v4)]) (M := fun v4 => []) (I := fun v4 => v4 = o18) (.cons (i := 3) rfl (.nil)) (fun K19 hK19 => ?_) ?_
          · -- up to
            -- region 8: history.go:17
            refine W.seqR fun Q20 hQ20 => ?_
            refine WL.q (Y.eql (.pl rfl) (.pl rfl)) rfl ?_
            refine WL.q (Y.assign (.pl rfl)) rfl ?_
            refine WL.next hQ20 (.cons (i := 3) rfl (.cons (i := 10) rfl (.nil))) ?_
            refine W.cond (.pl rfl) (fun hC21 => ?_) (fun hC21 => ?_)
            · replace hF18 := cpos hC21 hF18
              refine W.skip ?_
              exact W.joinAt1 hK19 (decide (kind1 = 5)) (Option.some.inj hF18) (.cons rfl (.nil)) (.cons (i := 3) rfl (.nil)) (fun w hw => hw.pick [] rfl)
            · replace hF18 := cneg hC21 hF18
              -- region 9: history.go:17
              refine W.reg ?_
              refine WL.q (Y.eql (.pl rfl) (.pl rfl)) rfl ?_
              refine WL.q (Y.assign (.pl rfl)) rfl ?_
              refine WL.nil ?_
              exact W.joinAt1 hK19 (decide (kind1 = 6)) (Option.some.inj hF18) (.cons rfl (.nil)) (.cons (i := 3) rfl (.nil)) (fun w hw => hw.pick [] rfl)
          · -- behind
            rintro v4 rfl
            refine W.cond (.pl rfl) (fun hC23 => ?_) (fun hC23 => ?_)
            · replace hF := cpos hC23 hF
              -- region 10: history.go:18
              refine W.seqR fun Q24 hQ24 => ?_
              refine WL.q (Y.assign (.pl rfl)) rfl ?_
              refine WL.next hQ24 (.cons (i := 2) rfl (.nil)) ?_
              obtain rfl := Option.some.inj hF
              refine W.retV (fn := Try.f91) (vs := [.int .i64 3]) Try.results91 ⟨.tmp rfl, trivial⟩ (fun _ _ h => h) (fun w hw => ?_)
              exact hR _ _ ⟨rfl, (hw.pick [] rfl)⟩
            · replace hF := cneg hC23 hF
              obtain ⟨o25, hF25, hF⟩ := bnd hF
              refine W.join1 (Em := fun (v5 : Bool) => [(13, .bool v5)]) (M := fun v5 => []) (I := fun v5 => v5 = o25) (.cons (i := 3) rfl (.nil)) (fun K26 hK26 => ?_) ?_
              · -- up to
                -- region 11: history.go:19
                refine W.seqR fun Q27 hQ27 => ?_
                refine WL.q (Y.eql (.pl rfl) (.pl rfl)) rfl ?_
                refine WL.q (Y.assign (.pl rfl)) rfl ?_
                refine WL.next hQ27 (.cons (i := 3) rfl (.cons (i := 13) rfl (.nil))) ?_
                refine W.cond (.pl rfl) (fun hC28 => ?_) (fun hC28 => ?_)
                · replace hF25 := cpos hC28 hF25
                  refine W.skip ?_
                  exact W.joinAt1 hK26 (decide (kind1 = 7)) (Option.some.inj hF25) (.cons rfl (.nil)) (.cons (i := 3) rfl (.nil)) (fun w hw => hw.pick [] rfl)
                · replace hF25 := cneg hC28 hF25
                  -- region 12: history.go:19
                  refine W.seqR fun Q29 hQ29 => ?_
                  refine WL.q (Y.eql (.pl rfl) (.pl rfl)) rfl ?_
                  refine WL.q (Y.assign (.pl rfl)) rfl ?_
                  refine WL.next hQ29 (.cons (i := 3) rfl (.cons (i := 13) rfl (.nil))) ?_
                  refine W.cond (.pl rfl) (fun hC30 => ?_) (fun hC30 => ?_)
                  · replace hF25 := cpos hC30 hF25
                    refine W.skip ?_
                    exact W.joinAt1 hK26 (decide (kind1 = 8)) (Option.some.inj hF25) (.cons rfl (.nil)) (.cons (i := 3) rfl (.nil)) (fun w hw => hw.pick [] rfl)
                  · replace hF25 := cneg hC30 hF25
                    -- region 13: history.go:19
                    refine W.reg ?_
                    refine WL.q (Y.eql (.pl rfl) (.pl rfl)) rfl ?_
                    refine WL.q (Y.assign (.pl rfl)) rfl ?_
                    refine WL.nil ?_
                    exact W.joinAt1 hK26 (decide (kind1 = 9)) (Option.some.inj hF25) (.cons rfl (.nil)) (.cons (i := 3) rfl (.nil)) (fun w hw => hw.pick [] rfl)
              · -- behind
                rintro v5 rfl
                refine W.cond (.pl rfl) (fun hC32 => ?_) (fun hC32 => ?_)
                · replace hF := cpos hC32 hF
                  -- region 14: history.go:20
                  refine W.seqR fun Q33 hQ33 => ?_
                  refine WL.q (Y.assign (.pl rfl)) rfl ?_
                  refine WL.next hQ33 (.cons (i := 2) rfl (.nil)) ?_
                  obtain rfl := Option.some.inj hF
                  refine W.retV (fn := Try.f91) (vs := [.int .i64 4]) Try.results91 ⟨.tmp rfl, trivial⟩ (fun _ _ h => h) (fun w hw => ?_)
                  exact hR _ _ ⟨rfl, (hw.pick [] rfl)⟩
                · replace hF := cneg hC32 hF
                  -- region 15: history.go:21
                  refine W.seqR fun Q34 hQ34 => ?_
                  refine WL.q (Y.eql (.pl rfl) (.pl rfl)) rfl ?_
                  refine WL.q (Y.assign (.pl rfl)) rfl ?_
                  refine WL.next hQ34 (.cons (i := 17) rfl (.nil)) ?_
                  refine W.cond (.pl rfl) (fun hC35 => ?_) (fun hC35 => ?_)
                  · replace hF := cpos hC35 hF
                    -- region 16: history.go:22
                    refine W.seqR fun Q36 hQ36 => ?_
                    refine WL.q (Y.assign (.pl rfl)) rfl ?_
                    refine WL.next hQ36 (.cons (i := 2) rfl (.nil)) ?_
                    obtain rfl := Option.some.inj hF
                    refine W.retV (fn := Try.f91) (vs := [.int .i64 5]) Try.results91 ⟨.tmp rfl, trivial⟩ (fun _ _ h => h) (fun w hw => ?_)
                    exact hR _ _ ⟨rfl, (hw.pick [] rfl)⟩
                  · replace hF := cneg hC35 hF
                    refine W.skip ?_
                    refine W.go hK2 (.nil) ?_
                    -- region 17: history.go:24
                    refine W.seqR fun Q37 hQ37 => ?_
                    refine WL.q (Y.assign (.pl rfl)) rfl ?_
                    refine WL.next hQ37 (.cons (i := 2) rfl (.nil)) ?_
                    obtain rfl := Option.some.inj hF
                    refine W.retV (fn := Try.f91) (vs := [.int .i64 0]) Try.results91 ⟨.tmp rfl, trivial⟩ (fun _ _ h => h) (fun w hw => ?_)
                    exact hR _ _ ⟨rfl, (hw.pick [] rfl)⟩

def history_Fits (N : Nat) (typ1 : Int) (kind2 : Int) : Option Bool :=
  bd ((cond ((!(decide (typ1 = 0))) == true) (history_typeOf N kind2) (some 0))) fun (r3 : Int) =>
  some ((!(decide (typ1 = 0))) && (decide (r3 = typ1)))

theorem history_Fits_ok {N : Nat} {typ1 : Int} {kind2 : Int} {res : Bool} (hF : history_Fits N typ1 kind2 = some res) (w : World) :
    Pure Try.prog 65 [.int .i64 typ1, .int .i64 kind2] w (.bool res) := by
  refine W.enter (n := 13) Try.func65 rfl rfl Sub.refl (by simp) (St.start w) fun R hR => ?_
  unfold history_Fits at hF
  -- region 0: history.go:28
  refine W.seqR fun Q1 hQ1 => ?_
  refine WL.q (Y.assign (.pl rfl)) rfl ?_
  refine WL.next hQ1 (.cons (i := 0) rfl (.cons (i := 1) rfl (.nil))) ?_
  -- region 1: history.go:28
  refine W.seqR fun Q2 hQ2 => ?_
  refine WL.q (Y.move (.pl rfl)) rfl ?_
  refine WL.q (Y.neq (.pl rfl) (.pl rfl)) rfl ?_
  refine WL.q (Y.move (.pl rfl)) rfl ?_
  refine WL.g (.pl rfl rfl rfl) (fun hg => Y.move (.pl rfl)) rfl ?_
  obtain ⟨r3, hr3, hF⟩ := bnd hF
  refine WL.gP (.pl rfl rfl rfl) isGo91 (fun hg => (.cons (.gd (hg) rfl) (.nil))) rfl (fun hg w hw => history_typeOf_ok (gpos hg hr3) w ) ?_
  refine WL.g (.pl rfl rfl rfl) (fun hg => Y.move (.pl rfl)) rfl ?_
  refine WL.g (.pl rfl rfl rfl) (fun hg => Y.eql (.gd (hg) rfl) (.gd (hg) rfl)) rfl ?_
  refine WL.q (Y.and (.pl rfl) (fun h2 => .gd (eqt h2) rfl)) rfl ?_
  refine WL.q (Y.assign (.pl rfl)) rfl ?_
  refine WL.next hQ2 (.cons (i := 4) rfl (.nil)) ?_
  obtain rfl := Option.some.inj hF
  refine W.retV (fn := Try.f65) (vs := [.bool ((!(decide (typ1 = 0))) && (decide (r3 = typ1)))]) Try.results65 ⟨.tmp rfl, trivial⟩ (fun _ _ h => h) (fun w hw => ?_)
  exact hR _ _ ⟨rfl, (hw.pick [] rfl)⟩

def history_Argument (N : Nat) (kind1 : Int) (n2 : Int) : Option Bool :=
  bd (α := (Unit ⊕ Bool)) (cond (decide (kind1 = 2))
      (cond (decide (kind1 = 2))
        (some (.inr (decide (n2 = 0))))
        (some (.inl ())))
      (cond (decide (kind1 = 4))
        (cond (decide (kind1 = 4))
          (some (.inr (decide (n2 = 0))))
          (some (.inl ())))
        (cond (decide (kind1 = 6))
          (cond (decide (kind1 = 6))
            (some (.inr (decide (n2 = 0))))
            (some (.inl ())))
          (cond (decide (kind1 = 10))
            (some (.inr (decide (n2 = 0))))
            (some (.inl ())))))) <|
  Sum.elim (fun _ => 
    some ((decide (1 ≤ n2)) && (decide (n2 ≤ 1000)))) (fun p => some p)

theorem history_Argument_ok {N : Nat} {kind1 : Int} {n2 : Int} {res : Bool} (hF : history_Argument N kind1 n2 = some res) (w : World) :
    Pure Try.prog 66 [.int .i64 kind1, .int .i64 n2] w (.bool res) := by
  refine W.enter (n := 19) Try.func66 rfl rfl Sub.refl (by simp) (St.start w) fun R hR => ?_
  unfold history_Argument at hF
  -- region 0: history.go:31
  refine W.seqR fun Q1 hQ1 => ?_
  refine WL.q (Y.assign (.pl rfl)) rfl ?_
  refine WL.next hQ1 (.cons (i := 0) rfl (.cons (i := 1) rfl (.nil))) ?_
  obtain ⟨o2, hF2, hF⟩ := bnd hF
  refine W.join0 (Em := []) (M := []) (I := (.inl ()) = o2) (.cons (i := 1) rfl (.nil)) (fun K3 hK3 => ?_) ?_
  · -- up to
    -- region 1: history.go:32
    refine W.seqR fun Q4 hQ4 => ?_
    refine WL.q (Y.move (.pl rfl)) rfl ?_
    refine WL.next hQ4 (.cons (i := 1) rfl (.cons (i := 5) rfl (.nil))) ?_
    refine W.block ?_
    refine W.seq fun K5 hK5 => ?_
    -- region 2: history.go:33
    refine W.seqR fun Q6 hQ6 => ?_
    refine WL.q (Y.eql (.pl rfl) (.pl rfl)) rfl ?_
    refine WL.q (Y.assign (.pl rfl)) rfl ?_
    refine WL.next hQ6 (.cons (i := 1) rfl (.cons (i := 5) rfl (.cons (i := 6) rfl (.nil)))) ?_
    refine W.cond (.pl rfl) (fun hC7 => ?_) (fun hC7 => ?_)
    · replace hF2 := cpos hC7 hF2
      refine W.skip ?_
      refine W.go hK5 (.cons (i := 1) rfl (.cons (i := 6) rfl (.nil))) ?_
      refine W.cond (.pl rfl) (fun hC8 => ?_) (fun hC8 => ?_)
      · replace hF2 := cpos hC8 hF2
        -- region 6: history.go:34
        refine W.seqR fun Q9 hQ9 => ?_
        refine WL.q (Y.move (.pl rfl)) rfl ?_
        refine WL.q (Y.eql (.pl rfl) (.pl rfl)) rfl ?_
        refine WL.q (Y.assign (.pl rfl)) rfl ?_
        refine WL.next hQ9 (.cons (i := 4) rfl (.nil)) ?_
        obtain rfl := Option.some.inj hF2
        obtain rfl := Option.some.inj hF
        refine W.retV (fn := Try.f66) (vs := [.bool (decide (n2 = 0))]) Try.results66 ⟨.tmp rfl, trivial⟩ (fun _ _ h => h) (fun w hw => ?_)
        exact hR _ _ ⟨rfl, (hw.pick [] rfl)⟩
      · replace hF2 := cneg hC8 hF2
        refine W.skip ?_
        exact W.joinAt0 hK3  (Option.some.inj hF2) (.nil) (.cons (i := 1) rfl (.nil)) (fun w hw => hw.pick [] rfl)
    · replace hF2 := cneg hC7 hF2
      -- region 3: history.go:33
      refine W.seqR fun Q10 hQ10 => ?_
      refine WL.q (Y.eql (.pl rfl) (.pl rfl)) rfl ?_
      refine WL.q (Y.assign (.pl rfl)) rfl ?_
      refine WL.next hQ10 (.cons (i := 1) rfl (.cons (i := 5) rfl (.cons (i := 6) rfl (.nil)))) ?_
      refine W.cond (.pl rfl) (fun hC11 => ?_) (fun hC11 => ?_)
      · replace hF2 := cpos hC11 hF2
        refine W.skip ?_
        refine W.go hK5 (.cons (i := 1) rfl (.cons (i := 6) rfl (.nil))) ?_
        refine W.cond (.pl rfl) (fun hC12 => ?_) (fun hC12 => ?_)
        · replace hF2 := cpos hC12 hF2
          -- region 6: history.go:34
          refine W.seqR fun Q13 hQ13 => ?_
          refine WL.q (Y.move (.pl rfl)) rfl ?_
          refine WL.q (Y.eql (.pl rfl) (.pl rfl)) rfl ?_
          refine WL.q (Y.assign (.pl rfl)) rfl ?_
          refine WL.next hQ13 (.cons (i := 4) rfl (.nil)) ?_
          obtain rfl := Option.some.inj hF2
          obtain rfl := Option.some.inj hF
          refine W.retV (fn := Try.f66) (vs := [.bool (decide (n2 = 0))]) Try.results66 ⟨.tmp rfl, trivial⟩ (fun _ _ h => h) (fun w hw => ?_)
          exact hR _ _ ⟨rfl, (hw.pick [] rfl)⟩
        · replace hF2 := cneg hC12 hF2
          refine W.skip ?_
          exact W.joinAt0 hK3  (Option.some.inj hF2) (.nil) (.cons (i := 1) rfl (.nil)) (fun w hw => hw.pick [] rfl)
      · replace hF2 := cneg hC11 hF2
        -- region 4: history.go:33
        refine W.seqR fun Q14 hQ14 => ?_
        refine WL.q (Y.eql (.pl rfl) (.pl rfl)) rfl ?_
        refine WL.q (Y.assign (.pl rfl)) rfl ?_
        refine WL.next hQ14 (.cons (i := 1) rfl (.cons (i := 5) rfl (.cons (i := 6) rfl (.nil)))) ?_
        refine W.cond (.pl rfl) (fun hC15 => ?_) (fun hC15 => ?_)
        · replace hF2 := cpos hC15 hF2
          refine W.skip ?_
          refine W.go hK5 (.cons (i := 1) rfl (.cons (i := 6) rfl (.nil))) ?_
          refine W.cond (.pl rfl) (fun hC16 => ?_) (fun hC16 => ?_)
          · replace hF2 := cpos hC16 hF2
            -- region 6: history.go:34
            refine W.seqR fun Q17 hQ17 => ?_
            refine WL.q (Y.move (.pl rfl)) rfl ?_
            refine WL.q (Y.eql (.pl rfl) (.pl rfl)) rfl ?_
            refine WL.q (Y.assign (.pl rfl)) rfl ?_
            refine WL.next hQ17 (.cons (i := 4) rfl (.nil)) ?_
            obtain rfl := Option.some.inj hF2
            obtain rfl := Option.some.inj hF
            refine W.retV (fn := Try.f66) (vs := [.bool (decide (n2 = 0))]) Try.results66 ⟨.tmp rfl, trivial⟩ (fun _ _ h => h) (fun w hw => ?_)
            exact hR _ _ ⟨rfl, (hw.pick [] rfl)⟩
          · replace hF2 := cneg hC16 hF2
            refine W.skip ?_
            exact W.joinAt0 hK3  (Option.some.inj hF2) (.nil) (.cons (i := 1) rfl (.nil)) (fun w hw => hw.pick [] rfl)
        · replace hF2 := cneg hC15 hF2
          -- region 5: history.go:33
          refine W.reg ?_
          refine WL.q (Y.eql (.pl rfl) (.pl rfl)) rfl ?_
          refine WL.q (Y.assign (.pl rfl)) rfl ?_
          refine WL.nil ?_
          refine W.go hK5 (.cons (i := 1) rfl (.cons (i := 6) rfl (.nil))) ?_
          refine W.cond (.pl rfl) (fun hC19 => ?_) (fun hC19 => ?_)
          · replace hF2 := cpos hC19 hF2
            -- region 6: history.go:34
            refine W.seqR fun Q20 hQ20 => ?_
            refine WL.q (Y.move (.pl rfl)) rfl ?_
            refine WL.q (Y.eql (.pl rfl) (.pl rfl)) rfl ?_
            refine WL.q (Y.assign (.pl rfl)) rfl ?_
            refine WL.next hQ20 (.cons (i := 4) rfl (.nil)) ?_
            obtain rfl := Option.some.inj hF2
            obtain rfl := Option.some.inj hF
            refine W.retV (fn := Try.f66) (vs := [.bool (decide (n2 = 0))]) Try.results66 ⟨.tmp rfl, trivial⟩ (fun _ _ h => h) (fun w hw => ?_)
            exact hR _ _ ⟨rfl, (hw.pick [] rfl)⟩
          · replace hF2 := cneg hC19 hF2
            refine W.skip ?_
            exact W.joinAt0 hK3  (Option.some.inj hF2) (.nil) (.cons (i := 1) rfl (.nil)) (fun w hw => hw.pick [] rfl)
  · -- behind
    rintro  rfl
    -- region 7: history.go:36
    refine W.seqR fun Q21 hQ21 => ?_
    refine WL.q (Y.move (.pl rfl)) rfl ?_
    refine WL.q (Y.geq (.pl rfl) (.pl rfl)) rfl ?_
    refine WL.q (Y.move (.pl rfl)) rfl ?_
    refine WL.g (.pl rfl rfl rfl) (fun hg => Y.move (.pl rfl)) rfl ?_
    refine WL.g (.pl rfl rfl rfl) (fun hg => Y.leq (.gd (hg) rfl) (.pl rfl)) rfl ?_
    refine WL.q (Y.and (.pl rfl) (fun h2 => .gd (eqt h2) rfl)) rfl ?_
    refine WL.q (Y.assign (.pl rfl)) rfl ?_
    refine WL.next hQ21 (.cons (i := 4) rfl (.nil)) ?_
    obtain rfl := Option.some.inj hF
    refine W.retV (fn := Try.f66) (vs := [.bool ((decide (1 ≤ n2)) && (decide (n2 ≤ 1000)))]) Try.results66 ⟨.tmp rfl, trivial⟩ (fun _ _ h => h) (fun w hw => ?_)
    exact hR _ _ ⟨rfl, (hw.pick [] rfl)⟩

/-- slices.Clone -/
theorem slices_Clone_int_int_ok {xs : List Int} (hb : limB 8 xs.length = true) (w : World) {v : Value} (h : SlIn (eI .i64) 1 w v xs) :
    Made Try.prog 33 [v] w (fun g : Option Addr × Nat => .slice g.1 xs.length g.2) (fun g => [cR (eI .i64) 1 g.1 g.2 3 xs]) (fun _ => True) := by
  obtain ⟨A1, c1, rfl, hc1, hs⟩ := h.form
  refine W.enter (n := 8) Try.func33 rfl rfl Sub.refl (by simp) (St.start w) fun R hR => ?_
  refine W.seqR fun Q1 hQ1 => ?_
  refine WL.q (Y.assign (.pl rfl)) rfl ?_
  refine WL.next hQ1 (.cons (i := 0) rfl (.nil)) ?_
  refine W.seq fun K2 hK2 => ?_
  refine W.seqR fun Q3 hQ3 => ?_
  refine WL.q (Y.move (.pl rfl)) rfl ?_
  refine WL.q (Y.eqNil Try.underlying22 (.pl rfl)) rfl ?_
  refine WL.next hQ3 (.cons (i := 0) rfl (.cons (i := 4) rfl (.nil))) ?_
  refine W.cond (.pl rfl) (fun hC => ?_) (fun hC => ?_)
  · refine W.seqR fun Q4 hQ4 => ?_
    refine WL.q (Y.assign (.pl rfl)) rfl ?_
    refine WL.next hQ4 (.cons (i := 2) rfl (.nil)) ?_
    have hx : xs = [] := by
      cases xs with
      | nil => rfl
      | cons a r =>
        have := (hs.okA' (idx := 0) ⟨Int.le_refl _, by simp⟩).1
        rw [Option.isNone_iff_eq_none] at hC
        rw [hC] at this; cases this
    subst hx
    refine W.retV (fn := Try.f33) (vs := [.slice none 0 0]) Try.results33 ⟨.tmp rfl, trivial⟩ (fun _ _ h => h) (fun w hw => ?_)
    exact hR _ _ ⟨(none, 0), trivial, rfl, St.nilR hw (eI .i64) 1 3⟩
  · refine W.skip ?_
    refine W.go hK2 (.cons (i := 0) rfl (.nil)) ?_
    obtain ⟨a1, rfl⟩ : ∃ a, A1 = some a := by cases A1 with
      | none => cases hC
      | some a => exact ⟨a, rfl⟩
    refine W.seqR fun Q5 hQ5 => ?_
    refine WL.step (WO.bsliceC (enc := (eI .i64)) (ys := []) Try.underlying22 bz3 (.nil) rfl (fun _ => rfl) rfl rfl (by decide) (by decide) rfl fun b => ?_)
    refine WL.q (Y.move (.pl rfl)) rfl ?_
    refine WL.step (WO.appendS (enc := (eI .i64)) (ys := xs) (xs := []) Try.underlying22 ap3 (fun _ => rfl) oneI (.pl rfl) rfl (.pl rfl) (i := 0) rfl (fun w hw => hs.mono hw) (by simpa using hb) rfl fun A c => ?_)
    refine WL.q (Y.assign (.pl rfl)) rfl ?_
    refine WL.next hQ5 (.cons (i := 2) rfl (.nil)) ?_
    refine W.retV (fn := Try.f33) (vs := [.slice A xs.length c]) Try.results33 ⟨.tmp rfl, trivial⟩ (fun _ _ h => h) (fun w hw => ?_)
    exact hR _ _ ⟨(A, c), trivial, rfl, hw⟩

def object_register_step (N : Nat) (a1 : ObjectRegister) (s4 : (List Int)) (kind5 : Int) (arg6 : Int) : Option ((List Int) × Int) :=
  cond (decide (kind5 = 1))
    (some (([arg6] : List Int), 0))
    (bd (ix s4 0) fun (x9 : Int) =>
    some (s4, x9))

theorem object_register_step_ok {N : Nat} {a1 : ObjectRegister} {s4 : (List Int)} {kind5 : Int} {arg6 : Int} {A2 : Option Addr} {c3 : Nat} {res : ((List Int) × Int)} (hF : object_register_step N a1 s4 kind5 arg6 = some res) {w0 w : World} {T : List Chunk} (hw : St w0.heap.size w0 ([cR (eI .i64) 1 A2 c3 3 s4] ++ T) w) :
    Calls Try.prog 122 (List.toArray [.agg (encObjectRegister a1).toArray, .slice A2 (s4).length c3, .int .i64 kind5, .int .i64 arg6]) w (fun e w' => ∃ g : (Option Addr × Nat), (True) ∧ e = .returned (.tuple #[.slice g.1 (res.1).length g.2, .int .i64 res.2, .int .i64 0]) ∧ St w0.heap.size w0 ([cR (eI .i64) 1 g.1 g.2 3 res.1] ++ T) w') := by
  refine W.enter (n := 19) Try.func122 rfl rfl Sub.refl (by simp) hw fun R hR => ?_
  unfold object_register_step at hF
  -- region 0: object.go:27
  refine W.seqR fun Q1 hQ1 => ?_
  refine WL.step (WO.boxA (.pl rfl) rfl fun b7 => ?_)
  refine WL.q (Y.assign (.pl rfl)) rfl ?_
  refine WL.q (Y.assign (.pl rfl)) rfl ?_
  refine WL.q (Y.assign (.pl rfl)) rfl ?_
  refine WL.next hQ1 (.cons (i := 1) rfl (.cons (i := 2) rfl (.cons (i := 3) rfl (.nil)))) ?_
  refine W.seq fun K2 hK2 => ?_
  -- region 1: object.go:28
  refine W.seqR fun Q3 hQ3 => ?_
  refine WL.q (Y.move (.pl rfl)) rfl ?_
  refine WL.q (Y.eql (.pl rfl) (.pl rfl)) rfl ?_
  refine WL.next hQ3 (.cons (i := 1) rfl (.cons (i := 3) rfl (.cons (i := 12) rfl (.nil)))) ?_
  refine W.cond (.pl rfl) (fun hC4 => ?_) (fun hC4 => ?_)
  · replace hF := cpos hC4 hF
    -- region 2: object.go:29
    refine W.seqR fun Q5 hQ5 => ?_
    refine WL.q (Y.move (.pl rfl)) rfl ?_
    refine WL.step (WO.bsliceC (enc := (eI .i64)) (ys := ([arg6] : List Int)) Try.underlying22 bz3 (.cons (.pl rfl) (.nil)) rfl (fun _ => rfl) rfl rfl (by decide) (by decide) rfl fun b8 => ?_)
    refine WL.q (Y.assign (.pl rfl)) rfl ?_
    refine WL.q (Y.assign (.pl rfl)) rfl ?_
    refine WL.q (Y.assign (.pl rfl)) rfl ?_
    refine WL.next hQ5 (.cons (i := 8) rfl (.cons (i := 9) rfl (.cons (i := 10) rfl (.nil)))) ?_
    obtain rfl := Option.some.inj hF
    refine W.retV (fn := Try.f122) (vs := [.slice (some ⟨b8, 0, none⟩) (([arg6] : List Int)).length (([arg6] : List Int)).length, .int .i64 0, .int .i64 0]) Try.results122 ⟨.tmp rfl, ⟨.tmp rfl, ⟨.tmp rfl, trivial⟩⟩⟩ (fun _ _ h => h) (fun w hw => ?_)
    exact hR _ _ ⟨((some ⟨b8, 0, none⟩), (([arg6] : List Int)).length), trivial, rfl, (hw.pickK 3 [0] rfl)⟩
  · replace hF := cneg hC4 hF
    refine W.skip ?_
    refine W.go hK2 (.cons (i := 1) rfl (.nil)) ?_
    -- region 3: object.go:31
    refine W.seqD (by kernel_rfl) (by kernel_rfl) fun R6 hR6 => ?_
    refine WD.q (Y.move (.pl rfl)) rfl ?_
    refine WD.q (Y.move (.pl rfl)) rfl ?_
    obtain ⟨x9, hx9, hF⟩ := bnd hF
    refine WD.q (Y.rowEl Try.underlying22 cells3 (i := 1) rfl (.pl rfl) rfl (.pl rfl) (ix_lt (hx9))) rfl ?_
    refine WD.q (Y.loadR (enc := (eI .i64)) (v := .int .i64 x9) (a := x9) (idx := 0) (j := 0) Try.underlying3 rfl (fun _ => rfl) (i := 1) rfl (.pl rfl) (ix_get (hx9)) rfl rfl) rfl ?_
    refine WD.q (Y.assign (.pl rfl)) rfl ?_
    refine WD.q (Y.assign (.pl rfl)) rfl ?_
    refine WD.q (Y.assign (.pl rfl)) rfl ?_
    refine WD.next hR6 (.cons (i := 8) rfl (.cons (i := 9) rfl (.cons (i := 10) rfl (.nil)))) ?_
    obtain rfl := Option.some.inj hF
    refine W.retV (fn := Try.f122) (vs := [.slice A2 (s4).length c3, .int .i64 x9, .int .i64 0]) Try.results122 ⟨.tmp rfl, ⟨.tmp rfl, ⟨.tmp rfl, trivial⟩⟩⟩ (fun _ _ h => h) (fun w hw => ?_)
    exact hR _ _ ⟨(A2, c3), trivial, rfl, (hw.pickK 2 [1] rfl)⟩

def object_many_put (N : Nat) (a1 : ObjectSingle) (s4 : (List Int)) (arg5 : Int) : Option ((List Int) × Int) :=
  cond (decide (((s4).length : Int) = 50))
    (some ([], 2))
    (ck (limB 8 ((s4).length + (([arg5] : List Int)).length)) <|
    some ((s4 ++ ([arg5] : List Int)), 0))

theorem object_many_put_ok {N : Nat} {a1 : ObjectSingle} {s4 : (List Int)} {arg5 : Int} {A2 : Option Addr} {c3 : Nat} {res : ((List Int) × Int)} (hF : object_many_put N a1 s4 arg5 = some res) {w0 w : World} {T : List Chunk} (hw : St w0.heap.size w0 ([cR (eI .i64) 1 A2 c3 3 s4] ++ T) w) :
    Calls Try.prog 127 (List.toArray [.agg (encObjectSingle a1).toArray, .slice A2 (s4).length c3, .int .i64 arg5]) w (fun e w' => ∃ g : (Option Addr × Nat), (True) ∧ e = .returned (.tuple #[.slice g.1 (res.1).length g.2, .int .i64 0, .int .i64 res.2]) ∧ St w0.heap.size w0 ([cR (eI .i64) 1 g.1 g.2 3 res.1] ++ T) w') := by
  refine W.enter (n := 16) Try.func127 rfl rfl Sub.refl (by simp) hw fun R hR => ?_
  unfold object_many_put at hF
  -- region 0: object.go:53
  refine W.seqR fun Q1 hQ1 => ?_
  refine WL.step (WO.boxA (.pl rfl) rfl fun b6 => ?_)
  refine WL.q (Y.assign (.pl rfl)) rfl ?_
  refine WL.q (Y.assign (.pl rfl)) rfl ?_
  refine WL.q (Y.assign (.pl rfl)) rfl ?_
  refine WL.next hQ1 (.cons (i := 1) rfl (.cons (i := 2) rfl (.nil))) ?_
  refine W.seq fun K2 hK2 => ?_
  -- region 1: object.go:54
  refine W.seqR fun Q3 hQ3 => ?_
  refine WL.q (Y.move (.pl rfl)) rfl ?_
  refine WL.q (Y.len Try.underlying22 (.pl rfl)) rfl ?_
  refine WL.q (Y.eql (.pl rfl) (.pl rfl)) rfl ?_
  refine WL.next hQ3 (.cons (i := 1) rfl (.cons (i := 2) rfl (.cons (i := 11) rfl (.nil)))) ?_
  refine W.cond (.pl rfl) (fun hC4 => ?_) (fun hC4 => ?_)
  · replace hF := cpos hC4 hF
    -- region 2: object.go:55
    refine W.seqR fun Q5 hQ5 => ?_
    refine WL.q (Y.assign (.pl rfl)) rfl ?_
    refine WL.q (Y.assign (.pl rfl)) rfl ?_
    refine WL.q (Y.assign (.pl rfl)) rfl ?_
    refine WL.next hQ5 (.cons (i := 6) rfl (.cons (i := 7) rfl (.cons (i := 8) rfl (.nil)))) ?_
    obtain rfl := Option.some.inj hF
    refine W.retV (fn := Try.f127) (vs := [.slice none 0 0, .int .i64 0, .int .i64 2]) Try.results127 ⟨.tmp rfl, ⟨.tmp rfl, ⟨.tmp rfl, trivial⟩⟩⟩ (fun _ _ h => h) (fun w hw => ?_)
    exact hR _ _ ⟨(none, 0), trivial, rfl, ((St.nilR (hw.pickK 2 [] rfl) (eI .i64) 1 3).pickK 1 [0] rfl)⟩
  · replace hF := cneg hC4 hF
    refine W.skip ?_
    refine W.go hK2 (.cons (i := 1) rfl (.cons (i := 2) rfl (.nil))) ?_
    -- region 3: object.go:57
    refine W.seqR fun Q6 hQ6 => ?_
    refine WL.q (Y.move (.pl rfl)) rfl ?_
    refine WL.q (Y.move (.pl rfl)) rfl ?_
    refine WL.step (WO.bsliceC (enc := (eI .i64)) (ys := ([arg5] : List Int)) Try.underlying22 bz3 (.cons (.pl rfl) (.nil)) rfl (fun _ => rfl) rfl rfl (by decide) (by decide) rfl fun b7 => ?_)
    obtain ⟨hk10, hF⟩ := ckh hF
    refine WL.step (WO.appendC (enc := (eI .i64)) Try.underlying22 ap3 (fun _ => rfl) oneI (.pl rfl) rfl (.pl rfl) (i := 2) rfl (m2 := 0) rfl (hk10) rfl fun A8 c9 => ?_)
    refine WL.q (Y.assign (.pl rfl)) rfl ?_
    refine WL.q (Y.assign (.pl rfl)) rfl ?_
    refine WL.q (Y.assign (.pl rfl)) rfl ?_
    refine WL.next hQ6 (.cons (i := 6) rfl (.cons (i := 7) rfl (.cons (i := 8) rfl (.nil)))) ?_
    obtain rfl := Option.some.inj hF
    refine W.retV (fn := Try.f127) (vs := [.slice A8 ((s4 ++ ([arg5] : List Int))).length c9, .int .i64 0, .int .i64 0]) Try.results127 ⟨.tmp rfl, ⟨.tmp rfl, ⟨.tmp rfl, trivial⟩⟩⟩ (fun _ _ h => h) (fun w hw => ?_)
    exact hR _ _ ⟨(A8, c9), trivial, rfl, (hw.pickK 3 [2] rfl)⟩

def object_queue_step (N : Nat) (q1 : ObjectSet) (s4 : (List Int)) (kind5 : Int) (arg6 : Int) : Option ((List Int) × Int × Int) :=
  cond (decide (kind5 = 3))
    (bd (object_many_put N q1.many s4 arg6) fun (r8 : ((List Int) × Int)) =>
    some (r8.1, 0, r8.2))
    (cond (decide (((s4).length : Int) = 0))
      (some (s4, (-1), 0))
      (ck (slB (s4).length 1 ((s4).length : Int)) <|
      bd (ix s4 0) fun (x12 : Int) =>
      some ((s4.drop (1 : Int).toNat), x12, 0)))

theorem object_queue_step_ok {N : Nat} {q1 : ObjectSet} {s4 : (List Int)} {kind5 : Int} {arg6 : Int} {A2 : Option Addr} {c3 : Nat} {res : ((List Int) × Int × Int)} (hF : object_queue_step N q1 s4 kind5 arg6 = some res) {w0 w : World} {T : List Chunk} (hw : St w0.heap.size w0 ([cR (eI .i64) 1 A2 c3 3 s4] ++ T) w) :
    Calls Try.prog 126 (List.toArray [.agg (encObjectSet q1).toArray, .slice A2 (s4).length c3, .int .i64 kind5, .int .i64 arg6]) w (fun e w' => ∃ g : (Option Nat × Option Addr × Nat), (True) ∧ e = .returned (.tuple #[.slice g.2.1 (res.1).length g.2.2, .int .i64 res.2.1, .int .i64 res.2.2]) ∧ St w0.heap.size w0 ([cV g.1 (eI .i64) 1 g.2.1 g.2.2 res.1] ++ T) w') := by
  refine W.enter (n := 32) Try.func126 rfl rfl Sub.refl (by simp) hw fun R hR => ?_
  unfold object_queue_step at hF
  -- region 0: object.go:62
  refine W.seqR fun Q1 hQ1 => ?_
  refine WL.step (WO.boxA (.pl rfl) rfl fun b7 => ?_)
  refine WL.q (Y.assign (.pl rfl)) rfl ?_
  refine WL.q (Y.assign (.pl rfl)) rfl ?_
  refine WL.q (Y.assign (.pl rfl)) rfl ?_
  refine WL.next hQ1 (.cons (i := 1) rfl (.cons (i := 2) rfl (.cons (i := 3) rfl (.cons (i := 4) rfl (.nil))))) ?_
  refine W.seq fun K2 hK2 => ?_
  refine W.block ?_
  -- region 1: object.go:64
  refine W.seqR fun Q3 hQ3 => ?_
  refine WL.q (Y.move (.pl rfl)) rfl ?_
  refine WL.q (Y.eql (.pl rfl) (.pl rfl)) rfl ?_
  refine WL.q (Y.assign (.pl rfl)) rfl ?_
  refine WL.next hQ3 (.cons (i := 1) rfl (.cons (i := 3) rfl (.cons (i := 4) rfl (.cons (i := 11) rfl (.nil))))) ?_
  refine W.cond (.pl rfl) (fun hC4 => ?_) (fun hC4 => ?_)
  · replace hF := cpos hC4 hF
    -- region 2: object.go:65
    refine W.seqR fun Q5 hQ5 => ?_
    refine WL.q (Y.fieldAddrZ (ft := 134) Try.underlying136 rfl siz134 cel136 (.pl rfl) (i' := 0) rfl) rfl ?_
    refine WL.q (Y.load0 Try.underlying134 siz134 (.pl rfl)) rfl ?_
    refine WL.q (Y.move (.pl rfl)) rfl ?_
    refine WL.q (Y.move (.pl rfl)) rfl ?_
    obtain ⟨r8, hr8, hF⟩ := bnd hF
    refine WL.step (WO.call (γ := (Option Addr × Nat)) (fun g => .tuple #[.slice g.1 (r8.1).length g.2, .int .i64 0, .int .i64 r8.2]) (fun g => ([cR (eI .i64) 1 g.1 g.2 3 r8.1, cBx b7 136 (encObjectSet q1)] ++ T)) (fun _ => True) isGo127 (.cons (.pl rfl) (.cons (.pl rfl) (.cons (.pl rfl) (.nil)))) rfl (fun w hw => object_many_put_ok (T := ([cBx b7 136 (encObjectSet q1)] ++ T)) (hr8) (hw.pickK 2 [1, 0] rfl) ) ?_)
    rintro ⟨A9, c10⟩ -
    refine WL.q (Y.extract (.pl rfl) rfl) rfl ?_
    refine WL.q (Y.extract (.pl rfl) rfl) rfl ?_
    refine WL.q (Y.extract (.pl rfl) rfl) rfl ?_
    refine WL.q (Y.assign (.pl rfl)) rfl ?_
    refine WL.q (Y.assign (.pl rfl)) rfl ?_
    refine WL.q (Y.assign (.pl rfl)) rfl ?_
    refine WL.next hQ5 (.cons (i := 8) rfl (.cons (i := 9) rfl (.cons (i := 10) rfl (.nil)))) ?_
    obtain rfl := Option.some.inj hF
    refine W.retV (fn := Try.f126) (vs := [.slice A9 (r8.1).length c10, .int .i64 0, .int .i64 r8.2]) Try.results126 ⟨.tmp rfl, ⟨.tmp rfl, ⟨.tmp rfl, trivial⟩⟩⟩ (fun _ _ h => h) (fun w hw => ?_)
    exact hR _ _ ⟨((blkA A9), A9, c10), trivial, rfl, ((St.toV (enc := (eI .i64)) (sz := 1) (A' := A9) (cap' := c10) (ys := r8.1) (fun _ => rfl) hw (i := 0) rfl (fun w h => h)).pickK 2 [0] rfl)⟩
  · replace hF := cneg hC4 hF
    -- region 3: object.go:66
    refine W.seqR fun Q6 hQ6 => ?_
    refine WL.q (Y.move (.pl rfl)) rfl ?_
    refine WL.q (Y.len Try.underlying22 (.pl rfl)) rfl ?_
    refine WL.q (Y.eql (.pl rfl) (.pl rfl)) rfl ?_
    refine WL.q (Y.assign (.pl rfl)) rfl ?_
    refine WL.next hQ6 (.cons (i := 1) rfl (.cons (i := 22) rfl (.nil))) ?_
    refine W.cond (.pl rfl) (fun hC7 => ?_) (fun hC7 => ?_)
    · replace hF := cpos hC7 hF
      -- region 4: object.go:67
      refine W.seqR fun Q8 hQ8 => ?_
      refine WL.q (Y.move (.pl rfl)) rfl ?_
      refine WL.q (Y.assign (.pl rfl)) rfl ?_
      refine WL.q (Y.assign (.pl rfl)) rfl ?_
      refine WL.q (Y.assign (.pl rfl)) rfl ?_
      refine WL.next hQ8 (.cons (i := 8) rfl (.cons (i := 9) rfl (.cons (i := 10) rfl (.nil)))) ?_
      obtain rfl := Option.some.inj hF
      refine W.retV (fn := Try.f126) (vs := [.slice A2 (s4).length c3, .int .i64 (-1), .int .i64 0]) Try.results126 ⟨.tmp rfl, ⟨.tmp rfl, ⟨.tmp rfl, trivial⟩⟩⟩ (fun _ _ h => h) (fun w hw => ?_)
      exact hR _ _ ⟨((blkA A2), A2, c3), trivial, rfl, ((St.toV (enc := (eI .i64)) (sz := 1) (A' := A2) (cap' := c3) (ys := s4) (fun _ => rfl) hw (i := 1) rfl (fun w h => h)).pickK 2 [1] rfl)⟩
    · replace hF := cneg hC7 hF
      refine W.skip ?_
      refine W.go hK2 (.cons (i := 1) rfl (.nil)) ?_
      -- region 5: object.go:69
      refine W.seqD (by kernel_rfl) (by kernel_rfl) fun R9 hR9 => ?_
      refine WD.q (Y.move (.pl rfl)) rfl ?_
      obtain ⟨hk11, hF⟩ := ckh hF
      refine WD.q (Y.sliceR1 Try.underlying22 cells3 (i := 1) rfl (.pl rfl) rfl (.pl rfl) (hk11)) rfl ?_
      refine WD.q (Y.move (.pl rfl)) rfl ?_
      obtain ⟨x12, hx12, hF⟩ := bnd hF
      refine WD.q (Y.rowEl Try.underlying22 cells3 (i := 1) rfl (.pl rfl) rfl (.pl rfl) (ix_lt (hx12))) rfl ?_
      refine WD.q (Y.loadR (enc := (eI .i64)) (v := .int .i64 x12) (a := x12) (idx := 0) (j := 0) Try.underlying3 rfl (fun _ => rfl) (i := 1) rfl (.pl rfl) (ix_get (hx12)) rfl rfl) rfl ?_
      refine WD.q (Y.assign (.pl rfl)) rfl ?_
      refine WD.q (Y.assign (.pl rfl)) rfl ?_
      refine WD.q (Y.assign (.pl rfl)) rfl ?_
      refine WD.next hR9 (.cons (i := 8) rfl (.cons (i := 9) rfl (.cons (i := 10) rfl (.nil)))) ?_
      obtain rfl := Option.some.inj hF
      refine W.retV (fn := Try.f126) (vs := [.slice (subA A2 c3 (1 : Int).toNat 1) ((s4.drop (1 : Int).toNat)).length (c3 - (1 : Int).toNat), .int .i64 x12, .int .i64 0]) Try.results126 ⟨.tmp rfl, ⟨.tmp rfl, ⟨.tmp rfl, trivial⟩⟩⟩ (fun _ _ h => h) (fun w hw => ?_)
      exact hR _ _ ⟨((blkA A2), (subA A2 c3 (1 : Int).toNat 1), (c3 - (1 : Int).toNat)), trivial, rfl, ((St.toV (enc := (eI .i64)) (sz := 1) (A' := (subA A2 c3 (1 : Int).toNat 1)) (cap' := (c3 - (1 : Int).toNat)) (ys := (s4.drop (1 : Int).toNat)) (fun _ => rfl) hw (i := 1) rfl (fun w h => SlIn.sub1 h (slB_nat (hk11)).1)).pickK 2 [1] rfl)⟩

def object_stack_step (N : Nat) (k1 : ObjectSet) (s4 : (List Int)) (kind5 : Int) (arg6 : Int) : Option ((List Int) × Int × Int) :=
  cond (decide (kind5 = 5))
    (bd (object_many_put N k1.many s4 arg6) fun (r8 : ((List Int) × Int)) =>
    some (r8.1, 0, r8.2))
    (cond (decide (((s4).length : Int) = 0))
      (some (s4, (-1), 0))
      (ck (ok64 (((s4).length : Int) - 1)) <|
      ck (slB (s4).length 0 (((s4).length : Int) - 1)) <|
      ck (ok64 (((s4).length : Int) - 1)) <|
      bd (ix s4 (((s4).length : Int) - 1)) fun (x14 : Int) =>
      some ((s4.take (((s4).length : Int) - 1).toNat), x14, 0)))

theorem object_stack_step_ok {N : Nat} {k1 : ObjectSet} {s4 : (List Int)} {kind5 : Int} {arg6 : Int} {A2 : Option Addr} {c3 : Nat} {res : ((List Int) × Int × Int)} (hF : object_stack_step N k1 s4 kind5 arg6 = some res) {w0 w : World} {T : List Chunk} (hw : St w0.heap.size w0 ([cR (eI .i64) 1 A2 c3 3 s4] ++ T) w) :
    Calls Try.prog 128 (List.toArray [.agg (encObjectSet k1).toArray, .slice A2 (s4).length c3, .int .i64 kind5, .int .i64 arg6]) w (fun e w' => ∃ g : (Option Addr × Nat), (True) ∧ e = .returned (.tuple #[.slice g.1 (res.1).length g.2, .int .i64 res.2.1, .int .i64 res.2.2]) ∧ St w0.heap.size w0 ([cR (eI .i64) 1 g.1 g.2 3 res.1] ++ T) w') := by
  refine W.enter (n := 38) Try.func128 rfl rfl Sub.refl (by simp) hw fun R hR => ?_
  unfold object_stack_step at hF
  -- region 0: object.go:74
  refine W.seqR fun Q1 hQ1 => ?_
  refine WL.step (WO.boxA (.pl rfl) rfl fun b7 => ?_)
  refine WL.q (Y.assign (.pl rfl)) rfl ?_
  refine WL.q (Y.assign (.pl rfl)) rfl ?_
  refine WL.q (Y.assign (.pl rfl)) rfl ?_
  refine WL.next hQ1 (.cons (i := 1) rfl (.cons (i := 2) rfl (.cons (i := 3) rfl (.cons (i := 4) rfl (.nil))))) ?_
  -- region 1: object.go:75
  refine W.seqR fun Q2 hQ2 => ?_
  refine WL.q (Y.move (.pl rfl)) rfl ?_
  refine WL.q (Y.len Try.underlying22 (.pl rfl)) rfl ?_
  refine WL.q (Y.assign (.pl rfl)) rfl ?_
  refine WL.next hQ2 (.cons (i := 1) rfl (.cons (i := 2) rfl (.cons (i := 3) rfl (.cons (i := 4) rfl (.cons (i := 11) rfl (.nil)))))) ?_
  refine W.block ?_
  -- region 3: object.go:76
  refine W.seqR fun Q3 hQ3 => ?_
  refine WL.q (Y.move (.pl rfl)) rfl ?_
  refine WL.q (Y.eql (.pl rfl) (.pl rfl)) rfl ?_
  refine WL.q (Y.assign (.pl rfl)) rfl ?_
  refine WL.next hQ3 (.cons (i := 1) rfl (.cons (i := 3) rfl (.cons (i := 4) rfl (.cons (i := 11) rfl (.cons (i := 23) rfl (.nil)))))) ?_
  refine W.cond (.pl rfl) (fun hC4 => ?_) (fun hC4 => ?_)
  · replace hF := cpos hC4 hF
    -- region 4: object.go:77
    refine W.seqR fun Q5 hQ5 => ?_
    refine WL.q (Y.fieldAddrZ (ft := 134) Try.underlying137 rfl siz134 cel137 (.pl rfl) (i' := 0) rfl) rfl ?_
    refine WL.q (Y.load0 Try.underlying134 siz134 (.pl rfl)) rfl ?_
    refine WL.q (Y.move (.pl rfl)) rfl ?_
    refine WL.q (Y.move (.pl rfl)) rfl ?_
    obtain ⟨r8, hr8, hF⟩ := bnd hF
    refine WL.step (WO.call (γ := (Option Addr × Nat)) (fun g => .tuple #[.slice g.1 (r8.1).length g.2, .int .i64 0, .int .i64 r8.2]) (fun g => ([cR (eI .i64) 1 g.1 g.2 3 r8.1, cBx b7 137 (encObjectSet k1)] ++ T)) (fun _ => True) isGo127 (.cons (.pl rfl) (.cons (.pl rfl) (.cons (.pl rfl) (.nil)))) rfl (fun w hw => object_many_put_ok (T := ([cBx b7 137 (encObjectSet k1)] ++ T)) (hr8) (hw.pickK 2 [1, 0] rfl) ) ?_)
    rintro ⟨A9, c10⟩ -
    refine WL.q (Y.extract (.pl rfl) rfl) rfl ?_
    refine WL.q (Y.extract (.pl rfl) rfl) rfl ?_
    refine WL.q (Y.extract (.pl rfl) rfl) rfl ?_
    refine WL.q (Y.assign (.pl rfl)) rfl ?_
    refine WL.q (Y.assign (.pl rfl)) rfl ?_
    refine WL.q (Y.assign (.pl rfl)) rfl ?_
    refine WL.next hQ5 (.cons (i := 8) rfl (.cons (i := 9) rfl (.cons (i := 10) rfl (.nil)))) ?_
    obtain rfl := Option.some.inj hF
    refine W.retV (fn := Try.f128) (vs := [.slice A9 (r8.1).length c10, .int .i64 0, .int .i64 r8.2]) Try.results128 ⟨.tmp rfl, ⟨.tmp rfl, ⟨.tmp rfl, trivial⟩⟩⟩ (fun _ _ h => h) (fun w hw => ?_)
    exact hR _ _ ⟨(A9, c10), trivial, rfl, (hw.pickK 2 [0] rfl)⟩
  · replace hF := cneg hC4 hF
    -- region 5: object.go:78
    refine W.seqR fun Q6 hQ6 => ?_
    refine WL.q (Y.move (.pl rfl)) rfl ?_
    refine WL.q (Y.eql (.pl rfl) (.pl rfl)) rfl ?_
    refine WL.q (Y.assign (.pl rfl)) rfl ?_
    refine WL.next hQ6 (.cons (i := 1) rfl (.cons (i := 11) rfl (.cons (i := 34) rfl (.nil)))) ?_
    refine W.cond (.pl rfl) (fun hC7 => ?_) (fun hC7 => ?_)
    · replace hF := cpos hC7 hF
      -- region 6: object.go:79
      refine W.seqR fun Q8 hQ8 => ?_
      refine WL.q (Y.move (.pl rfl)) rfl ?_
      refine WL.q (Y.assign (.pl rfl)) rfl ?_
      refine WL.q (Y.assign (.pl rfl)) rfl ?_
      refine WL.q (Y.assign (.pl rfl)) rfl ?_
      refine WL.next hQ8 (.cons (i := 8) rfl (.cons (i := 9) rfl (.cons (i := 10) rfl (.nil)))) ?_
      obtain rfl := Option.some.inj hF
      refine W.retV (fn := Try.f128) (vs := [.slice A2 (s4).length c3, .int .i64 (-1), .int .i64 0]) Try.results128 ⟨.tmp rfl, ⟨.tmp rfl, ⟨.tmp rfl, trivial⟩⟩⟩ (fun _ _ h => h) (fun w hw => ?_)
      exact hR _ _ ⟨(A2, c3), trivial, rfl, (hw.pickK 2 [1] rfl)⟩
    · replace hF := cneg hC7 hF
      -- region 2: object.go:81
      refine W.seqD (by kernel_rfl) (by kernel_rfl) fun R9 hR9 => ?_
      refine WD.q (Y.move (.pl rfl)) rfl ?_
      refine WD.q (Y.move (.pl rfl)) rfl ?_
      obtain ⟨hk11, hF⟩ := ckh hF
      refine WD.q (Y.sub (.pl rfl) (.pl rfl) (ok64_lt (hk11))) rfl ?_
      obtain ⟨hk12, hF⟩ := ckh hF
      refine WD.q (Y.sliceR0 Try.underlying22 cells3 (i := 1) rfl (.pl rfl) rfl (.pl rfl) (hk12)) rfl ?_
      refine WD.q (Y.move (.pl rfl)) rfl ?_
      refine WD.q (Y.move (.pl rfl)) rfl ?_
      obtain ⟨hk13, hF⟩ := ckh hF
      refine WD.q (Y.sub (.pl rfl) (.pl rfl) (ok64_lt (hk13))) rfl ?_
      obtain ⟨x14, hx14, hF⟩ := bnd hF
      refine WD.q (Y.rowEl Try.underlying22 cells3 (i := 1) rfl (.pl rfl) rfl (.pl rfl) (ix_lt (hx14))) rfl ?_
      refine WD.q (Y.loadR (enc := (eI .i64)) (v := .int .i64 x14) (a := x14) (idx := (((s4).length : Int) - 1)) (j := 0) Try.underlying3 rfl (fun _ => rfl) (i := 1) rfl (.pl rfl) (ix_get (hx14)) rfl rfl) rfl ?_
      refine WD.q (Y.assign (.pl rfl)) rfl ?_
      refine WD.q (Y.assign (.pl rfl)) rfl ?_
      refine WD.q (Y.assign (.pl rfl)) rfl ?_
      refine WD.next hR9 (.cons (i := 8) rfl (.cons (i := 9) rfl (.cons (i := 10) rfl (.nil)))) ?_
      obtain rfl := Option.some.inj hF
      refine W.retV (fn := Try.f128) (vs := [.slice A2 ((s4.take (((s4).length : Int) - 1).toNat)).length c3, .int .i64 x14, .int .i64 0]) Try.results128 ⟨.tmp rfl, ⟨.tmp rfl, ⟨.tmp rfl, trivial⟩⟩⟩ (fun _ _ h => h) (fun w hw => ?_)
      exact hR _ _ ⟨(A2, c3), trivial, rfl, ((St.trunc (enc := (eI .i64)) (sz := 1) (j := (((s4).length : Int) - 1).toNat) hw (fun _ => rfl) (i := 1) rfl).pickK 2 [1] rfl)⟩

def cmp_isNaN_int (N : Nat) (x1 : Int) : Option Unit :=
  some ()

theorem cmp_isNaN_int_ok {N : Nat} {x1 : Int} {res : Unit} (hF : cmp_isNaN_int N x1 = some res) (w : World) :
    Pure Try.prog 138 [.int .i64 x1] w (.bool (!(decide (x1 = x1)))) := by
  refine W.enter (n := 6) Try.func138 rfl rfl Sub.refl (by simp) (St.start w) fun R hR => ?_
  unfold cmp_isNaN_int at hF
  -- region 0: cmp.go:63
  refine W.seqR fun Q1 hQ1 => ?_
  refine WL.q (Y.assign (.pl rfl)) rfl ?_
  refine WL.next hQ1 (.cons (i := 0) rfl (.nil)) ?_
  -- region 1: cmp.go:64
  refine W.seqR fun Q2 hQ2 => ?_
  refine WL.q (Y.move (.pl rfl)) rfl ?_
  refine WL.q (Y.move (.pl rfl)) rfl ?_
  refine WL.q (Y.neq (.pl rfl) (.pl rfl)) rfl ?_
  refine WL.q (Y.assign (.pl rfl)) rfl ?_
  refine WL.next hQ2 (.cons (i := 2) rfl (.nil)) ?_
  obtain rfl := Option.some.inj hF
  refine W.retV (fn := Try.f138) (vs := [.bool (!(decide (x1 = x1)))]) Try.results138 ⟨.tmp rfl, trivial⟩ (fun _ _ h => h) (fun w hw => ?_)
  exact hR _ _ ⟨rfl, (hw.pick [] rfl)⟩

def cmp_Less_int (N : Nat) (x1 : Int) (y2 : Int) : Option Unit :=
  bd (cmp_isNaN_int N x1) fun (r3 : Unit) =>
  bd ((cond ((!(decide (x1 = x1))) == true) (cmp_isNaN_int N y2) (some ()))) fun (r4 : Unit) =>
  some ()

theorem cmp_Less_int_ok {N : Nat} {x1 : Int} {y2 : Int} {res : Unit} (hF : cmp_Less_int N x1 y2 = some res) (w : World) :
    Pure Try.prog 134 [.int .i64 x1, .int .i64 y2] w (.bool (((!(decide (x1 = x1))) && (!(!(decide (y2 = y2))))) || (decide (x1 < y2)))) := by
  refine W.enter (n := 17) Try.func134 rfl rfl Sub.refl (by simp) (St.start w) fun R hR => ?_
  unfold cmp_Less_int at hF
  -- region 0: cmp.go:28
  refine W.seqR fun Q1 hQ1 => ?_
  refine WL.q (Y.assign (.pl rfl)) rfl ?_
  refine WL.next hQ1 (.cons (i := 0) rfl (.cons (i := 1) rfl (.nil))) ?_
  -- region 1: cmp.go:29
  refine W.seqR fun Q2 hQ2 => ?_
  refine WL.q (Y.move (.pl rfl)) rfl ?_
  obtain ⟨r3, hr3, hF⟩ := bnd hF
  refine WL.step (WO.callP isGo138 (.cons (.pl rfl) (.nil)) rfl (fun w hw => cmp_isNaN_int_ok (hr3) w ) ?_)
  refine WL.q (Y.move (.pl rfl)) rfl ?_
  refine WL.g (.pl rfl rfl rfl) (fun hg => Y.move (.pl rfl)) rfl ?_
  obtain ⟨r4, hr4, hF⟩ := bnd hF
  refine WL.gP (.pl rfl rfl rfl) isGo138 (fun hg => (.cons (.gd (hg) rfl) (.nil))) rfl (fun hg w hw => cmp_isNaN_int_ok (gpos hg hr4) w ) ?_
  refine WL.g (.pl rfl rfl rfl) (fun hg => Y.not (.gd (hg) rfl)) rfl ?_
  refine WL.q (Y.and (.pl rfl) (fun h2 => .gd (eqt h2) rfl)) rfl ?_
  refine WL.q (Y.move (.pl rfl)) rfl ?_
  refine WL.g (.pl rfl rfl rfl) (fun hg => Y.move (.pl rfl)) rfl ?_
  refine WL.g (.pl rfl rfl rfl) (fun hg => Y.move (.pl rfl)) rfl ?_
  refine WL.g (.pl rfl rfl rfl) (fun hg => Y.lss (.gd (hg) rfl) (.gd (hg) rfl)) rfl ?_
  refine WL.q (Y.or (.pl rfl) (fun h2 => .gd (eqf h2) rfl)) rfl ?_
  refine WL.q (Y.assign (.pl rfl)) rfl ?_
  refine WL.next hQ2 (.cons (i := 4) rfl (.nil)) ?_
  obtain rfl := Option.some.inj hF
  refine W.retV (fn := Try.f134) (vs := [.bool (((!(decide (x1 = x1))) && (!(!(decide (y2 = y2))))) || (decide (x1 < y2)))]) Try.results134 ⟨.tmp rfl, trivial⟩ (fun _ _ h => h) (fun w hw => ?_)
  exact hR _ _ ⟨rfl, (hw.pick [] rfl)⟩

def slices_isNaN_int (N : Nat) (x1 : Int) : Option Unit :=
  some ()

theorem slices_isNaN_int_ok {N : Nat} {x1 : Int} {res : Unit} (hF : slices_isNaN_int N x1 = some res) (w : World) :
    Pure Try.prog 135 [.int .i64 x1] w (.bool (!(decide (x1 = x1)))) := by
  refine W.enter (n := 6) Try.func135 rfl rfl Sub.refl (by simp) (St.start w) fun R hR => ?_
  unfold slices_isNaN_int at hF
  -- region 0: sort.go:194
  refine W.seqR fun Q1 hQ1 => ?_
  refine WL.q (Y.assign (.pl rfl)) rfl ?_
  refine WL.next hQ1 (.cons (i := 0) rfl (.nil)) ?_
  -- region 1: sort.go:195
  refine W.seqR fun Q2 hQ2 => ?_
  refine WL.q (Y.move (.pl rfl)) rfl ?_
  refine WL.q (Y.move (.pl rfl)) rfl ?_
  refine WL.q (Y.neq (.pl rfl) (.pl rfl)) rfl ?_
  refine WL.q (Y.assign (.pl rfl)) rfl ?_
  refine WL.next hQ2 (.cons (i := 2) rfl (.nil)) ?_
  obtain rfl := Option.some.inj hF
  refine W.retV (fn := Try.f135) (vs := [.bool (!(decide (x1 = x1)))]) Try.results135 ⟨.tmp rfl, trivial⟩ (fun _ _ h => h) (fun w hw => ?_)
  exact hR _ _ ⟨rfl, (hw.pick [] rfl)⟩

def slices_BinarySearch_int_int_L3 (N : Nat) (x1 : (List Int)) (target6 : Int) : (Int × Int) → Option ((Int × Int) ⊕ Int)
  | (i8, j9) =>
    cond (decide (i8 < j9))
      (ck (ok64 (i8 + j9)) <|
      bd (ix x1 (IntKind.i64.wrap (shrI .u64 (IntKind.u64.wrap (i8 + j9)) 1))) fun (x11 : Int) =>
      bd (cmp_Less_int N x11 target6) fun (r12 : Unit) =>
      cond (((!(decide (x11 = x11))) && (!(!(decide (target6 = target6))))) || (decide (x11 < target6)))
        (ck (ok64 ((IntKind.i64.wrap (shrI .u64 (IntKind.u64.wrap (i8 + j9)) 1)) + 1)) <|
        some (.inl (((IntKind.i64.wrap (shrI .u64 (IntKind.u64.wrap (i8 + j9)) 1)) + 1), j9)))
        (some (.inl (i8, (IntKind.i64.wrap (shrI .u64 (IntKind.u64.wrap (i8 + j9)) 1))))))
      (some (.inr i8))

def slices_BinarySearch_int_int (N : Nat) (x1 : (List Int)) (target6 : Int) : Option (Int × Bool) :=
  bd (α := Int) (iter (slices_BinarySearch_int_int_L3 N x1 target6) N (0, ((x1).length : Int))) <|
  fun (i7 : Int) => 
    bd ((cond ((decide (i7 < ((x1).length : Int))) == true) (ix x1 i7) (some 0))) fun (x14 : Int) =>
    bd ((cond (((decide (i7 < ((x1).length : Int))) == true) && ((decide (x14 = target6)) == false)) (ix x1 i7) (some 0))) fun (x15 : Int) =>
    bd ((cond (((decide (i7 < ((x1).length : Int))) == true) && ((decide (x14 = target6)) == false)) (slices_isNaN_int N x15) (some ()))) fun (r16 : Unit) =>
    bd ((cond ((((decide (i7 < ((x1).length : Int))) == true) && ((decide (x14 = target6)) == false)) && ((!(decide (x15 = x15))) == true)) (slices_isNaN_int N target6) (some ()))) fun (r17 : Unit) =>
    some (i7, ((decide (i7 < ((x1).length : Int))) && ((decide (x14 = target6)) || ((!(decide (x15 = x15))) && (!(decide (target6 = target6)))))))

theorem slices_BinarySearch_int_int_ok {N : Nat} {x1 : (List Int)} {target6 : Int} {res : (Int × Bool)} (hF : slices_BinarySearch_int_int N x1 target6 = some res) (w : World) {v5 : Value} (hs4 : SlIn (eI .i64) 1 w v5 x1) :
    Pure Try.prog 131 [v5, .int .i64 target6] w (.tuple #[.int .i64 res.1, .bool res.2]) := by
  obtain ⟨A2, c3, rfl, hcc3, hs4⟩ := hs4.form
  refine W.enter (n := 54) Try.func131 rfl rfl Sub.refl (by simp) (St.start w) fun R hR => ?_
  unfold slices_BinarySearch_int_int at hF
  -- region 0: sort.go:126
  refine W.seqR fun Q1 hQ1 => ?_
  refine WL.q (Y.assign (.pl rfl)) rfl ?_
  refine WL.q (Y.assign (.pl rfl)) rfl ?_
  refine WL.next hQ1 (.cons (i := 0) rfl (.cons (i := 1) rfl (.nil))) ?_
  -- region 1: sort.go:128
  refine W.seqR fun Q2 hQ2 => ?_
  refine WL.q (Y.move (.pl rfl)) rfl ?_
  refine WL.q (Y.len Try.underlying22 (.pl rfl)) rfl ?_
  refine WL.q (Y.assign (.pl rfl)) rfl ?_
  refine WL.next hQ2 (.cons (i := 0) rfl (.cons (i := 1) rfl (.cons (i := 6) rfl (.nil)))) ?_
  -- region 2: sort.go:131
  refine W.seqR fun Q3 hQ3 => ?_
  refine WL.q (Y.move (.pl rfl)) rfl ?_
  refine WL.q (Y.assign (.pl rfl)) rfl ?_
  refine WL.q (Y.assign (.pl rfl)) rfl ?_
  refine WL.next hQ3 (.cons (i := 0) rfl (.cons (i := 1) rfl (.cons (i := 6) rfl (.cons (i := 7) rfl (.cons (i := 8) rfl (.nil)))))) ?_
  obtain ⟨o4, hF4, hF⟩ := bnd hF
  refine W.join1 (Em := fun (i7 : Int) => [(7, .int .i64 i7)]) (M := fun i7 => []) (I := fun i7 => i7 = o4) (.cons (i := 0) rfl (.cons (i := 1) rfl (.cons (i := 6) rfl (.nil)))) (fun K5 hK5 => ?_) ?_
  · -- up to
    refine W.block ?_
    refine W.loop2 (Em := fun (i8 : Int) (j9 : Int) => [(7, .int .i64 i8), (8, .int .i64 j9)]) (M := fun i8 j9 => []) (I := fun i8 j9 k6 => iter (slices_BinarySearch_int_int_L3 N x1 target6) k6 (i8, j9) = some o4) 0 ((x1).length : Int) N (hF4) (.cons rfl (.cons rfl (.nil))) (.cons (i := 0) rfl (.cons (i := 1) rfl (.cons (i := 6) rfl (.nil)))) (fun w hw => hw.pick [] rfl) (fun i8 j9 k6 hI K7 hK7 => ?_)
    obtain ⟨k6, t6, rfl, hF6, hN6⟩ := iter_step hI
    refine W.seq fun K8 hK8 => ?_
    -- region 3: sort.go:132
    refine W.seqR fun Q9 hQ9 => ?_
    refine WL.q (Y.move (.pl rfl)) rfl ?_
    refine WL.q (Y.move (.pl rfl)) rfl ?_
    refine WL.q (Y.lss (.pl rfl) (.pl rfl)) rfl ?_
    refine WL.next hQ9 (.cons (i := 0) rfl (.cons (i := 1) rfl (.cons (i := 6) rfl (.cons (i := 7) rfl (.cons (i := 8) rfl (.cons (i := 15) rfl (.nil))))))) ?_
    refine W.cond (.pl rfl) (fun hC10 => ?_) (fun hC10 => ?_)
    · replace hF6 := cpos hC10 hF6
      refine W.skip ?_
      refine W.go hK8 (.cons (i := 0) rfl (.cons (i := 1) rfl (.cons (i := 6) rfl (.cons (i := 7) rfl (.cons (i := 8) rfl (.nil)))))) ?_
      refine W.block ?_
      -- region 4: sort.go:133
      refine W.seqR fun Q11 hQ11 => ?_
      refine WL.q (Y.move (.pl rfl)) rfl ?_
      refine WL.q (Y.move (.pl rfl)) rfl ?_
      obtain ⟨hk10, hF6⟩ := ckh hF6
      refine WL.q (Y.add (.pl rfl) (.pl rfl) (ok64_lt (hk10))) rfl ?_
      refine WL.q (Y.conv Try.underlying3 Try.underlying113 (.pl rfl)) rfl ?_
      refine WL.q (Y.shr (.pl rfl) (.pl rfl) (by decide)) rfl ?_
      refine WL.q (Y.conv Try.underlying113 Try.underlying3 (.pl rfl)) rfl ?_
      refine WL.q (Y.assign (.pl rfl)) rfl ?_
      refine WL.next hQ11 (.cons (i := 0) rfl (.cons (i := 1) rfl (.cons (i := 6) rfl (.cons (i := 7) rfl (.cons (i := 8) rfl (.cons (i := 9) rfl (.nil))))))) ?_
      -- region 5: sort.go:135
      refine W.seqR fun Q12 hQ12 => ?_
      refine WL.q (Y.move (.pl rfl)) rfl ?_
      refine WL.q (Y.move (.pl rfl)) rfl ?_
      obtain ⟨x11, hx11, hF6⟩ := bnd hF6
      refine WL.q (Y.slEl Try.underlying22 cells3 hs4 (.pl rfl) (.pl rfl) (ix_lt (hx11))) rfl ?_
      refine WL.q (Y.loadS (enc := (eI .i64)) (v := .int .i64 x11) (j := 0) Try.underlying3 rfl hs4 (.pl rfl) (hx11) rfl rfl) rfl ?_
      refine WL.q (Y.move (.pl rfl)) rfl ?_
      obtain ⟨r12, hr12, hF6⟩ := bnd hF6
      refine WL.step (WO.callP isGo134 (.cons (.pl rfl) (.cons (.pl rfl) (.nil))) rfl (fun w hw => cmp_Less_int_ok (hr12) w ) ?_)
      refine WL.next hQ12 (.cons (i := 0) rfl (.cons (i := 1) rfl (.cons (i := 6) rfl (.cons (i := 7) rfl (.cons (i := 8) rfl (.cons (i := 9) rfl (.cons (i := 27) rfl (.nil)))))))) ?_
      refine W.cond (.pl rfl) (fun hC13 => ?_) (fun hC13 => ?_)
      · replace hF6 := cpos hC13 hF6
        -- region 6: sort.go:136
        refine W.reg ?_
        refine WL.q (Y.move (.pl rfl)) rfl ?_
        obtain ⟨hk13, hF6⟩ := ckh hF6
        refine WL.q (Y.add (.pl rfl) (.pl rfl) (ok64_lt (hk13))) rfl ?_
        refine WL.q (Y.assign (.pl rfl)) rfl ?_
        refine WL.nil ?_
        obtain rfl := Option.some.inj hF6
        exact W.again2 hK7 ((IntKind.i64.wrap (shrI .u64 (IntKind.u64.wrap (i8 + j9)) 1)) + 1) j9 k6 hN6 (Nat.lt_succ_self _) (.cons rfl (.cons rfl (.nil))) (.cons (i := 0) rfl (.cons (i := 1) rfl (.cons (i := 6) rfl (.nil)))) (fun w hw => hw.pick [] rfl)
      · replace hF6 := cneg hC13 hF6
        -- region 7: sort.go:138
        refine W.reg ?_
        refine WL.q (Y.move (.pl rfl)) rfl ?_
        refine WL.q (Y.assign (.pl rfl)) rfl ?_
        refine WL.nil ?_
        obtain rfl := Option.some.inj hF6
        exact W.again2 hK7 i8 (IntKind.i64.wrap (shrI .u64 (IntKind.u64.wrap (i8 + j9)) 1)) k6 hN6 (Nat.lt_succ_self _) (.cons rfl (.cons rfl (.nil))) (.cons (i := 0) rfl (.cons (i := 1) rfl (.cons (i := 6) rfl (.nil)))) (fun w hw => hw.pick [] rfl)
    · replace hF6 := cneg hC10 hF6
      refine W.exit ?_
      obtain rfl := Option.some.inj hF6
      exact W.joinAt1 hK5 i8 (einr hN6) (.cons rfl (.nil)) (.cons (i := 0) rfl (.cons (i := 1) rfl (.cons (i := 6) rfl (.nil)))) (fun w hw => hw.pick [] rfl)
  · -- behind
    rintro i7 rfl
    -- region 8: sort.go:142
    refine W.seqR fun Q16 hQ16 => ?_
    refine WL.q (Y.move (.pl rfl)) rfl ?_
    refine WL.q (Y.move (.pl rfl)) rfl ?_
    refine WL.q (Y.move (.pl rfl)) rfl ?_
    refine WL.q (Y.lss (.pl rfl) (.pl rfl)) rfl ?_
    refine WL.q (Y.move (.pl rfl)) rfl ?_
    refine WL.g (.pl rfl rfl rfl) (fun hg => Y.move (.pl rfl)) rfl ?_
    refine WL.g (.pl rfl rfl rfl) (fun hg => Y.move (.pl rfl)) rfl ?_
    obtain ⟨x14, hx14, hF⟩ := bnd hF
    refine WL.g (.pl rfl rfl rfl) (fun hg => Y.slEl Try.underlying22 cells3 hs4 (.gd (hg) rfl) (.gd (hg) rfl) (ix_lt (gpos hg hx14))) rfl ?_
    refine WL.g (.pl rfl rfl rfl) (fun hg => Y.loadS (enc := (eI .i64)) (v := .int .i64 x14) (j := 0) Try.underlying3 rfl hs4 (.gd (hg) rfl) (gpos hg hx14) rfl rfl) rfl ?_
    refine WL.g (.pl rfl rfl rfl) (fun hg => Y.move (.pl rfl)) rfl ?_
    refine WL.g (.pl rfl rfl rfl) (fun hg => Y.eql (.gd (hg) rfl) (.gd (hg) rfl)) rfl ?_
    refine WL.g (.pl rfl rfl rfl) (fun hg => Y.move (.gd (hg) rfl)) rfl ?_
    refine WL.g (.gd rfl rfl rfl) (fun hg => Y.move (.pl rfl)) rfl ?_
    refine WL.g (.gd rfl rfl rfl) (fun hg => Y.move (.pl rfl)) rfl ?_
    obtain ⟨x15, hx15, hF⟩ := bnd hF
    refine WL.g (.gd rfl rfl rfl) (fun hg => Y.slEl Try.underlying22 cells3 hs4 (.gd (hg) rfl) (.gd (hg) rfl) (ix_lt (gpos hg hx15))) rfl ?_
    refine WL.g (.gd rfl rfl rfl) (fun hg => Y.loadS (enc := (eI .i64)) (v := .int .i64 x15) (j := 0) Try.underlying3 rfl hs4 (.gd (hg) rfl) (gpos hg hx15) rfl rfl) rfl ?_
    obtain ⟨r16, hr16, hF⟩ := bnd hF
    refine WL.gP (.gd rfl rfl rfl) isGo135 (fun hg => (.cons (.gd (hg) rfl) (.nil))) rfl (fun hg w hw => slices_isNaN_int_ok (gpos hg hr16) w ) ?_
    refine WL.g (.gd rfl rfl rfl) (fun hg => Y.move (.gd (hg) rfl)) rfl ?_
    refine WL.g (.gd rfl rfl rfl) (fun hg => Y.move (.pl rfl)) rfl ?_
    obtain ⟨r17, hr17, hF⟩ := bnd hF
    refine WL.gP (.gd rfl rfl rfl) isGo135 (fun hg => (.cons (.gd (hg) rfl) (.nil))) rfl (fun hg w hw => slices_isNaN_int_ok (gpos hg hr17) w ) ?_
    refine WL.g (.gd rfl rfl rfl) (fun hg => Y.and (.gd (hg) rfl) (fun h2 => .gd (band hg (eqt h2)) rfl)) rfl ?_
    refine WL.g (.pl rfl rfl rfl) (fun hg => Y.or (.gd (hg) rfl) (fun h2 => .gd (band hg (eqf h2)) rfl)) rfl ?_
    refine WL.q (Y.and (.pl rfl) (fun h2 => .gd (eqt h2) rfl)) rfl ?_
    refine WL.q (Y.assign (.pl rfl)) rfl ?_
    refine WL.q (Y.assign (.pl rfl)) rfl ?_
    refine WL.next hQ16 (.cons (i := 4) rfl (.cons (i := 5) rfl (.nil))) ?_
    obtain rfl := Option.some.inj hF
    refine W.retV (fn := Try.f131) (vs := [.int .i64 i7, .bool ((decide (i7 < ((x1).length : Int))) && ((decide (x14 = target6)) || ((!(decide (x15 = x15))) && (!(decide (target6 = target6))))))]) Try.results131 ⟨.tmp rfl, ⟨.tmp rfl, trivial⟩⟩ (fun _ _ h => h) (fun w hw => ?_)
    exact hR _ _ ⟨rfl, (hw.pick [] rfl)⟩

def ren21 : Go.Shelf.Ren := ⟨fun x => match x with | 21 => 132 | 27 => 136 | 28 => 137 | 35 => 139 | 39 => 140 | n => n, fun x => match x with | 22 => 22 | 3 => 3 | 4 => 4 | 0 => 0 | n => n, fun x => x⟩
theorem lays21 : Lays2.n21 Try.prog ren21 where
  mixed := by kernel_rfl
  f21 := Try.func132.trans (congrArg some (by kernel_rfl))
  f27 := Try.func136.trans (congrArg some (by kernel_rfl))
  f28 := Try.func137.trans (congrArg some (by kernel_rfl))
  f35 := Try.func139.trans (congrArg some (by kernel_rfl))
  f39 := Try.func140.trans (congrArg some (by kernel_rfl))
  t0 := Try.underlying0
  a0 := Try.isAgg0
  z0 := Try.sizeOf0
  v0 := Try.zeroValue0
  t3 := Try.underlying3
  a3 := Try.isAgg3
  z3 := Try.sizeOf3
  v3 := Try.zeroValue3
  t4 := Try.underlying4
  a4 := Try.isAgg4
  z4 := Try.sizeOf4
  v4 := Try.zeroValue4
  t22 := Try.underlying22
  a22 := Try.isAgg22
  z22 := Try.sizeOf22
  v22 := Try.zeroValue22
  i3 := by kernel_rfl
theorem slices_Insert_int_ok {N : Nat} {sI1 : (List Int)} {iI2 : Int} {vI3 : (List Int)} {AI4 : Option Addr} {cI5 : Nat} {AI6 : Option Addr} {cI7 : Nat} {res : (List Int)} (hF : slices_Insert_int N sI1 iI2 vI3 = some res) {w0 w : World} {T : List Chunk} (hw : St w0.heap.size w0 ([cR (eI .i64) 1 AI4 cI5 3 sI1, cR (eI .i64) 1 AI6 cI7 3 vI3] ++ T) w) :
    Calls Try.prog 132 (List.toArray [.slice AI4 (sI1).length cI5, .int .i64 iI2, .slice AI6 (vI3).length cI7]) w (fun e w' => ∃ g : (Option Addr × Nat), (True) ∧ e = .returned (.slice g.1 (res).length g.2) ∧ St w0.heap.size w0 ([cR (eI .i64) 1 g.1 g.2 3 res] ++ T) w') := insert_calls lays21 hF hw

def ren23 : Go.Shelf.Ren := ⟨fun x => match x with | 23 => 133 | n => n, fun x => match x with | 22 => 22 | 3 => 3 | 4 => 4 | 0 => 0 | n => n, fun x => x⟩
theorem lays23 : Lays2.n23 Try.prog ren23 where
  mixed := by kernel_rfl
  f23 := Try.func133.trans (congrArg some (by kernel_rfl))
  t0 := Try.underlying0
  a0 := Try.isAgg0
  z0 := Try.sizeOf0
  v0 := Try.zeroValue0
  t3 := Try.underlying3
  a3 := Try.isAgg3
  z3 := Try.sizeOf3
  v3 := Try.zeroValue3
  t4 := Try.underlying4
  a4 := Try.isAgg4
  z4 := Try.sizeOf4
  v4 := Try.zeroValue4
  t22 := Try.underlying22
  a22 := Try.isAgg22
  z22 := Try.sizeOf22
  v22 := Try.zeroValue22
  i3 := by kernel_rfl
theorem slices_Delete_int_ok {N : Nat} {sI1 : (List Int)} {iI2 : Int} {vI3 : Int} {AI4 : Option Addr} {cI5 : Nat} {res : (List Int)} (hF : slices_Delete_int N sI1 iI2 vI3 = some res) {w0 w : World} {T : List Chunk} (hw : St w0.heap.size w0 ([cR (eI .i64) 1 AI4 cI5 3 sI1] ++ T) w) :
    Calls Try.prog 133 (List.toArray [.slice AI4 (sI1).length cI5, .int .i64 iI2, .int .i64 vI3]) w (fun e w' => ∃ g : (Option Addr × Nat), (True) ∧ e = .returned (.slice g.1 (res).length g.2) ∧ St w0.heap.size w0 ([cR (eI .i64) 1 g.1 g.2 3 res] ++ T) w') := delete_calls lays23 hF hw

def object_set_step (N : Nat) (a1 : ObjectSet) (s4 : (List Int)) (kind5 : Int) (arg6 : Int) : Option ((List Int) × Int × Int) :=
  bd (slices_BinarySearch_int_int N s4 arg6) fun (r8 : (Int × Bool)) =>
  cond (((decide (kind5 = 7)) && (!r8.2)) && (decide (((s4).length : Int) = 50)))
    (some ([], 0, 2))
    (cond ((decide (kind5 = 7)) && (!r8.2))
      (bd (slices_Insert_int N s4 r8.1 ([arg6] : List Int)) fun (r10 : (List Int)) =>
      some (r10, 1, 0))
      (cond ((decide (kind5 = 7)) || (!r8.2))
        (some (s4, 0, 0))
        (cond (decide (kind5 = 8))
          (ck (ok64 (r8.1 + 1)) <|
          bd (slices_Delete_int N s4 r8.1 (r8.1 + 1)) fun (r14 : (List Int)) =>
          some (r14, 1, 0))
          (some (s4, 1, 0)))))

theorem object_set_step_ok {N : Nat} {a1 : ObjectSet} {s4 : (List Int)} {kind5 : Int} {arg6 : Int} {A2 : Option Addr} {c3 : Nat} {res : ((List Int) × Int × Int)} (hF : object_set_step N a1 s4 kind5 arg6 = some res) {w0 w : World} {T : List Chunk} (hw : St w0.heap.size w0 ([cR (eI .i64) 1 A2 c3 3 s4] ++ T) w) :
    Calls Try.prog 129 (List.toArray [.agg (encObjectSet a1).toArray, .slice A2 (s4).length c3, .int .i64 kind5, .int .i64 arg6]) w (fun e w' => ∃ g : (Option Addr × Nat), (True) ∧ e = .returned (.tuple #[.slice g.1 (res.1).length g.2, .int .i64 res.2.1, .int .i64 res.2.2]) ∧ St w0.heap.size w0 ([cR (eI .i64) 1 g.1 g.2 3 res.1] ++ T) w') := by
  refine W.enter (n := 60) Try.func129 rfl rfl Sub.refl (by simp) hw fun R hR => ?_
  unfold object_set_step at hF
  -- region 0: object.go:96
  refine W.seqR fun Q1 hQ1 => ?_
  refine WL.step (WO.boxA (.pl rfl) rfl fun b7 => ?_)
  refine WL.q (Y.assign (.pl rfl)) rfl ?_
  refine WL.q (Y.assign (.pl rfl)) rfl ?_
  refine WL.q (Y.assign (.pl rfl)) rfl ?_
  refine WL.next hQ1 (.cons (i := 1) rfl (.cons (i := 2) rfl (.cons (i := 3) rfl (.nil)))) ?_
  -- region 1: object.go:97
  refine W.seqR fun Q2 hQ2 => ?_
  refine WL.q (Y.move (.pl rfl)) rfl ?_
  refine WL.q (Y.move (.pl rfl)) rfl ?_
  obtain ⟨r8, hr8, hF⟩ := bnd hF
  refine WL.step (WO.callP isGo131 (.cons (.pl rfl) (.cons (.pl rfl) (.nil))) rfl (fun w hw => slices_BinarySearch_int_int_ok (hr8) w (SlIn.ofRow (fun _ => rfl) hw (i := 1) rfl)) ?_)
  refine WL.q (Y.move (.pl rfl)) rfl ?_
  refine WL.q (Y.extract (.pl rfl) rfl) rfl ?_
  refine WL.q (Y.extract (.pl rfl) rfl) rfl ?_
  refine WL.q (Y.assign (.pl rfl)) rfl ?_
  refine WL.q (Y.assign (.pl rfl)) rfl ?_
  refine WL.next hQ2 (.cons (i := 1) rfl (.cons (i := 2) rfl (.cons (i := 3) rfl (.cons (i := 11) rfl (.cons (i := 12) rfl (.nil)))))) ?_
  refine W.seq fun K3 hK3 => ?_
  refine W.block ?_
  -- region 2: object.go:99
  refine W.seqR fun Q4 hQ4 => ?_
  refine WL.q (Y.move (.pl rfl)) rfl ?_
  refine WL.q (Y.eql (.pl rfl) (.pl rfl)) rfl ?_
  refine WL.q (Y.move (.pl rfl)) rfl ?_
  refine WL.g (.pl rfl rfl rfl) (fun hg => Y.move (.pl rfl)) rfl ?_
  refine WL.g (.pl rfl rfl rfl) (fun hg => Y.not (.gd (hg) rfl)) rfl ?_
  refine WL.q (Y.and (.pl rfl) (fun h2 => .gd (eqt h2) rfl)) rfl ?_
  refine WL.q (Y.move (.pl rfl)) rfl ?_
  refine WL.g (.pl rfl rfl rfl) (fun hg => Y.move (.pl rfl)) rfl ?_
  refine WL.g (.pl rfl rfl rfl) (fun hg => Y.len Try.underlying22 (.gd (hg) rfl)) rfl ?_
  refine WL.g (.pl rfl rfl rfl) (fun hg => Y.eql (.gd (hg) rfl) (.pl rfl)) rfl ?_
  refine WL.q (Y.and (.pl rfl) (fun h2 => .gd (eqt h2) rfl)) rfl ?_
  refine WL.q (Y.assign (.pl rfl)) rfl ?_
  refine WL.next hQ4 (.cons (i := 1) rfl (.cons (i := 2) rfl (.cons (i := 3) rfl (.cons (i := 11) rfl (.cons (i := 12) rfl (.cons (i := 19) rfl (.nil))))))) ?_
  refine W.cond (.pl rfl) (fun hC5 => ?_) (fun hC5 => ?_)
  · replace hF := cpos hC5 hF
    -- region 3: object.go:100
    refine W.seqR fun Q6 hQ6 => ?_
    refine WL.q (Y.assign (.pl rfl)) rfl ?_
    refine WL.q (Y.assign (.pl rfl)) rfl ?_
    refine WL.q (Y.assign (.pl rfl)) rfl ?_
    refine WL.next hQ6 (.cons (i := 8) rfl (.cons (i := 9) rfl (.cons (i := 10) rfl (.nil)))) ?_
    obtain rfl := Option.some.inj hF
    refine W.retV (fn := Try.f129) (vs := [.slice none 0 0, .int .i64 0, .int .i64 2]) Try.results129 ⟨.tmp rfl, ⟨.tmp rfl, ⟨.tmp rfl, trivial⟩⟩⟩ (fun _ _ h => h) (fun w hw => ?_)
    exact hR _ _ ⟨(none, 0), trivial, rfl, ((St.nilR (hw.pickK 2 [] rfl) (eI .i64) 1 3).pickK 1 [0] rfl)⟩
  · replace hF := cneg hC5 hF
    -- region 4: object.go:101
    refine W.seqR fun Q7 hQ7 => ?_
    refine WL.q (Y.move (.pl rfl)) rfl ?_
    refine WL.q (Y.eql (.pl rfl) (.pl rfl)) rfl ?_
    refine WL.q (Y.move (.pl rfl)) rfl ?_
    refine WL.g (.pl rfl rfl rfl) (fun hg => Y.move (.pl rfl)) rfl ?_
    refine WL.g (.pl rfl rfl rfl) (fun hg => Y.not (.gd (hg) rfl)) rfl ?_
    refine WL.q (Y.and (.pl rfl) (fun h2 => .gd (eqt h2) rfl)) rfl ?_
    refine WL.q (Y.assign (.pl rfl)) rfl ?_
    refine WL.next hQ7 (.cons (i := 1) rfl (.cons (i := 2) rfl (.cons (i := 3) rfl (.cons (i := 11) rfl (.cons (i := 12) rfl (.cons (i := 31) rfl (.nil))))))) ?_
    refine W.cond (.pl rfl) (fun hC8 => ?_) (fun hC8 => ?_)
    · replace hF := cpos hC8 hF
      -- region 5: object.go:102
      refine W.seqR fun Q9 hQ9 => ?_
      refine WL.q (Y.move (.pl rfl)) rfl ?_
      refine WL.q (Y.move (.pl rfl)) rfl ?_
      refine WL.q (Y.move (.pl rfl)) rfl ?_
      refine WL.step (WO.bsliceC (enc := (eI .i64)) (ys := ([arg6] : List Int)) Try.underlying22 bz3 (.cons (.pl rfl) (.nil)) rfl (fun _ => rfl) rfl rfl (by decide) (by decide) rfl fun b9 => ?_)
      obtain ⟨r10, hr10, hF⟩ := bnd hF
      refine WL.step (WO.call (γ := (Option Addr × Nat)) (fun g => .slice g.1 (r10).length g.2) (fun g => ([cR (eI .i64) 1 g.1 g.2 3 r10, cBx b7 138 (encObjectSet a1)] ++ T)) (fun _ => True) isGo132 (.cons (.pl rfl) (.cons (.pl rfl) (.cons (.pl rfl) (.nil)))) rfl (fun w hw => slices_Insert_int_ok (T := ([cBx b7 138 (encObjectSet a1)] ++ T)) (hr10) (hw.pickK 3 [2, 0, 1] rfl) ) ?_)
      rintro ⟨AI11, cI12⟩ -
      refine WL.q (Y.assign (.pl rfl)) rfl ?_
      refine WL.q (Y.assign (.pl rfl)) rfl ?_
      refine WL.q (Y.assign (.pl rfl)) rfl ?_
      refine WL.next hQ9 (.cons (i := 8) rfl (.cons (i := 9) rfl (.cons (i := 10) rfl (.nil)))) ?_
      obtain rfl := Option.some.inj hF
      refine W.retV (fn := Try.f129) (vs := [.slice AI11 (r10).length cI12, .int .i64 1, .int .i64 0]) Try.results129 ⟨.tmp rfl, ⟨.tmp rfl, ⟨.tmp rfl, trivial⟩⟩⟩ (fun _ _ h => h) (fun w hw => ?_)
      exact hR _ _ ⟨(AI11, cI12), trivial, rfl, (hw.pickK 2 [0] rfl)⟩
    · replace hF := cneg hC8 hF
      -- region 6: object.go:103
      refine W.seqR fun Q10 hQ10 => ?_
      refine WL.q (Y.move (.pl rfl)) rfl ?_
      refine WL.q (Y.eql (.pl rfl) (.pl rfl)) rfl ?_
      refine WL.q (Y.move (.pl rfl)) rfl ?_
      refine WL.g (.pl rfl rfl rfl) (fun hg => Y.move (.pl rfl)) rfl ?_
      refine WL.g (.pl rfl rfl rfl) (fun hg => Y.not (.gd (hg) rfl)) rfl ?_
      refine WL.q (Y.or (.pl rfl) (fun h2 => .gd (eqf h2) rfl)) rfl ?_
      refine WL.q (Y.assign (.pl rfl)) rfl ?_
      refine WL.next hQ10 (.cons (i := 1) rfl (.cons (i := 2) rfl (.cons (i := 11) rfl (.cons (i := 43) rfl (.nil))))) ?_
      refine W.cond (.pl rfl) (fun hC11 => ?_) (fun hC11 => ?_)
      · replace hF := cpos hC11 hF
        -- region 7: object.go:104
        refine W.seqR fun Q12 hQ12 => ?_
        refine WL.q (Y.move (.pl rfl)) rfl ?_
        refine WL.q (Y.assign (.pl rfl)) rfl ?_
        refine WL.q (Y.assign (.pl rfl)) rfl ?_
        refine WL.q (Y.assign (.pl rfl)) rfl ?_
        refine WL.next hQ12 (.cons (i := 8) rfl (.cons (i := 9) rfl (.cons (i := 10) rfl (.nil)))) ?_
        obtain rfl := Option.some.inj hF
        refine W.retV (fn := Try.f129) (vs := [.slice A2 (s4).length c3, .int .i64 0, .int .i64 0]) Try.results129 ⟨.tmp rfl, ⟨.tmp rfl, ⟨.tmp rfl, trivial⟩⟩⟩ (fun _ _ h => h) (fun w hw => ?_)
        exact hR _ _ ⟨(A2, c3), trivial, rfl, (hw.pickK 2 [1] rfl)⟩
      · replace hF := cneg hC11 hF
        -- region 8: object.go:105
        refine W.seqR fun Q13 hQ13 => ?_
        refine WL.q (Y.move (.pl rfl)) rfl ?_
        refine WL.q (Y.eql (.pl rfl) (.pl rfl)) rfl ?_
        refine WL.q (Y.assign (.pl rfl)) rfl ?_
        refine WL.next hQ13 (.cons (i := 1) rfl (.cons (i := 11) rfl (.cons (i := 51) rfl (.nil)))) ?_
        refine W.cond (.pl rfl) (fun hC14 => ?_) (fun hC14 => ?_)
        · replace hF := cpos hC14 hF
          -- region 9: object.go:106
          refine W.seqR fun Q15 hQ15 => ?_
          refine WL.q (Y.move (.pl rfl)) rfl ?_
          refine WL.q (Y.move (.pl rfl)) rfl ?_
          refine WL.q (Y.move (.pl rfl)) rfl ?_
          obtain ⟨hk13, hF⟩ := ckh hF
          refine WL.q (Y.add (.pl rfl) (.pl rfl) (ok64_lt (hk13))) rfl ?_
          obtain ⟨r14, hr14, hF⟩ := bnd hF
          refine WL.step (WO.call (γ := (Option Addr × Nat)) (fun g => .slice g.1 (r14).length g.2) (fun g => ([cR (eI .i64) 1 g.1 g.2 3 r14, cBx b7 138 (encObjectSet a1)] ++ T)) (fun _ => True) isGo133 (.cons (.pl rfl) (.cons (.pl rfl) (.cons (.pl rfl) (.nil)))) rfl (fun w hw => slices_Delete_int_ok (T := ([cBx b7 138 (encObjectSet a1)] ++ T)) (hr14) (hw.pickK 2 [1, 0] rfl) ) ?_)
          rintro ⟨AI15, cI16⟩ -
          refine WL.q (Y.assign (.pl rfl)) rfl ?_
          refine WL.q (Y.assign (.pl rfl)) rfl ?_
          refine WL.q (Y.assign (.pl rfl)) rfl ?_
          refine WL.next hQ15 (.cons (i := 8) rfl (.cons (i := 9) rfl (.cons (i := 10) rfl (.nil)))) ?_
          obtain rfl := Option.some.inj hF
          refine W.retV (fn := Try.f129) (vs := [.slice AI15 (r14).length cI16, .int .i64 1, .int .i64 0]) Try.results129 ⟨.tmp rfl, ⟨.tmp rfl, ⟨.tmp rfl, trivial⟩⟩⟩ (fun _ _ h => h) (fun w hw => ?_)
          exact hR _ _ ⟨(AI15, cI16), trivial, rfl, (hw.pickK 2 [0] rfl)⟩
        · replace hF := cneg hC14 hF
          refine W.skip ?_
          refine W.go hK3 (.cons (i := 1) rfl (.nil)) ?_
          -- region 10: object.go:108
          refine W.seqR fun Q16 hQ16 => ?_
          refine WL.q (Y.move (.pl rfl)) rfl ?_
          refine WL.q (Y.assign (.pl rfl)) rfl ?_
          refine WL.q (Y.assign (.pl rfl)) rfl ?_
          refine WL.q (Y.assign (.pl rfl)) rfl ?_
          refine WL.next hQ16 (.cons (i := 8) rfl (.cons (i := 9) rfl (.cons (i := 10) rfl (.nil)))) ?_
          obtain rfl := Option.some.inj hF
          refine W.retV (fn := Try.f129) (vs := [.slice A2 (s4).length c3, .int .i64 1, .int .i64 0]) Try.results129 ⟨.tmp rfl, ⟨.tmp rfl, ⟨.tmp rfl, trivial⟩⟩⟩ (fun _ _ h => h) (fun w hw => ?_)
          exact hR _ _ ⟨(A2, c3), trivial, rfl, (hw.pickK 2 [1] rfl)⟩

def object_ticket_step (N : Nat) (a1 : ObjectRegister) (s2 : (List Int)) (x7 : Int) (x8 : Int) : Option ((List Int) × Int × Int) :=
  bd (ix s2 0) fun (x10 : Int) =>
  cond (decide (x10 = 1000))
    (some ([], 0, 2))
    (ck (ok64 (x10 + 1)) <|
    some (([(x10 + 1)] : List Int), x10, 0))

theorem object_ticket_step_ok {N : Nat} {a1 : ObjectRegister} {s2 : (List Int)} {x7 : Int} {x8 : Int} {res : ((List Int) × Int × Int)} (hF : object_ticket_step N a1 s2 x7 x8 = some res) (w : World) {v6 : Value} (hs5 : SlIn (eI .i64) 1 w v6 s2) :
    Made Try.prog 141 [.agg (encObjectRegister a1).toArray, v6, .int .i64 x7, .int .i64 x8] w (fun g : (Option Addr × Nat) => .tuple #[.slice g.1 (res.1).length g.2, .int .i64 res.2.1, .int .i64 res.2.2]) (fun g => [cR (eI .i64) 1 g.1 g.2 3 res.1]) (fun _ => True) := by
  obtain ⟨A3, c4, rfl, hcc4, hs5⟩ := hs5.form
  refine W.enter (n := 23) Try.func141 rfl rfl Sub.refl (by simp) (St.start w) fun R hR => ?_
  unfold object_ticket_step at hF
  -- region 0: object.go:36
  refine W.seqR fun Q1 hQ1 => ?_
  refine WL.step (WO.boxA (.pl rfl) rfl fun b9 => ?_)
  refine WL.q (Y.assign (.pl rfl)) rfl ?_
  refine WL.q (Y.assign (.pl rfl)) rfl ?_
  refine WL.q (Y.assign (.pl rfl)) rfl ?_
  refine WL.next hQ1 (.cons (i := 1) rfl (.nil)) ?_
  refine W.seq fun K2 hK2 => ?_
  -- region 1: object.go:37
  refine W.seqR fun Q3 hQ3 => ?_
  refine WL.q (Y.move (.pl rfl)) rfl ?_
  obtain ⟨x10, hx10, hF⟩ := bnd hF
  refine WL.q (Y.slEl Try.underlying22 cells3 hs5 (.pl rfl) (.pl rfl) (ix_lt (hx10))) rfl ?_
  refine WL.q (Y.loadS (enc := (eI .i64)) (v := .int .i64 x10) (j := 0) Try.underlying3 rfl hs5 (.pl rfl) (hx10) rfl rfl) rfl ?_
  refine WL.q (Y.eql (.pl rfl) (.pl rfl)) rfl ?_
  refine WL.next hQ3 (.cons (i := 1) rfl (.cons (i := 14) rfl (.nil))) ?_
  refine W.cond (.pl rfl) (fun hC4 => ?_) (fun hC4 => ?_)
  · replace hF := cpos hC4 hF
    -- region 2: object.go:38
    refine W.seqR fun Q5 hQ5 => ?_
    refine WL.q (Y.assign (.pl rfl)) rfl ?_
    refine WL.q (Y.assign (.pl rfl)) rfl ?_
    refine WL.q (Y.assign (.pl rfl)) rfl ?_
    refine WL.next hQ5 (.cons (i := 8) rfl (.cons (i := 9) rfl (.cons (i := 10) rfl (.nil)))) ?_
    obtain rfl := Option.some.inj hF
    refine W.retV (fn := Try.f141) (vs := [.slice none 0 0, .int .i64 0, .int .i64 2]) Try.results141 ⟨.tmp rfl, ⟨.tmp rfl, ⟨.tmp rfl, trivial⟩⟩⟩ (fun _ _ h => h) (fun w hw => ?_)
    exact hR _ _ ⟨(none, 0), trivial, rfl, ((St.nilR (hw.pick [] rfl) (eI .i64) 1 3).pick [0] rfl)⟩
  · replace hF := cneg hC4 hF
    refine W.skip ?_
    refine W.go hK2 (.cons (i := 1) rfl (.nil)) ?_
    -- region 3: object.go:40
    refine W.seqX 10 (by kernel_rfl) fun K6 hK6 => ?_
    refine WX.pure 0 #[true, false, false, false, false, false, false, false, false, false, false] rfl (by kernel_rfl) (fun _ _ => Y.move (.pl rfl)) rfl ?_
    refine WX.take 1 #[true, true, false, false, false, false, false, false, false, false, false] (fun w hw => St.tail [] hw) rfl (by kernel_rfl) (Y.slEl Try.underlying22 cells3 hs5 (.pl rfl) (.pl rfl) (ix_lt (hx10))) rfl ?_
    refine WX.take 2 #[true, true, true, false, false, false, false, false, false, false, false] (fun w hw => St.tail [] hw) rfl (by kernel_rfl) (Y.loadS (enc := (eI .i64)) (v := .int .i64 x10) (j := 0) Try.underlying3 rfl hs5 (.pl rfl) (hx10) rfl rfl) rfl ?_
    obtain ⟨hk11, hF⟩ := ckh hF
    refine WX.pure 3 #[true, true, true, true, false, false, false, false, false, false, false] rfl (by kernel_rfl) (fun _ _ => Y.add (.pl rfl) (.pl rfl) (ok64_lt (hk11))) rfl ?_
    refine WX.pure 5 #[true, true, true, true, false, true, false, false, false, false, false] rfl (by kernel_rfl) (fun _ _ => Y.move (.pl rfl)) rfl ?_
    refine WX.take 6 #[true, true, true, true, false, true, true, false, false, false, false] (fun w hw => St.tail [] hw) rfl (by kernel_rfl) (Y.slEl Try.underlying22 cells3 hs5 (.pl rfl) (.pl rfl) (ix_lt (hx10))) rfl ?_
    refine WX.take 7 #[true, true, true, true, false, true, true, true, false, false, false] (fun w hw => St.tail [] hw) rfl (by kernel_rfl) (Y.loadS (enc := (eI .i64)) (v := .int .i64 x10) (j := 0) Try.underlying3 rfl hs5 (.pl rfl) (hx10) rfl rfl) rfl ?_
    refine WX.one 4 #[true, true, true, true, true, true, true, true, false, false, false] (fun w hw => St.tail [] hw) rfl (by kernel_rfl) (WO.bsliceC (enc := (eI .i64)) (ys := ([(x10 + 1)] : List Int)) Try.underlying22 bz3 (.cons (.pl rfl) (.nil)) rfl (fun _ => rfl) rfl rfl (by decide) (by decide) rfl fun b12 => ?_)
    refine WX.pure 8 #[true, true, true, true, true, true, true, true, true, false, false] rfl (by kernel_rfl) (fun _ _ => Y.assign (.pl rfl)) rfl ?_
    refine WX.pure 9 #[true, true, true, true, true, true, true, true, true, true, false] rfl (by kernel_rfl) (fun _ _ => Y.assign (.pl rfl)) rfl ?_
    refine WX.stop #[true, true, true, true, true, true, true, true, true, true, true] (fun w hw => St.tail [_] hw) rfl (by kernel_rfl) (WO.q (Y.assign (.pl rfl)) rfl ?_)
    refine WA.done (by kernel_rfl) ?_
    refine KK.next hK6 (.cons (i := 8) rfl (.cons (i := 9) rfl (.cons (i := 10) rfl (.nil)))) ?_
    obtain rfl := Option.some.inj hF
    refine W.retV (fn := Try.f141) (vs := [.slice (some ⟨b12, 0, none⟩) (([(x10 + 1)] : List Int)).length (([(x10 + 1)] : List Int)).length, .int .i64 x10, .int .i64 0]) Try.results141 ⟨.tmp rfl, ⟨.tmp rfl, ⟨.tmp rfl, trivial⟩⟩⟩ (fun _ _ h => h) (fun w hw => ?_)
    exact hR _ _ ⟨((some ⟨b12, 0, none⟩), (([(x10 + 1)] : List Int)).length), trivial, rfl, (hw.pick [0] rfl)⟩

def object_Step (N : Nat) (typ1 : Int) (s2 : (List Int)) (kind7 : Int) (arg8 : Int) : Option ((List Int) × Int × Int) :=
  bd (object_Check N typ1 s2) fun (r9 : Int) =>
  cond (!(decide (r9 = 0)))
    (some ([], 0, r9))
    (bd (history_Fits N typ1 kind7) fun (r10 : Bool) =>
    bd ((cond ((!r10) == false) (history_Argument N kind7 arg8) (some false))) fun (r11 : Bool) =>
    cond ((!r10) || (!r11))
      (some ([], 0, 3))
      (bd (α := ((List Int) × Int × Int)) (bd (object_of N typ1) fun (r18 : Int) =>
        cond (decide (r18 = 133))
          (ck (limB 8 (s2).length) <|
          bd (object_register_step N (ObjectRegister.mk (ObjectSingle.mk )) s2 kind7 arg8) fun (r22 : ((List Int) × Int)) =>
          some (r22.1, r22.2, 0))
          (cond (decide (r18 = 136))
            (ck (limB 8 (s2).length) <|
            bd (object_queue_step N (ObjectSet.mk (ObjectSingle.mk )) s2 kind7 arg8) fun (r28 : ((List Int) × Int × Int)) =>
            some (r28.1, r28.2.1, r28.2.2))
            (cond (decide (r18 = 137))
              (ck (limB 8 (s2).length) <|
              bd (object_stack_step N (ObjectSet.mk (ObjectSingle.mk )) s2 kind7 arg8) fun (r35 : ((List Int) × Int × Int)) =>
              some (r35.1, r35.2.1, r35.2.2))
              (cond (decide (r18 = 138))
                (ck (limB 8 (s2).length) <|
                bd (object_set_step N (ObjectSet.mk (ObjectSingle.mk )) s2 kind7 arg8) fun (r41 : ((List Int) × Int × Int)) =>
                some (r41.1, r41.2.1, r41.2.2))
                (cond (decide (r18 = 139))
                  (ck (limB 8 (s2).length) <|
                  bd (object_ticket_step N (ObjectRegister.mk (ObjectSingle.mk )) s2 kind7 arg8) fun (r47 : ((List Int) × Int × Int)) =>
                  some (r47.1, r47.2.1, r47.2.2))
                  (none)))))) <|
      fun (next15, res16, e17) => 
        ck (limB 8 (next15).length) <|
        some (next15, res16, e17)))

theorem object_Step_ok {N : Nat} {typ1 : Int} {s2 : (List Int)} {kind7 : Int} {arg8 : Int} {res : ((List Int) × Int × Int)} (hF : object_Step N typ1 s2 kind7 arg8 = some res) (w : World) {v6 : Value} (hs5 : SlIn (eI .i64) 1 w v6 s2) :
    Made Try.prog 30 [.int .i64 typ1, v6, .int .i64 kind7, .int .i64 arg8] w (fun g : (Option Addr × Nat) => .tuple #[.slice g.1 (res.1).length g.2, .int .i64 res.2.1, .int .i64 res.2.2]) (fun g => [cR (eI .i64) 1 g.1 g.2 3 res.1]) (fun _ => True) := by
  obtain ⟨A3, c4, rfl, hcc4, hs5⟩ := hs5.form
  refine W.enter (n := 49) Try.func30 rfl rfl Sub.refl (by simp) (St.start w) fun R hR => ?_
  unfold object_Step at hF
  -- region 0: object.go:152
  refine W.seqR fun Q1 hQ1 => ?_
  refine WL.q (Y.assign (.pl rfl)) rfl ?_
  refine WL.q (Y.assign (.pl rfl)) rfl ?_
  refine WL.q (Y.assign (.pl rfl)) rfl ?_
  refine WL.next hQ1 (.cons (i := 0) rfl (.cons (i := 1) rfl (.cons (i := 2) rfl (.cons (i := 3) rfl (.nil))))) ?_
  refine W.seq fun K2 hK2 => ?_
  -- region 1: object.go:153
  refine W.seqR fun Q3 hQ3 => ?_
  refine WL.q (Y.move (.pl rfl)) rfl ?_
  refine WL.q (Y.move (.pl rfl)) rfl ?_
  obtain ⟨r9, hr9, hF⟩ := bnd hF
  refine WL.step (WO.callP isGo32 (.cons (.pl rfl) (.cons (.pl rfl) (.nil))) rfl (fun w hw => object_Check_ok (hr9) w (hs5.mono hw)) ?_)
  refine WL.q (Y.assign (.pl rfl)) rfl ?_
  refine WL.next hQ3 (.cons (i := 0) rfl (.cons (i := 1) rfl (.cons (i := 2) rfl (.cons (i := 3) rfl (.cons (i := 11) rfl (.nil)))))) ?_
  -- region 2: object.go:153
  refine W.seqR fun Q4 hQ4 => ?_
  refine WL.q (Y.move (.pl rfl)) rfl ?_
  refine WL.q (Y.neq (.pl rfl) (.pl rfl)) rfl ?_
  refine WL.next hQ4 (.cons (i := 0) rfl (.cons (i := 1) rfl (.cons (i := 2) rfl (.cons (i := 3) rfl (.cons (i := 11) rfl (.cons (i := 19) rfl (.nil))))))) ?_
  refine W.cond (.pl rfl) (fun hC5 => ?_) (fun hC5 => ?_)
  · replace hF := cpos hC5 hF
    -- region 3: object.go:154
    refine W.seqR fun Q6 hQ6 => ?_
    refine WL.q (Y.move (.pl rfl)) rfl ?_
    refine WL.q (Y.assign (.pl rfl)) rfl ?_
    refine WL.q (Y.assign (.pl rfl)) rfl ?_
    refine WL.q (Y.assign (.pl rfl)) rfl ?_
    refine WL.next hQ6 (.cons (i := 8) rfl (.cons (i := 9) rfl (.cons (i := 10) rfl (.nil)))) ?_
    obtain rfl := Option.some.inj hF
    refine W.retV (fn := Try.f30) (vs := [.slice none 0 0, .int .i64 0, .int .i64 r9]) Try.results30 ⟨.tmp rfl, ⟨.tmp rfl, ⟨.tmp rfl, trivial⟩⟩⟩ (fun _ _ h => h) (fun w hw => ?_)
    exact hR _ _ ⟨(none, 0), trivial, rfl, ((St.nilR (hw.pick [] rfl) (eI .i64) 1 3).pick [0] rfl)⟩
  · replace hF := cneg hC5 hF
    refine W.skip ?_
    refine W.go hK2 (.cons (i := 0) rfl (.cons (i := 1) rfl (.cons (i := 2) rfl (.cons (i := 3) rfl (.nil))))) ?_
    refine W.seq fun K7 hK7 => ?_
    -- region 4: object.go:156
    refine W.seqR fun Q8 hQ8 => ?_
    refine WL.q (Y.move (.pl rfl)) rfl ?_
    refine WL.q (Y.move (.pl rfl)) rfl ?_
    obtain ⟨r10, hr10, hF⟩ := bnd hF
    refine WL.step (WO.callP isGo65 (.cons (.pl rfl) (.cons (.pl rfl) (.nil))) rfl (fun w hw => history_Fits_ok (hr10) w ) ?_)
    refine WL.q (Y.not (.pl rfl)) rfl ?_
    refine WL.q (Y.move (.pl rfl)) rfl ?_
    refine WL.g (.pl rfl rfl rfl) (fun hg => Y.move (.pl rfl)) rfl ?_
    refine WL.g (.pl rfl rfl rfl) (fun hg => Y.move (.pl rfl)) rfl ?_
    obtain ⟨r11, hr11, hF⟩ := bnd hF
    refine WL.gP (.pl rfl rfl rfl) isGo66 (fun hg => (.cons (.gd (hg) rfl) (.cons (.gd (hg) rfl) (.nil)))) rfl (fun hg w hw => history_Argument_ok (gpos hg hr11) w ) ?_
    refine WL.g (.pl rfl rfl rfl) (fun hg => Y.not (.gd (hg) rfl)) rfl ?_
    refine WL.q (Y.or (.pl rfl) (fun h2 => .gd (eqf h2) rfl)) rfl ?_
    refine WL.next hQ8 (.cons (i := 0) rfl (.cons (i := 1) rfl (.cons (i := 2) rfl (.cons (i := 3) rfl (.cons (i := 30) rfl (.nil)))))) ?_
    refine W.cond (.pl rfl) (fun hC9 => ?_) (fun hC9 => ?_)
    · replace hF := cpos hC9 hF
      -- region 5: object.go:157
      refine W.seqR fun Q10 hQ10 => ?_
      refine WL.q (Y.assign (.pl rfl)) rfl ?_
      refine WL.q (Y.assign (.pl rfl)) rfl ?_
      refine WL.q (Y.assign (.pl rfl)) rfl ?_
      refine WL.next hQ10 (.cons (i := 8) rfl (.cons (i := 9) rfl (.cons (i := 10) rfl (.nil)))) ?_
      obtain rfl := Option.some.inj hF
      refine W.retV (fn := Try.f30) (vs := [.slice none 0 0, .int .i64 0, .int .i64 3]) Try.results30 ⟨.tmp rfl, ⟨.tmp rfl, ⟨.tmp rfl, trivial⟩⟩⟩ (fun _ _ h => h) (fun w hw => ?_)
      exact hR _ _ ⟨(none, 0), trivial, rfl, ((St.nilR (hw.pick [] rfl) (eI .i64) 1 3).pick [0] rfl)⟩
    · replace hF := cneg hC9 hF
      refine W.skip ?_
      refine W.go hK7 (.cons (i := 0) rfl (.cons (i := 1) rfl (.cons (i := 2) rfl (.cons (i := 3) rfl (.nil))))) ?_
      obtain ⟨o11, hF11, hF⟩ := bnd hF
      refine W.join6 (Em := fun (next15 : (List Int)) (res16 : Int) (e17 : Int) (o12 : Option Nat) (A13 : Option Addr) (c14 : Nat) => [(12, .slice A13 (next15).length c14), (13, .int .i64 res16), (14, .int .i64 e17)]) (M := fun next15 res16 e17 o12 A13 c14 => [cV o12 (eI .i64) 1 A13 c14 next15]) (I := fun next15 res16 e17 o12 A13 c14 => (next15, res16, e17) = o11) (.nil) (fun K12 hK12 => ?_) ?_
      · -- up to
        -- region 6: object.go:159
        refine W.regX 16 (by kernel_rfl) ?_
        refine WX.pure 0 #[true, false, false, false, false, false, false, false, false, false, false, false, false, false, false, false, false] rfl (by kernel_rfl) (fun _ _ => Y.move (.pl rfl)) rfl ?_
        refine WX.pure 2 #[true, false, true, false, false, false, false, false, false, false, false, false, false, false, false, false, false] rfl (by kernel_rfl) (fun _ _ => Y.move (.pl rfl)) rfl ?_
        refine WX.pure 4 #[true, false, true, false, true, false, false, false, false, false, false, false, false, false, false, false, false] rfl (by kernel_rfl) (fun _ _ => Y.move (.pl rfl)) rfl ?_
        refine WX.pure 5 #[true, false, true, false, true, true, false, false, false, false, false, false, false, false, false, false, false] rfl (by kernel_rfl) (fun _ _ => Y.move (.pl rfl)) rfl ?_
        obtain ⟨r18, hr18, hF11⟩ := bnd hF11
        refine WX.one 1 #[true, true, true, false, true, true, false, false, false, false, false, false, false, false, false, false, false] (fun w hw => St.tail [] hw) rfl (by kernel_rfl) (WO.callP isGo67 (.cons (.pl rfl) (.nil)) rfl (fun w hw => object_of_ok (hr18) w ) ?_)
        refine bsplit (decide (r18 = 133)) (fun hT14 => ?_) (fun hT14 => ?_)
        · replace hF11 := cpos hT14 hF11
          refine WX.pure 6 #[true, true, true, false, true, true, true, false, false, false, false, false, false, false, false, false, false] rfl (by kernel_rfl) (fun _ _ => Y.fn (f := .method "alibi/object.step") (.cons (Evs.ifE (k := 133) (of_decide_eq_true hT14) rfl (.pl rfl)) (.nil))) rfl ?_
          refine WX.pure 7 #[true, true, true, false, true, true, true, true, false, false, false, false, false, false, false, false, false] rfl (by kernel_rfl) (fun _ _ => Y.nilM nah133_step (.pl rfl)) rfl ?_
          refine WX.pure 8 #[true, true, true, false, true, true, true, true, true, false, false, false, false, false, false, false, false] rfl (by kernel_rfl) (fun _ _ => Y.move (.pl rfl)) rfl ?_
          obtain ⟨hk19, hF11⟩ := ckh hF11
          refine WX.one 3 #[true, true, true, true, true, true, true, true, true, false, false, false, false, false, false, false, false] (fun w hw => St.tail [] hw) rfl (by kernel_rfl) (WO.callM isGo33 (.cons (.pl rfl) (.nil)) rfl (fun w hw => slices_Clone_int_int_ok (hk19) w (hs5.mono hw)) ?_)
          rintro ⟨A20, c21⟩ -
          obtain ⟨r22, hr22, hF11⟩ := bnd hF11
          refine WX.one 9 #[true, true, true, true, true, true, true, true, true, true, false, false, false, false, false, false, false] (fun w hw => St.tail [_] hw) rfl (by kernel_rfl) (WO.callI (γ := (Option Addr × Nat)) (u := .agg #[]) (v := .agg #[]) (fun g => .tuple #[.slice g.1 (r22.1).length g.2, .int .i64 r22.2, .int .i64 0]) (fun g => [cR (eI .i64) 1 g.1 g.2 3 r22.1]) (fun _ => True) meth133_step isGo122 (Evs.ifE (k := 133) (of_decide_eq_true hT14) rfl (.pl rfl)) (.cons (.pl rfl) (.cons (.pl rfl) (.cons (.pl rfl) (.nil)))) rfl (fun w hw => object_register_step_ok (T := []) (hr22) (hw.pick [0] rfl) ) ?_)
          rintro ⟨A23, c24⟩ -
          refine WX.pure 10 #[true, true, true, true, true, true, true, true, true, true, true, false, false, false, false, false, false] rfl (by kernel_rfl) (fun _ _ => Y.move (.pl rfl)) rfl ?_
          refine WX.pure 11 #[true, true, true, true, true, true, true, true, true, true, true, true, false, false, false, false, false] rfl (by kernel_rfl) (fun _ _ => Y.extract (.pl rfl) rfl) rfl ?_
          refine WX.pure 12 #[true, true, true, true, true, true, true, true, true, true, true, true, true, false, false, false, false] rfl (by kernel_rfl) (fun _ _ => Y.extract (.pl rfl) rfl) rfl ?_
          refine WX.pure 13 #[true, true, true, true, true, true, true, true, true, true, true, true, true, true, false, false, false] rfl (by kernel_rfl) (fun _ _ => Y.extract (.pl rfl) rfl) rfl ?_
          refine WX.pure 14 #[true, true, true, true, true, true, true, true, true, true, true, true, true, true, true, false, false] rfl (by kernel_rfl) (fun _ _ => Y.assign (.pl rfl)) rfl ?_
          refine WX.pure 15 #[true, true, true, true, true, true, true, true, true, true, true, true, true, true, true, true, false] rfl (by kernel_rfl) (fun _ _ => Y.assign (.pl rfl)) rfl ?_
          refine WX.stop #[true, true, true, true, true, true, true, true, true, true, true, true, true, true, true, true, true] (fun w hw => St.tail [_] hw) rfl (by kernel_rfl) (WO.q (Y.assign (.pl rfl)) rfl ?_)
          refine WA.done (by kernel_rfl) ?_
          exact W.joinAt6 hK12 r22.1 r22.2 0 (blkA A23) A23 c24 (Option.some.inj hF11) (.cons rfl (.cons rfl (.cons rfl (.nil)))) (.nil) (fun w hw => (St.toV (enc := (eI .i64)) (sz := 1) (A' := A23) (cap' := c24) (ys := r22.1) (fun _ => rfl) hw (i := 0) rfl (fun w h => h)).pick [0] rfl)
        · replace hF11 := cneg hT14 hF11
          refine bsplit (decide (r18 = 136)) (fun hT15 => ?_) (fun hT15 => ?_)
          · replace hF11 := cpos hT15 hF11
            refine WX.pure 6 #[true, true, true, false, true, true, true, false, false, false, false, false, false, false, false, false, false] rfl (by kernel_rfl) (fun _ _ => Y.fn (f := .method "alibi/object.step") (.cons (Evs.ifE (k := 136) (of_decide_eq_true hT15) rfl (.pl rfl)) (.nil))) rfl ?_
            refine WX.pure 7 #[true, true, true, false, true, true, true, true, false, false, false, false, false, false, false, false, false] rfl (by kernel_rfl) (fun _ _ => Y.nilM nah136_step (.pl rfl)) rfl ?_
            refine WX.pure 8 #[true, true, true, false, true, true, true, true, true, false, false, false, false, false, false, false, false] rfl (by kernel_rfl) (fun _ _ => Y.move (.pl rfl)) rfl ?_
            obtain ⟨hk25, hF11⟩ := ckh hF11
            refine WX.one 3 #[true, true, true, true, true, true, true, true, true, false, false, false, false, false, false, false, false] (fun w hw => St.tail [] hw) rfl (by kernel_rfl) (WO.callM isGo33 (.cons (.pl rfl) (.nil)) rfl (fun w hw => slices_Clone_int_int_ok (hk25) w (hs5.mono hw)) ?_)
            rintro ⟨A26, c27⟩ -
            obtain ⟨r28, hr28, hF11⟩ := bnd hF11
            refine WX.one 9 #[true, true, true, true, true, true, true, true, true, true, false, false, false, false, false, false, false] (fun w hw => St.tail [_] hw) rfl (by kernel_rfl) (WO.callI (γ := (Option Nat × Option Addr × Nat)) (u := .agg #[]) (v := .agg #[]) (fun g => .tuple #[.slice g.2.1 (r28.1).length g.2.2, .int .i64 r28.2.1, .int .i64 r28.2.2]) (fun g => [cV g.1 (eI .i64) 1 g.2.1 g.2.2 r28.1]) (fun _ => True) meth136_step isGo126 (Evs.ifE (k := 136) (of_decide_eq_true hT15) rfl (.pl rfl)) (.cons (.pl rfl) (.cons (.pl rfl) (.cons (.pl rfl) (.nil)))) rfl (fun w hw => object_queue_step_ok (T := []) (hr28) (hw.pick [0] rfl) ) ?_)
            rintro ⟨o29, A30, c31⟩ -
            refine WX.pure 10 #[true, true, true, true, true, true, true, true, true, true, true, false, false, false, false, false, false] rfl (by kernel_rfl) (fun _ _ => Y.move (.pl rfl)) rfl ?_
            refine WX.pure 11 #[true, true, true, true, true, true, true, true, true, true, true, true, false, false, false, false, false] rfl (by kernel_rfl) (fun _ _ => Y.extract (.pl rfl) rfl) rfl ?_
            refine WX.pure 12 #[true, true, true, true, true, true, true, true, true, true, true, true, true, false, false, false, false] rfl (by kernel_rfl) (fun _ _ => Y.extract (.pl rfl) rfl) rfl ?_
            refine WX.pure 13 #[true, true, true, true, true, true, true, true, true, true, true, true, true, true, false, false, false] rfl (by kernel_rfl) (fun _ _ => Y.extract (.pl rfl) rfl) rfl ?_
            refine WX.pure 14 #[true, true, true, true, true, true, true, true, true, true, true, true, true, true, true, false, false] rfl (by kernel_rfl) (fun _ _ => Y.assign (.pl rfl)) rfl ?_
            refine WX.pure 15 #[true, true, true, true, true, true, true, true, true, true, true, true, true, true, true, true, false] rfl (by kernel_rfl) (fun _ _ => Y.assign (.pl rfl)) rfl ?_
            refine WX.stop #[true, true, true, true, true, true, true, true, true, true, true, true, true, true, true, true, true] (fun w hw => St.tail [_] hw) rfl (by kernel_rfl) (WO.q (Y.assign (.pl rfl)) rfl ?_)
            refine WA.done (by kernel_rfl) ?_
            exact W.joinAt6 hK12 r28.1 r28.2.1 r28.2.2 o29 A30 c31 (Option.some.inj hF11) (.cons rfl (.cons rfl (.cons rfl (.nil)))) (.nil) (fun w hw => hw.pick [0] rfl)
          · replace hF11 := cneg hT15 hF11
            refine bsplit (decide (r18 = 137)) (fun hT16 => ?_) (fun hT16 => ?_)
            · replace hF11 := cpos hT16 hF11
              refine WX.pure 6 #[true, true, true, false, true, true, true, false, false, false, false, false, false, false, false, false, false] rfl (by kernel_rfl) (fun _ _ => Y.fn (f := .method "alibi/object.step") (.cons (Evs.ifE (k := 137) (of_decide_eq_true hT16) rfl (.pl rfl)) (.nil))) rfl ?_
              refine WX.pure 7 #[true, true, true, false, true, true, true, true, false, false, false, false, false, false, false, false, false] rfl (by kernel_rfl) (fun _ _ => Y.nilM nah137_step (.pl rfl)) rfl ?_
              refine WX.pure 8 #[true, true, true, false, true, true, true, true, true, false, false, false, false, false, false, false, false] rfl (by kernel_rfl) (fun _ _ => Y.move (.pl rfl)) rfl ?_
              obtain ⟨hk32, hF11⟩ := ckh hF11
              refine WX.one 3 #[true, true, true, true, true, true, true, true, true, false, false, false, false, false, false, false, false] (fun w hw => St.tail [] hw) rfl (by kernel_rfl) (WO.callM isGo33 (.cons (.pl rfl) (.nil)) rfl (fun w hw => slices_Clone_int_int_ok (hk32) w (hs5.mono hw)) ?_)
              rintro ⟨A33, c34⟩ -
              obtain ⟨r35, hr35, hF11⟩ := bnd hF11
              refine WX.one 9 #[true, true, true, true, true, true, true, true, true, true, false, false, false, false, false, false, false] (fun w hw => St.tail [_] hw) rfl (by kernel_rfl) (WO.callI (γ := (Option Addr × Nat)) (u := .agg #[]) (v := .agg #[]) (fun g => .tuple #[.slice g.1 (r35.1).length g.2, .int .i64 r35.2.1, .int .i64 r35.2.2]) (fun g => [cR (eI .i64) 1 g.1 g.2 3 r35.1]) (fun _ => True) meth137_step isGo128 (Evs.ifE (k := 137) (of_decide_eq_true hT16) rfl (.pl rfl)) (.cons (.pl rfl) (.cons (.pl rfl) (.cons (.pl rfl) (.nil)))) rfl (fun w hw => object_stack_step_ok (T := []) (hr35) (hw.pick [0] rfl) ) ?_)
              rintro ⟨A36, c37⟩ -
              refine WX.pure 10 #[true, true, true, true, true, true, true, true, true, true, true, false, false, false, false, false, false] rfl (by kernel_rfl) (fun _ _ => Y.move (.pl rfl)) rfl ?_
              refine WX.pure 11 #[true, true, true, true, true, true, true, true, true, true, true, true, false, false, false, false, false] rfl (by kernel_rfl) (fun _ _ => Y.extract (.pl rfl) rfl) rfl ?_
              refine WX.pure 12 #[true, true, true, true, true, true, true, true, true, true, true, true, true, false, false, false, false] rfl (by kernel_rfl) (fun _ _ => Y.extract (.pl rfl) rfl) rfl ?_
              refine WX.pure 13 #[true, true, true, true, true, true, true, true, true, true, true, true, true, true, false, false, false] rfl (by kernel_rfl) (fun _ _ => Y.extract (.pl rfl) rfl) rfl ?_
              refine WX.pure 14 #[true, true, true, true, true, true, true, true, true, true, true, true, true, true, true, false, false] rfl (by kernel_rfl) (fun _ _ => Y.assign (.pl rfl)) rfl ?_
              refine WX.pure 15 #[true, true, true, true, true, true, true, true, true, true, true, true, true, true, true, true, false] rfl (by kernel_rfl) (fun _ _ => Y.assign (.pl rfl)) rfl ?_
              refine WX.stop #[true, true, true, true, true, true, true, true, true, true, true, true, true, true, true, true, true] (fun w hw => St.tail [_] hw) rfl (by kernel_rfl) (WO.q (Y.assign (.pl rfl)) rfl ?_)
              refine WA.done (by kernel_rfl) ?_
              exact W.joinAt6 hK12 r35.1 r35.2.1 r35.2.2 (blkA A36) A36 c37 (Option.some.inj hF11) (.cons rfl (.cons rfl (.cons rfl (.nil)))) (.nil) (fun w hw => (St.toV (enc := (eI .i64)) (sz := 1) (A' := A36) (cap' := c37) (ys := r35.1) (fun _ => rfl) hw (i := 0) rfl (fun w h => h)).pick [0] rfl)
            · replace hF11 := cneg hT16 hF11
              refine bsplit (decide (r18 = 138)) (fun hT17 => ?_) (fun hT17 => ?_)
              · replace hF11 := cpos hT17 hF11
                refine WX.pure 6 #[true, true, true, false, true, true, true, false, false, false, false, false, false, false, false, false, false] rfl (by kernel_rfl) (fun _ _ => Y.fn (f := .method "alibi/object.step") (.cons (Evs.ifE (k := 138) (of_decide_eq_true hT17) rfl (.pl rfl)) (.nil))) rfl ?_
                refine WX.pure 7 #[true, true, true, false, true, true, true, true, false, false, false, false, false, false, false, false, false] rfl (by kernel_rfl) (fun _ _ => Y.nilM nah138_step (.pl rfl)) rfl ?_
                refine WX.pure 8 #[true, true, true, false, true, true, true, true, true, false, false, false, false, false, false, false, false] rfl (by kernel_rfl) (fun _ _ => Y.move (.pl rfl)) rfl ?_
                obtain ⟨hk38, hF11⟩ := ckh hF11
                refine WX.one 3 #[true, true, true, true, true, true, true, true, true, false, false, false, false, false, false, false, false] (fun w hw => St.tail [] hw) rfl (by kernel_rfl) (WO.callM isGo33 (.cons (.pl rfl) (.nil)) rfl (fun w hw => slices_Clone_int_int_ok (hk38) w (hs5.mono hw)) ?_)
                rintro ⟨A39, c40⟩ -
                obtain ⟨r41, hr41, hF11⟩ := bnd hF11
                refine WX.one 9 #[true, true, true, true, true, true, true, true, true, true, false, false, false, false, false, false, false] (fun w hw => St.tail [_] hw) rfl (by kernel_rfl) (WO.callI (γ := (Option Addr × Nat)) (u := .agg #[]) (v := .agg #[]) (fun g => .tuple #[.slice g.1 (r41.1).length g.2, .int .i64 r41.2.1, .int .i64 r41.2.2]) (fun g => [cR (eI .i64) 1 g.1 g.2 3 r41.1]) (fun _ => True) meth138_step isGo129 (Evs.ifE (k := 138) (of_decide_eq_true hT17) rfl (.pl rfl)) (.cons (.pl rfl) (.cons (.pl rfl) (.cons (.pl rfl) (.nil)))) rfl (fun w hw => object_set_step_ok (T := []) (hr41) (hw.pick [0] rfl) ) ?_)
                rintro ⟨A42, c43⟩ -
                refine WX.pure 10 #[true, true, true, true, true, true, true, true, true, true, true, false, false, false, false, false, false] rfl (by kernel_rfl) (fun _ _ => Y.move (.pl rfl)) rfl ?_
                refine WX.pure 11 #[true, true, true, true, true, true, true, true, true, true, true, true, false, false, false, false, false] rfl (by kernel_rfl) (fun _ _ => Y.extract (.pl rfl) rfl) rfl ?_
                refine WX.pure 12 #[true, true, true, true, true, true, true, true, true, true, true, true, true, false, false, false, false] rfl (by kernel_rfl) (fun _ _ => Y.extract (.pl rfl) rfl) rfl ?_
                refine WX.pure 13 #[true, true, true, true, true, true, true, true, true, true, true, true, true, true, false, false, false] rfl (by kernel_rfl) (fun _ _ => Y.extract (.pl rfl) rfl) rfl ?_
                refine WX.pure 14 #[true, true, true, true, true, true, true, true, true, true, true, true, true, true, true, false, false] rfl (by kernel_rfl) (fun _ _ => Y.assign (.pl rfl)) rfl ?_
                refine WX.pure 15 #[true, true, true, true, true, true, true, true, true, true, true, true, true, true, true, true, false] rfl (by kernel_rfl) (fun _ _ => Y.assign (.pl rfl)) rfl ?_
                refine WX.stop #[true, true, true, true, true, true, true, true, true, true, true, true, true, true, true, true, true] (fun w hw => St.tail [_] hw) rfl (by kernel_rfl) (WO.q (Y.assign (.pl rfl)) rfl ?_)
                refine WA.done (by kernel_rfl) ?_
                exact W.joinAt6 hK12 r41.1 r41.2.1 r41.2.2 (blkA A42) A42 c43 (Option.some.inj hF11) (.cons rfl (.cons rfl (.cons rfl (.nil)))) (.nil) (fun w hw => (St.toV (enc := (eI .i64)) (sz := 1) (A' := A42) (cap' := c43) (ys := r41.1) (fun _ => rfl) hw (i := 0) rfl (fun w h => h)).pick [0] rfl)
              · replace hF11 := cneg hT17 hF11
                refine bsplit (decide (r18 = 139)) (fun hT18 => ?_) (fun hT18 => ?_)
                · replace hF11 := cpos hT18 hF11
                  refine WX.pure 6 #[true, true, true, false, true, true, true, false, false, false, false, false, false, false, false, false, false] rfl (by kernel_rfl) (fun _ _ => Y.fn (f := .method "alibi/object.step") (.cons (Evs.ifE (k := 139) (of_decide_eq_true hT18) rfl (.pl rfl)) (.nil))) rfl ?_
                  refine WX.pure 7 #[true, true, true, false, true, true, true, true, false, false, false, false, false, false, false, false, false] rfl (by kernel_rfl) (fun _ _ => Y.nilM nah139_step (.pl rfl)) rfl ?_
                  refine WX.pure 8 #[true, true, true, false, true, true, true, true, true, false, false, false, false, false, false, false, false] rfl (by kernel_rfl) (fun _ _ => Y.move (.pl rfl)) rfl ?_
                  obtain ⟨hk44, hF11⟩ := ckh hF11
                  refine WX.one 3 #[true, true, true, true, true, true, true, true, true, false, false, false, false, false, false, false, false] (fun w hw => St.tail [] hw) rfl (by kernel_rfl) (WO.callM isGo33 (.cons (.pl rfl) (.nil)) rfl (fun w hw => slices_Clone_int_int_ok (hk44) w (hs5.mono hw)) ?_)
                  rintro ⟨A45, c46⟩ -
                  obtain ⟨r47, hr47, hF11⟩ := bnd hF11
                  refine WX.one 9 #[true, true, true, true, true, true, true, true, true, true, false, false, false, false, false, false, false] (fun w hw => St.tail [_] hw) rfl (by kernel_rfl) (WO.callI (γ := (Option Addr × Nat)) (u := .agg #[]) (v := .agg #[]) (fun g => .tuple #[.slice g.1 (r47.1).length g.2, .int .i64 r47.2.1, .int .i64 r47.2.2]) (fun g => [cR (eI .i64) 1 g.1 g.2 3 r47.1, cR (eI .i64) 1 A45 c46 3 s2]) (fun _ => True) meth139_step isGo141 (Evs.ifE (k := 139) (of_decide_eq_true hT18) rfl (.pl rfl)) (.cons (.pl rfl) (.cons (.pl rfl) (.cons (.pl rfl) (.nil)))) rfl (fun w hw => (object_ticket_step_ok (hr47) w (SlIn.ofRow (fun _ => rfl) hw (i := 0) rfl)).calls hw) ?_)
                  rintro ⟨A48, c49⟩ -
                  refine WX.pure 10 #[true, true, true, true, true, true, true, true, true, true, true, false, false, false, false, false, false] rfl (by kernel_rfl) (fun _ _ => Y.move (.pl rfl)) rfl ?_
                  refine WX.pure 11 #[true, true, true, true, true, true, true, true, true, true, true, true, false, false, false, false, false] rfl (by kernel_rfl) (fun _ _ => Y.extract (.pl rfl) rfl) rfl ?_
                  refine WX.pure 12 #[true, true, true, true, true, true, true, true, true, true, true, true, true, false, false, false, false] rfl (by kernel_rfl) (fun _ _ => Y.extract (.pl rfl) rfl) rfl ?_
                  refine WX.pure 13 #[true, true, true, true, true, true, true, true, true, true, true, true, true, true, false, false, false] rfl (by kernel_rfl) (fun _ _ => Y.extract (.pl rfl) rfl) rfl ?_
                  refine WX.pure 14 #[true, true, true, true, true, true, true, true, true, true, true, true, true, true, true, false, false] rfl (by kernel_rfl) (fun _ _ => Y.assign (.pl rfl)) rfl ?_
                  refine WX.pure 15 #[true, true, true, true, true, true, true, true, true, true, true, true, true, true, true, true, false] rfl (by kernel_rfl) (fun _ _ => Y.assign (.pl rfl)) rfl ?_
                  refine WX.stop #[true, true, true, true, true, true, true, true, true, true, true, true, true, true, true, true, true] (fun w hw => St.tail [_, _] hw) rfl (by kernel_rfl) (WO.q (Y.assign (.pl rfl)) rfl ?_)
                  refine WA.done (by kernel_rfl) ?_
                  exact W.joinAt6 hK12 r47.1 r47.2.1 r47.2.2 (blkA A48) A48 c49 (Option.some.inj hF11) (.cons rfl (.cons rfl (.cons rfl (.nil)))) (.nil) (fun w hw => (St.toV (enc := (eI .i64)) (sz := 1) (A' := A48) (cap' := c49) (ys := r47.1) (fun _ => rfl) hw (i := 0) rfl (fun w h => h)).pick [0] rfl)
                · replace hF11 := cneg hT18 hF11
                  exact nomatch hF11
      · -- behind
        rintro next15 res16 e17 o12 A13 c14 rfl
        -- region 7: object.go:160
        refine W.seqR fun Q19 hQ19 => ?_
        refine WL.q (Y.move (.pl rfl)) rfl ?_
        obtain ⟨hk50, hF⟩ := ckh hF
        refine WL.step (WO.callM isGo33 (.cons (.pl rfl) (.nil)) rfl (fun w hw => slices_Clone_int_int_ok (hk50) w (SlIn.ofV (enc := (eI .i64)) (sz := 1) hw (i := 0) rfl)) ?_)
        rintro ⟨A51, c52⟩ -
        refine WL.q (Y.move (.pl rfl)) rfl ?_
        refine WL.q (Y.move (.pl rfl)) rfl ?_
        refine WL.q (Y.assign (.pl rfl)) rfl ?_
        refine WL.q (Y.assign (.pl rfl)) rfl ?_
        refine WL.q (Y.assign (.pl rfl)) rfl ?_
        refine WL.next hQ19 (.cons (i := 8) rfl (.cons (i := 9) rfl (.cons (i := 10) rfl (.nil)))) ?_
        obtain rfl := Option.some.inj hF
        refine W.retV (fn := Try.f30) (vs := [.slice A51 (next15).length c52, .int .i64 res16, .int .i64 e17]) Try.results30 ⟨.tmp rfl, ⟨.tmp rfl, ⟨.tmp rfl, trivial⟩⟩⟩ (fun _ _ h => h) (fun w hw => ?_)
        exact hR _ _ ⟨(A51, c52), trivial, rfl, (hw.pick [0] rfl)⟩

def object_single_start (N : Nat) (a1 : ObjectSingle) : Option Unit :=
  some ()

theorem object_single_start_ok {N : Nat} {a1 : ObjectSingle} {res : Unit} (hF : object_single_start N a1 = some res) (w : World) :
    Made Try.prog 120 [.agg (encObjectSingle a1).toArray] w (fun g : Option Addr => .slice g (([0] : List Int)).length (([0] : List Int)).length) (fun g => [cR (eI .i64) 1 g (([0] : List Int)).length 3 ([0] : List Int)]) (fun _ => True) := by
  refine W.enter (n := 4) Try.func120 rfl rfl Sub.refl (by simp) (St.start w) fun R hR => ?_
  unfold object_single_start at hF
  -- region 0: object.go:21
  refine W.seqR fun Q1 hQ1 => ?_
  refine WL.step (WO.boxA (.pl rfl) rfl fun b2 => ?_)
  refine WL.q (Y.assign (.pl rfl)) rfl ?_
  refine WL.next hQ1 (.nil) ?_
  -- region 1: object.go:21
  refine W.seqR fun Q2 hQ2 => ?_
  refine WL.step (WO.bsliceC (enc := (eI .i64)) (ys := ([0] : List Int)) Try.underlying22 bz3 (.cons (.pl rfl) (.nil)) rfl (fun _ => rfl) rfl rfl (by decide) (by decide) rfl fun b3 => ?_)
  refine WL.q (Y.assign (.pl rfl)) rfl ?_
  refine WL.next hQ2 (.cons (i := 2) rfl (.nil)) ?_
  obtain rfl := Option.some.inj hF
  refine W.retV (fn := Try.f120) (vs := [.slice (some ⟨b3, 0, none⟩) (([0] : List Int)).length (([0] : List Int)).length]) Try.results120 ⟨.tmp rfl, trivial⟩ (fun _ _ h => h) (fun w hw => ?_)
  exact hR _ _ ⟨(some ⟨b3, 0, none⟩), trivial, rfl, (hw.pick [0] rfl)⟩

def object_many_start (N : Nat) (a1 : ObjectSingle) : Option Unit :=
  some ()

theorem object_many_start_ok {N : Nat} {a1 : ObjectSingle} {res : Unit} (hF : object_many_start N a1 = some res) (w : World) :
    Pure Try.prog 123 [.agg (encObjectSingle a1).toArray] w (.slice none 0 0) := by
  refine W.enter (n := 3) Try.func123 rfl rfl Sub.refl (by simp) (St.start w) fun R hR => ?_
  unfold object_many_start at hF
  -- region 0: object.go:46
  refine W.seqR fun Q1 hQ1 => ?_
  refine WL.step (WO.boxA (.pl rfl) rfl fun b2 => ?_)
  refine WL.q (Y.assign (.pl rfl)) rfl ?_
  refine WL.next hQ1 (.nil) ?_
  -- region 1: object.go:46
  refine W.seqR fun Q2 hQ2 => ?_
  refine WL.q (Y.assign (.pl rfl)) rfl ?_
  refine WL.next hQ2 (.cons (i := 2) rfl (.nil)) ?_
  obtain rfl := Option.some.inj hF
  refine W.retV (fn := Try.f123) (vs := [.slice none 0 0]) Try.results123 ⟨.tmp rfl, trivial⟩ (fun _ _ h => h) (fun w hw => ?_)
  exact hR _ _ ⟨rfl, (hw.pick [] rfl)⟩

def object_Start (N : Nat) (typ1 : Int) : Option ((List Int) × Int) :=
  bd (object_of N typ1) fun (r2 : Int) =>
  cond (decide (r2 = 0))
    (some ([], 1))
    (bd (α := (List Int)) (cond (decide (r2 = 133))
        (bd (object_single_start N (ObjectSingle.mk )) fun (r6 : Unit) =>
        some ([0] : List Int))
        (cond (decide (r2 = 136))
          (bd (object_many_start N (ObjectSingle.mk )) fun (r8 : Unit) =>
          some [])
          (cond (decide (r2 = 137))
            (bd (object_many_start N (ObjectSingle.mk )) fun (r9 : Unit) =>
            some [])
            (cond (decide (r2 = 138))
              (bd (object_many_start N (ObjectSingle.mk )) fun (r10 : Unit) =>
              some [])
              (cond (decide (r2 = 139))
                (bd (object_single_start N (ObjectSingle.mk )) fun (r11 : Unit) =>
                some ([0] : List Int))
                (none)))))) <|
    fun (v5 : (List Int)) => 
      some (v5, 0))

theorem object_Start_ok {N : Nat} {typ1 : Int} {res : ((List Int) × Int)} (hF : object_Start N typ1 = some res) (w : World) :
    Made Try.prog 64 [.int .i64 typ1] w (fun g : (Option Addr × Nat) => .tuple #[.slice g.1 (res.1).length g.2, .int .i64 res.2]) (fun g => [cR (eI .i64) 1 g.1 g.2 3 res.1]) (fun _ => True) := by
  refine W.enter (n := 11) Try.func64 rfl rfl Sub.refl (by simp) (St.start w) fun R hR => ?_
  unfold object_Start at hF
  -- region 0: object.go:129
  refine W.seqR fun Q1 hQ1 => ?_
  refine WL.q (Y.assign (.pl rfl)) rfl ?_
  refine WL.q (Y.assign (.pl rfl)) rfl ?_
  refine WL.next hQ1 (.cons (i := 0) rfl (.nil)) ?_
  -- region 1: object.go:130
  refine W.seqR fun Q2 hQ2 => ?_
  refine WL.q (Y.move (.pl rfl)) rfl ?_
  obtain ⟨r2, hr2, hF⟩ := bnd hF
  refine WL.step (WO.callP isGo67 (.cons (.pl rfl) (.nil)) rfl (fun w hw => object_of_ok (hr2) w ) ?_)
  refine WL.q (Y.assign (.pl rfl)) rfl ?_
  refine WL.next hQ2 (.cons (i := 4) rfl (.nil)) ?_
  refine W.seq fun K3 hK3 => ?_
  -- region 2: object.go:131
  refine W.seqR fun Q4 hQ4 => ?_
  refine WL.q (Y.move (.pl rfl)) rfl ?_
  refine WL.q (Y.eqNilI Try.underlying91 (.pl rfl)) rfl ?_
  refine WL.next hQ4 (.cons (i := 4) rfl (.cons (i := 8) rfl (.nil))) ?_
  refine W.cond (.pl rfl) (fun hC5 => ?_) (fun hC5 => ?_)
  · replace hF := cpos hC5 hF
    -- region 3: object.go:132
    refine W.seqR fun Q6 hQ6 => ?_
    refine WL.q (Y.assign (.pl rfl)) rfl ?_
    refine WL.q (Y.assign (.pl rfl)) rfl ?_
    refine WL.next hQ6 (.cons (i := 2) rfl (.cons (i := 3) rfl (.nil))) ?_
    obtain rfl := Option.some.inj hF
    refine W.retV (fn := Try.f64) (vs := [.slice none 0 0, .int .i64 1]) Try.results64 ⟨.tmp rfl, ⟨.tmp rfl, trivial⟩⟩ (fun _ _ h => h) (fun w hw => ?_)
    exact hR _ _ ⟨(none, 0), trivial, rfl, ((St.nilR (hw.pick [] rfl) (eI .i64) 1 3).pick [0] rfl)⟩
  · replace hF := cneg hC5 hF
    refine W.skip ?_
    refine W.go hK3 (.cons (i := 4) rfl (.nil)) ?_
    obtain ⟨o7, hF7, hF⟩ := bnd hF
    refine W.join3 (Em := fun (v5 : (List Int)) (A3 : Option Addr) (c4 : Nat) => [(2, .slice A3 (v5).length c4), (3, .int .i64 0)]) (M := fun v5 A3 c4 => [cR (eI .i64) 1 A3 c4 3 v5]) (I := fun v5 A3 c4 => v5 = o7) (.nil) (fun K8 hK8 => ?_) ?_
    · -- up to
      -- region 4: object.go:134
      refine W.reg ?_
      refine WL.q (Y.move (.pl rfl)) rfl ?_
      refine bsplit (decide (r2 = 133)) (fun hT9 => ?_) (fun hT9 => ?_)
      · replace hF7 := cpos hT9 hF7
        obtain ⟨r6, hr6, hF7⟩ := bnd hF7
        refine WL.step (WO.callI (γ := Option Addr) (u := .agg #[]) (v := .agg #[]) (fun g => .slice g (([0] : List Int)).length (([0] : List Int)).length) (fun g => [cR (eI .i64) 1 g (([0] : List Int)).length 3 ([0] : List Int)]) (fun _ => True) meth133_start isGo120 (Evs.ifE (k := 133) (of_decide_eq_true hT9) rfl (.pl rfl)) (.nil) rfl (fun w hw => (object_single_start_ok (hr6) w ).calls hw) ?_)
        rintro A7 -
        refine WL.q (Y.assign (.pl rfl)) rfl ?_
        refine WL.q (Y.assign (.pl rfl)) rfl ?_
        refine WL.nil ?_
        exact W.joinAt3 hK8 ([0] : List Int) A7 ((([0] : List Int)).length) (Option.some.inj hF7) (.cons rfl (.cons rfl (.nil))) (.nil) (fun w hw => hw.pick [0] rfl)
      · replace hF7 := cneg hT9 hF7
        refine bsplit (decide (r2 = 136)) (fun hT10 => ?_) (fun hT10 => ?_)
        · replace hF7 := cpos hT10 hF7
          obtain ⟨r8, hr8, hF7⟩ := bnd hF7
          refine WL.step (WO.callI (γ := Unit) (u := .agg #[]) (v := .agg #[]) (fun g => .slice none 0 0) (fun g => []) (fun _ => True) meth136_start isGo123 (Evs.ifE (k := 136) (of_decide_eq_true hT10) rfl (.pl rfl)) (.nil) rfl (fun w hw => (object_many_start_ok (hr8) w ).calls hw) ?_)
          rintro _ -
          refine WL.q (Y.assign (.pl rfl)) rfl ?_
          refine WL.q (Y.assign (.pl rfl)) rfl ?_
          refine WL.nil ?_
          exact W.joinAt3 hK8 [] none 0 (Option.some.inj hF7) (.cons rfl (.cons rfl (.nil))) (.nil) (fun w hw => (St.nilR (hw.pick [] rfl) (eI .i64) 1 3).pick [0] rfl)
        · replace hF7 := cneg hT10 hF7
          refine bsplit (decide (r2 = 137)) (fun hT11 => ?_) (fun hT11 => ?_)
          · replace hF7 := cpos hT11 hF7
            obtain ⟨r9, hr9, hF7⟩ := bnd hF7
            refine WL.step (WO.callI (γ := Unit) (u := .agg #[]) (v := .agg #[]) (fun g => .slice none 0 0) (fun g => []) (fun _ => True) meth137_start isGo123 (Evs.ifE (k := 137) (of_decide_eq_true hT11) rfl (.pl rfl)) (.nil) rfl (fun w hw => (object_many_start_ok (hr9) w ).calls hw) ?_)
            rintro _ -
            refine WL.q (Y.assign (.pl rfl)) rfl ?_
            refine WL.q (Y.assign (.pl rfl)) rfl ?_
            refine WL.nil ?_
            exact W.joinAt3 hK8 [] none 0 (Option.some.inj hF7) (.cons rfl (.cons rfl (.nil))) (.nil) (fun w hw => (St.nilR (hw.pick [] rfl) (eI .i64) 1 3).pick [0] rfl)
          · replace hF7 := cneg hT11 hF7
            refine bsplit (decide (r2 = 138)) (fun hT12 => ?_) (fun hT12 => ?_)
            · replace hF7 := cpos hT12 hF7
              obtain ⟨r10, hr10, hF7⟩ := bnd hF7
              refine WL.step (WO.callI (γ := Unit) (u := .agg #[]) (v := .agg #[]) (fun g => .slice none 0 0) (fun g => []) (fun _ => True) meth138_start isGo123 (Evs.ifE (k := 138) (of_decide_eq_true hT12) rfl (.pl rfl)) (.nil) rfl (fun w hw => (object_many_start_ok (hr10) w ).calls hw) ?_)
              rintro _ -
              refine WL.q (Y.assign (.pl rfl)) rfl ?_
              refine WL.q (Y.assign (.pl rfl)) rfl ?_
              refine WL.nil ?_
              exact W.joinAt3 hK8 [] none 0 (Option.some.inj hF7) (.cons rfl (.cons rfl (.nil))) (.nil) (fun w hw => (St.nilR (hw.pick [] rfl) (eI .i64) 1 3).pick [0] rfl)
            · replace hF7 := cneg hT12 hF7
              refine bsplit (decide (r2 = 139)) (fun hT13 => ?_) (fun hT13 => ?_)
              · replace hF7 := cpos hT13 hF7
                obtain ⟨r11, hr11, hF7⟩ := bnd hF7
                refine WL.step (WO.callI (γ := Option Addr) (u := .agg #[]) (v := .agg #[]) (fun g => .slice g (([0] : List Int)).length (([0] : List Int)).length) (fun g => [cR (eI .i64) 1 g (([0] : List Int)).length 3 ([0] : List Int)]) (fun _ => True) meth139_start isGo120 (Evs.ifE (k := 139) (of_decide_eq_true hT13) rfl (.pl rfl)) (.nil) rfl (fun w hw => (object_single_start_ok (hr11) w ).calls hw) ?_)
                rintro A12 -
                refine WL.q (Y.assign (.pl rfl)) rfl ?_
                refine WL.q (Y.assign (.pl rfl)) rfl ?_
                refine WL.nil ?_
                exact W.joinAt3 hK8 ([0] : List Int) A12 ((([0] : List Int)).length) (Option.some.inj hF7) (.cons rfl (.cons rfl (.nil))) (.nil) (fun w hw => hw.pick [0] rfl)
              · replace hF7 := cneg hT13 hF7
                exact nomatch hF7
    · -- behind
      rintro v5 A3 c4 rfl
      obtain rfl := Option.some.inj hF
      refine W.retV (fn := Try.f64) (vs := [.slice A3 (v5).length c4, .int .i64 0]) Try.results64 ⟨.tmp rfl, ⟨.tmp rfl, trivial⟩⟩ (fun _ _ h => h) (fun w hw => ?_)
      exact hR _ _ ⟨(A3, c4), trivial, rfl, (hw.pick [0] rfl)⟩

def object_Play_L3 (N : Nat) (l2 : (List Do)) (typ1 : Int) : ((List Int) × Int) → Option (((List Int) × Int) ⊕ (Unit ⊕ (Int × Int)))
  | (s12, v13) =>
    cond (decide (v13 < ((l2).length : Int)))
      (bd (ix l2 v13) fun (x14 : Do) =>
      bd (object_Step N typ1 s12 x14.kind x14.arg) fun (r16 : ((List Int) × Int × Int)) =>
      cond ((!(decide (r16.2.2 = 0))) || (!(decide (r16.2.1 = x14.res))))
        (some (.inr (.inr (v13, 0))))
        (ck (ok64 (v13 + 1)) <|
        some (.inl (r16.1, (v13 + 1)))))
      (some (.inr (.inl ())))

def object_Play (N : Nat) (typ1 : Int) (l2 : (List Do)) : Option (Int × Int) :=
  bd (object_Start N typ1) fun (r7 : ((List Int) × Int)) =>
  cond (!(decide (r7.2 = 0)))
    (some (0, r7.2))
    (bd (α := (Unit ⊕ (Int × Int))) (iter (object_Play_L3 N l2 typ1) N (r7.1, 0)) <|
    Sum.elim (fun _ => 
      some (((l2).length : Int), 0)) (fun p => some p))

theorem object_Play_ok {N : Nat} {typ1 : Int} {l2 : (List Do)} {res : (Int × Int)} (hF : object_Play N typ1 l2 = some res) (w : World) {v6 : Value} (hs5 : SlIn encDo 3 w v6 l2) :
    Pure Try.prog 27 [.int .i64 typ1, v6] w (.tuple #[.int .i64 res.1, .int .i64 res.2]) := by
  obtain ⟨A3, c4, rfl, hcc4, hs5⟩ := hs5.form
  refine W.enter (n := 52) Try.func27 rfl rfl Sub.refl (by simp) (St.start w) fun R hR => ?_
  unfold object_Play at hF
  -- region 0: object.go:164
  refine W.seqR fun Q1 hQ1 => ?_
  refine WL.q (Y.assign (.pl rfl)) rfl ?_
  refine WL.q (Y.assign (.pl rfl)) rfl ?_
  refine WL.next hQ1 (.cons (i := 0) rfl (.cons (i := 1) rfl (.nil))) ?_
  -- region 1: object.go:165
  refine W.seqR fun Q2 hQ2 => ?_
  refine WL.q (Y.move (.pl rfl)) rfl ?_
  obtain ⟨r7, hr7, hF⟩ := bnd hF
  refine WL.step (WO.callM isGo64 (.cons (.pl rfl) (.nil)) rfl (fun w hw => object_Start_ok (hr7) w ) ?_)
  rintro ⟨A8, c9⟩ -
  refine WL.q (Y.move (.pl rfl)) rfl ?_
  refine WL.q (Y.extract (.pl rfl) rfl) rfl ?_
  refine WL.q (Y.extract (.pl rfl) rfl) rfl ?_
  refine WL.q (Y.assign (.pl rfl)) rfl ?_
  refine WL.q (Y.assign (.pl rfl)) rfl ?_
  refine WL.next hQ2 (.cons (i := 0) rfl (.cons (i := 1) rfl (.cons (i := 6) rfl (.cons (i := 7) rfl (.nil))))) ?_
  refine W.seq fun K3 hK3 => ?_
  -- region 2: object.go:166
  refine W.seqR fun Q4 hQ4 => ?_
  refine WL.q (Y.move (.pl rfl)) rfl ?_
  refine WL.q (Y.neq (.pl rfl) (.pl rfl)) rfl ?_
  refine WL.next hQ4 (.cons (i := 0) rfl (.cons (i := 1) rfl (.cons (i := 6) rfl (.cons (i := 7) rfl (.cons (i := 19) rfl (.nil)))))) ?_
  refine W.cond (.pl rfl) (fun hC5 => ?_) (fun hC5 => ?_)
  · replace hF := cpos hC5 hF
    -- region 3: object.go:167
    refine W.seqR fun Q6 hQ6 => ?_
    refine WL.q (Y.move (.pl rfl)) rfl ?_
    refine WL.q (Y.assign (.pl rfl)) rfl ?_
    refine WL.q (Y.assign (.pl rfl)) rfl ?_
    refine WL.next hQ6 (.cons (i := 4) rfl (.cons (i := 5) rfl (.nil))) ?_
    obtain rfl := Option.some.inj hF
    refine W.retV (fn := Try.f27) (vs := [.int .i64 0, .int .i64 r7.2]) Try.results27 ⟨.tmp rfl, ⟨.tmp rfl, trivial⟩⟩ (fun _ _ h => h) (fun w hw => ?_)
    exact hR _ _ ⟨rfl, (hw.pick [] rfl)⟩
  · replace hF := cneg hC5 hF
    refine W.skip ?_
    refine W.go hK3 (.cons (i := 0) rfl (.cons (i := 1) rfl (.cons (i := 6) rfl (.nil)))) ?_
    obtain ⟨o7, hF7, hF⟩ := bnd hF
    refine W.join0 (Em := []) (M := []) (I := (.inl ()) = o7) (.cons (i := 1) rfl (.nil)) (fun K8 hK8 => ?_) ?_
    · -- up to
      -- region 4: object.go:169
      refine W.seqR fun Q9 hQ9 => ?_
      refine WL.q (Y.move (.pl rfl)) rfl ?_
      refine WL.q (Y.len Try.underlying26 (.pl rfl)) rfl ?_
      refine WL.q (Y.move (.pl rfl)) rfl ?_
      refine WL.next hQ9 (.cons (i := 0) rfl (.cons (i := 1) rfl (.cons (i := 6) rfl (.cons (i := 21) rfl (.cons (i := 22) rfl (.cons (i := 23) rfl (.nil))))))) ?_
      refine W.block ?_
      refine W.loop4 (Em := fun (s12 : (List Int)) (v13 : Int) (A10 : Option Addr) (c11 : Nat) => [(6, .slice A10 (s12).length c11), (23, .int .i64 v13)]) (M := fun s12 v13 A10 c11 => [cR (eI .i64) 1 A10 c11 3 s12]) (I := fun s12 v13 A10 c11 k10 => iter (object_Play_L3 N l2 typ1) k10 (s12, v13) = some o7) r7.1 0 A8 c9 N (hF7) (.cons rfl (.cons rfl (.nil))) (.cons (i := 0) rfl (.cons (i := 1) rfl (.cons (i := 21) rfl (.cons (i := 22) rfl (.nil))))) (fun w hw => hw.pick [0] rfl) (fun s12 v13 A10 c11 k10 hI K11 hK11 => ?_)
      obtain ⟨k10, t10, rfl, hF10, hN10⟩ := iter_step hI
      -- region 5: object.go:169
      refine W.seqR fun Q12 hQ12 => ?_
      refine WL.q (Y.lss (.pl rfl) (.pl rfl)) rfl ?_
      refine WL.next hQ12 (.cons (i := 0) rfl (.cons (i := 1) rfl (.cons (i := 6) rfl (.cons (i := 21) rfl (.cons (i := 22) rfl (.cons (i := 23) rfl (.cons (i := 24) rfl (.nil)))))))) ?_
      refine W.seq fun K13 hK13 => ?_
      refine W.cond (.pl rfl) (fun hC14 => ?_) (fun hC14 => ?_)
      · replace hF10 := cpos hC14 hF10
        refine W.skip ?_
        refine W.go hK13 (.cons (i := 0) rfl (.cons (i := 1) rfl (.cons (i := 6) rfl (.cons (i := 21) rfl (.cons (i := 22) rfl (.cons (i := 23) rfl (.nil))))))) ?_
        refine W.seq fun K15 hK15 => ?_
        refine W.block ?_
        -- region 6: object.go:169
        refine W.seqR fun Q16 hQ16 => ?_
        refine WL.q (Y.move (.pl rfl)) rfl ?_
        obtain ⟨x14, hx14, hF10⟩ := bnd hF10
        refine WL.q (Y.slEl Try.underlying26 cells28 hs5 (.pl rfl) (.pl rfl) (ix_lt (hx14))) rfl ?_
        refine WL.q (Y.loadSA (enc := encDo) (ds := (encDo x14)) (j := 0) Try.underlying28 rfl cells28 hs5 (.pl rfl) (hx14) rfl rfl subW) rfl ?_
        refine WL.step (WO.alloc (cs := (encDo (Do.mk 0 0 0)).toArray) zero28 rfl rfl fun b15 => ?_)
        refine WL.q (Y.assign (.pl rfl)) rfl ?_
        refine WL.step (WO.storeBA (ds := (encDo x14)) (cs' := (encDo x14)) cells28 (.pl rfl) (.pl rfl) rfl (oneDo _) (i := 0) rfl (lel (o := 0) (l := 3) (m := 3) (by decide) rfl rfl) (putW rfl) ?_)
        refine WL.next hQ16 (.cons (i := 0) rfl (.cons (i := 1) rfl (.cons (i := 6) rfl (.cons (i := 8) rfl (.cons (i := 9) rfl (.cons (i := 21) rfl (.cons (i := 22) rfl (.cons (i := 23) rfl (.nil))))))))) ?_
        -- region 7: object.go:170
        refine W.seqR fun Q17 hQ17 => ?_
        refine WL.q (Y.move (.pl rfl)) rfl ?_
        refine WL.q (Y.move (.pl rfl)) rfl ?_
        refine WL.q (Y.fieldAddr0 (off := 0) (ft := 3) Try.underlying28 rfl cells3 (.pl rfl)) rfl ?_
        refine WL.q (Y.loadB (v := .int .i64 x14.kind) Try.underlying3 rfl (.pl rfl) (i := 0) rfl (rfl)) rfl ?_
        refine WL.q (Y.fieldAddr0 (off := 1) (ft := 3) Try.underlying28 rfl cells3 (.pl rfl)) rfl ?_
        refine WL.q (Y.loadB (v := .int .i64 x14.arg) Try.underlying3 rfl (.pl rfl) (i := 0) rfl (rfl)) rfl ?_
        obtain ⟨r16, hr16, hF10⟩ := bnd hF10
        refine WL.step (WO.callM isGo30 (.cons (.pl rfl) (.cons (.pl rfl) (.cons (.pl rfl) (.cons (.pl rfl) (.nil))))) rfl (fun w hw => object_Step_ok (hr16) w (SlIn.ofRow (fun _ => rfl) hw (i := 1) rfl)) ?_)
        rintro ⟨A17, c18⟩ -
        refine WL.q (Y.move (.pl rfl)) rfl ?_
        refine WL.q (Y.extract (.pl rfl) rfl) rfl ?_
        refine WL.q (Y.extract (.pl rfl) rfl) rfl ?_
        refine WL.q (Y.extract (.pl rfl) rfl) rfl ?_
        refine WL.q (Y.assign (.pl rfl)) rfl ?_
        refine WL.q (Y.assign (.pl rfl)) rfl ?_
        refine WL.q (Y.assign (.pl rfl)) rfl ?_
        refine WL.next hQ17 (.cons (i := 0) rfl (.cons (i := 1) rfl (.cons (i := 8) rfl (.cons (i := 9) rfl (.cons (i := 10) rfl (.cons (i := 11) rfl (.cons (i := 12) rfl (.cons (i := 21) rfl (.cons (i := 22) rfl (.cons (i := 23) rfl (.nil))))))))))) ?_
        refine W.seq fun K18 hK18 => ?_
        -- region 8: object.go:171
        refine W.seqR fun Q19 hQ19 => ?_
        refine WL.q (Y.move (.pl rfl)) rfl ?_
        refine WL.q (Y.neq (.pl rfl) (.pl rfl)) rfl ?_
        refine WL.q (Y.move (.pl rfl)) rfl ?_
        refine WL.g (.pl rfl rfl rfl) (fun hg => Y.move (.pl rfl)) rfl ?_
        refine WL.g (.pl rfl rfl rfl) (fun hg => Y.fieldAddr0 (off := 2) (ft := 3) Try.underlying28 rfl cells3 (.pl rfl)) rfl ?_
        refine WL.g (.pl rfl rfl rfl) (fun hg => Y.loadB (v := .int .i64 x14.res) Try.underlying3 rfl (.gd (hg) rfl) (i := 1) rfl (rfl)) rfl ?_
        refine WL.g (.pl rfl rfl rfl) (fun hg => Y.neq (.gd (hg) rfl) (.gd (hg) rfl)) rfl ?_
        refine WL.q (Y.or (.pl rfl) (fun h2 => .gd (eqf h2) rfl)) rfl ?_
        refine WL.next hQ19 (.cons (i := 0) rfl (.cons (i := 1) rfl (.cons (i := 8) rfl (.cons (i := 10) rfl (.cons (i := 21) rfl (.cons (i := 22) rfl (.cons (i := 23) rfl (.cons (i := 46) rfl (.nil))))))))) ?_
        refine W.cond (.pl rfl) (fun hC20 => ?_) (fun hC20 => ?_)
        · replace hF10 := cpos hC20 hF10
          -- region 9: object.go:172
          refine W.seqR fun Q21 hQ21 => ?_
          refine WL.q (Y.move (.pl rfl)) rfl ?_
          refine WL.q (Y.assign (.pl rfl)) rfl ?_
          refine WL.q (Y.assign (.pl rfl)) rfl ?_
          refine WL.next hQ21 (.cons (i := 4) rfl (.cons (i := 5) rfl (.nil))) ?_
          obtain rfl := Option.some.inj hF10
          obtain rfl := einr hN10
          obtain rfl := Option.some.inj hF
          refine W.retV (fn := Try.f27) (vs := [.int .i64 v13, .int .i64 0]) Try.results27 ⟨.tmp rfl, ⟨.tmp rfl, trivial⟩⟩ (fun _ _ h => h) (fun w hw => ?_)
          exact hR _ _ ⟨rfl, (hw.pick [] rfl)⟩
        · replace hF10 := cneg hC20 hF10
          refine W.skip ?_
          refine W.go hK18 (.cons (i := 0) rfl (.cons (i := 1) rfl (.cons (i := 10) rfl (.cons (i := 21) rfl (.cons (i := 22) rfl (.cons (i := 23) rfl (.nil))))))) ?_
          -- region 10: object.go:174
          refine W.reg ?_
          refine WL.q (Y.move (.pl rfl)) rfl ?_
          refine WL.q (Y.assign (.pl rfl)) rfl ?_
          refine WL.nil ?_
          refine W.go hK15 (.cons (i := 0) rfl (.cons (i := 1) rfl (.cons (i := 6) rfl (.cons (i := 21) rfl (.cons (i := 22) rfl (.cons (i := 23) rfl (.nil))))))) ?_
          -- region 11: object.go:169
          refine W.reg ?_
          obtain ⟨hk19, hF10⟩ := ckh hF10
          refine WL.q (Y.add (.pl rfl) (.pl rfl) (ok64_lt (hk19))) rfl ?_
          refine WL.q (Y.move (.pl rfl)) rfl ?_
          refine WL.nil ?_
          obtain rfl := Option.some.inj hF10
          exact W.again4 hK11 r16.1 (v13 + 1) A17 c18 k10 hN10 (Nat.lt_succ_self _) (.cons rfl (.cons rfl (.nil))) (.cons (i := 0) rfl (.cons (i := 1) rfl (.cons (i := 21) rfl (.cons (i := 22) rfl (.nil))))) (fun w hw => hw.pick [0] rfl)
      · replace hF10 := cneg hC14 hF10
        refine W.exit ?_
        obtain rfl := Option.some.inj hF10
        exact W.joinAt0 hK8  (einr hN10) (.nil) (.cons (i := 1) rfl (.nil)) (fun w hw => hw.pick [] rfl)
    · -- behind
      rintro  rfl
      -- region 12: object.go:176
      refine W.seqR fun Q24 hQ24 => ?_
      refine WL.q (Y.move (.pl rfl)) rfl ?_
      refine WL.q (Y.len Try.underlying26 (.pl rfl)) rfl ?_
      refine WL.q (Y.assign (.pl rfl)) rfl ?_
      refine WL.q (Y.assign (.pl rfl)) rfl ?_
      refine WL.next hQ24 (.cons (i := 4) rfl (.cons (i := 5) rfl (.nil))) ?_
      obtain rfl := Option.some.inj hF
      refine W.retV (fn := Try.f27) (vs := [.int .i64 ((l2).length : Int), .int .i64 0]) Try.results27 ⟨.tmp rfl, ⟨.tmp rfl, trivial⟩⟩ (fun _ _ h => h) (fun w hw => ?_)
      exact hR _ _ ⟨rfl, (hw.pick [] rfl)⟩

def alibkeep_ok_L3 (N : Nat) (l1 : (List Int)) : Int → Option (Int ⊕ (Unit ⊕ Bool))
  | v6 =>
    cond (decide (v6 < ((l1).length : Int)))
      (bd (ix l1 v6) fun (x7 : Int) =>
      cond (!(decide (x7 = 0)))
        (some (.inr (.inr false)))
        (ck (ok64 (v6 + 1)) <|
        some (.inl (v6 + 1))))
      (some (.inr (.inl ())))

def alibkeep_ok (N : Nat) (l1 : (List Int)) : Option Bool :=
  bd (α := (Unit ⊕ Bool)) (iter (alibkeep_ok_L3 N l1) N 0) <|
  Sum.elim (fun _ => 
    some true) (fun p => some p)

theorem alibkeep_ok_ok {N : Nat} {l1 : (List Int)} {res : Bool} (hF : alibkeep_ok N l1 = some res) (w : World) {v5 : Value} (hs4 : SlIn (eI .i64) 1 w v5 l1) :
    Pure Try.prog 28 [v5] w (.bool res) := by
  obtain ⟨A2, c3, rfl, hcc3, hs4⟩ := hs4.form
  refine W.enter (n := 14) Try.func28 rfl rfl Sub.refl (by simp) (St.start w) fun R hR => ?_
  unfold alibkeep_ok at hF
  -- region 0: order.go:22
  refine W.seqR fun Q1 hQ1 => ?_
  refine WL.q (Y.assign (.pl rfl)) rfl ?_
  refine WL.next hQ1 (.cons (i := 0) rfl (.nil)) ?_
  obtain ⟨o2, hF2, hF⟩ := bnd hF
  refine W.join0 (Em := []) (M := []) (I := (.inl ()) = o2) (.nil) (fun K3 hK3 => ?_) ?_
  · -- up to
    -- region 1: order.go:23
    refine W.seqR fun Q4 hQ4 => ?_
    refine WL.q (Y.move (.pl rfl)) rfl ?_
    refine WL.q (Y.len Try.underlying88 (.pl rfl)) rfl ?_
    refine WL.q (Y.move (.pl rfl)) rfl ?_
    refine WL.next hQ4 (.cons (i := 5) rfl (.cons (i := 6) rfl (.cons (i := 7) rfl (.nil)))) ?_
    refine W.block ?_
    refine W.loop1 (Em := fun (v6 : Int) => [(7, .int .i64 v6)]) (M := fun v6 => []) (I := fun v6 k5 => iter (alibkeep_ok_L3 N l1) k5 v6 = some o2) 0 N (hF2) (.cons rfl (.nil)) (.cons (i := 5) rfl (.cons (i := 6) rfl (.nil))) (fun w hw => hw.pick [] rfl) (fun v6 k5 hI K6 hK6 => ?_)
    obtain ⟨k5, t5, rfl, hF5, hN5⟩ := iter_step hI
    -- region 2: order.go:23
    refine W.seqR fun Q7 hQ7 => ?_
    refine WL.q (Y.lss (.pl rfl) (.pl rfl)) rfl ?_
    refine WL.next hQ7 (.cons (i := 5) rfl (.cons (i := 6) rfl (.cons (i := 7) rfl (.cons (i := 8) rfl (.nil))))) ?_
    refine W.seq fun K8 hK8 => ?_
    refine W.cond (.pl rfl) (fun hC9 => ?_) (fun hC9 => ?_)
    · replace hF5 := cpos hC9 hF5
      refine W.skip ?_
      refine W.go hK8 (.cons (i := 5) rfl (.cons (i := 6) rfl (.cons (i := 7) rfl (.nil)))) ?_
      refine W.seq fun K10 hK10 => ?_
      refine W.block ?_
      -- region 3: order.go:23
      refine W.seqR fun Q11 hQ11 => ?_
      obtain ⟨x7, hx7, hF5⟩ := bnd hF5
      refine WL.q (Y.slEl Try.underlying88 cells29 hs4 (.pl rfl) (.pl rfl) (ix_lt (hx7))) rfl ?_
      refine WL.q (Y.loadS (enc := (eI .i64)) (v := .int .i64 x7) (j := 0) Try.underlying29 rfl hs4 (.pl rfl) (hx7) rfl rfl) rfl ?_
      refine WL.q (Y.assign (.pl rfl)) rfl ?_
      refine WL.next hQ11 (.cons (i := 4) rfl (.cons (i := 5) rfl (.cons (i := 6) rfl (.cons (i := 7) rfl (.nil))))) ?_
      -- region 4: order.go:24
      refine W.seqR fun Q12 hQ12 => ?_
      refine WL.q (Y.move (.pl rfl)) rfl ?_
      refine WL.q (Y.neq (.pl rfl) (.pl rfl)) rfl ?_
      refine WL.next hQ12 (.cons (i := 5) rfl (.cons (i := 6) rfl (.cons (i := 7) rfl (.cons (i := 12) rfl (.nil))))) ?_
      refine W.cond (.pl rfl) (fun hC13 => ?_) (fun hC13 => ?_)
      · replace hF5 := cpos hC13 hF5
        -- region 5: order.go:25
        refine W.seqR fun Q14 hQ14 => ?_
        refine WL.q (Y.assign (.pl rfl)) rfl ?_
        refine WL.next hQ14 (.cons (i := 2) rfl (.nil)) ?_
        obtain rfl := Option.some.inj hF5
        obtain rfl := einr hN5
        obtain rfl := Option.some.inj hF
        refine W.retV (fn := Try.f28) (vs := [.bool false]) Try.results28 ⟨.tmp rfl, trivial⟩ (fun _ _ h => h) (fun w hw => ?_)
        exact hR _ _ ⟨rfl, (hw.pick [] rfl)⟩
      · replace hF5 := cneg hC13 hF5
        refine W.skip ?_
        refine W.go hK10 (.cons (i := 5) rfl (.cons (i := 6) rfl (.cons (i := 7) rfl (.nil)))) ?_
        -- region 6: order.go:23
        refine W.reg ?_
        obtain ⟨hk8, hF5⟩ := ckh hF5
        refine WL.q (Y.add (.pl rfl) (.pl rfl) (ok64_lt (hk8))) rfl ?_
        refine WL.q (Y.move (.pl rfl)) rfl ?_
        refine WL.nil ?_
        obtain rfl := Option.some.inj hF5
        exact W.again1 hK6 (v6 + 1) k5 hN5 (Nat.lt_succ_self _) (.cons rfl (.nil)) (.cons (i := 5) rfl (.cons (i := 6) rfl (.nil))) (fun w hw => hw.pick [] rfl)
    · replace hF5 := cneg hC9 hF5
      refine W.exit ?_
      obtain rfl := Option.some.inj hF5
      exact W.joinAt0 hK3  (einr hN5) (.nil) (.nil) (fun w hw => hw.pick [] rfl)
  · -- behind
    rintro  rfl
    -- region 7: order.go:28
    refine W.seqR fun Q16 hQ16 => ?_
    refine WL.q (Y.assign (.pl rfl)) rfl ?_
    refine WL.next hQ16 (.cons (i := 2) rfl (.nil)) ?_
    obtain rfl := Option.some.inj hF
    refine W.retV (fn := Try.f28) (vs := [.bool true]) Try.results28 ⟨.tmp rfl, trivial⟩ (fun _ _ h => h) (fun w hw => ?_)
    exact hR _ _ ⟨rfl, (hw.pick [] rfl)⟩

def alibkeep_objectLives (N : Nat) : Option Bool :=
  bd (object_Play N 2 ([(Do.mk 3 1 0), (Do.mk 3 2 0), (Do.mk 4 0 1), (Do.mk 4 0 1)] : List Do)) fun (r2 : (Int × Int)) =>
  bd (object_Play N 3 ([(Do.mk 5 1 0), (Do.mk 5 2 0), (Do.mk 6 0 2)] : List Do)) fun (r4 : (Int × Int)) =>
  bd (alibkeep_ok N ([r2.2, r4.2] : List Int)) fun (r6 : Bool) =>
  some ((r6 && (decide (r2.1 = 3))) && (decide (r4.1 = 3)))

theorem alibkeep_objectLives_ok {N : Nat} {res : Bool} (hF : alibkeep_objectLives N = some res) (w : World) :
    Pure Try.prog 24 [] w (.bool res) := by
  refine W.enter (n := 34) Try.func24 rfl rfl Sub.refl (by simp) (St.start w) fun R hR => ?_
  unfold alibkeep_objectLives at hF
  -- region 0: object.go:11
  refine W.seqR fun Q1 hQ1 => ?_
  refine WL.q (Y.assign (.pl rfl)) rfl ?_
  refine WL.next hQ1 (.nil) ?_
  -- region 1: object.go:12
  refine W.seqR fun Q2 hQ2 => ?_
  refine WL.q (Y.build (cs := (encDo (Do.mk 3 1 0)).toArray) shape28 (.cons (.pl rfl) (.cons (.pl rfl) (.nil))) (one_parts ⟨rfl, ⟨rfl, trivial⟩⟩) rfl) rfl ?_
  refine WL.q (Y.build (cs := (encDo (Do.mk 3 2 0)).toArray) shape28 (.cons (.pl rfl) (.cons (.pl rfl) (.nil))) (one_parts ⟨rfl, ⟨rfl, trivial⟩⟩) rfl) rfl ?_
  refine WL.q (Y.build (cs := (encDo (Do.mk 4 0 1)).toArray) shape28 (.cons (.pl rfl) (.cons (.pl rfl) (.nil))) (one_parts ⟨rfl, ⟨rfl, trivial⟩⟩) rfl) rfl ?_
  refine WL.q (Y.build (cs := (encDo (Do.mk 4 0 1)).toArray) shape28 (.cons (.pl rfl) (.cons (.pl rfl) (.nil))) (one_parts ⟨rfl, ⟨rfl, trivial⟩⟩) rfl) rfl ?_
  refine WL.step (WO.bsliceC (enc := encDo) (ys := ([(Do.mk 3 1 0), (Do.mk 3 2 0), (Do.mk 4 0 1), (Do.mk 4 0 1)] : List Do)) Try.underlying26 bz28 (.cons (.pl rfl) (.cons (.pl rfl) (.cons (.pl rfl) (.cons (.pl rfl) (.nil))))) rfl lenDo rfl rfl (by decide) (by decide) rfl fun b1 => ?_)
  obtain ⟨r2, hr2, hF⟩ := bnd hF
  refine WL.step (WO.callP isGo27 (.cons (.pl rfl) (.cons (.pl rfl) (.nil))) rfl (fun w hw => object_Play_ok (hr2) w (SlIn.ofRow lenDo hw (i := 0) rfl)) ?_)
  refine WL.q (Y.move (.pl rfl)) rfl ?_
  refine WL.q (Y.extract (.pl rfl) rfl) rfl ?_
  refine WL.q (Y.extract (.pl rfl) rfl) rfl ?_
  refine WL.q (Y.assign (.pl rfl)) rfl ?_
  refine WL.q (Y.assign (.pl rfl)) rfl ?_
  refine WL.next hQ2 (.cons (i := 1) rfl (.cons (i := 2) rfl (.nil))) ?_
  -- region 2: object.go:13
  refine W.seqR fun Q3 hQ3 => ?_
  refine WL.q (Y.build (cs := (encDo (Do.mk 5 1 0)).toArray) shape28 (.cons (.pl rfl) (.cons (.pl rfl) (.nil))) (one_parts ⟨rfl, ⟨rfl, trivial⟩⟩) rfl) rfl ?_
  refine WL.q (Y.build (cs := (encDo (Do.mk 5 2 0)).toArray) shape28 (.cons (.pl rfl) (.cons (.pl rfl) (.nil))) (one_parts ⟨rfl, ⟨rfl, trivial⟩⟩) rfl) rfl ?_
  refine WL.q (Y.build (cs := (encDo (Do.mk 6 0 2)).toArray) shape28 (.cons (.pl rfl) (.cons (.pl rfl) (.nil))) (one_parts ⟨rfl, ⟨rfl, trivial⟩⟩) rfl) rfl ?_
  refine WL.step (WO.bsliceC (enc := encDo) (ys := ([(Do.mk 5 1 0), (Do.mk 5 2 0), (Do.mk 6 0 2)] : List Do)) Try.underlying26 bz28 (.cons (.pl rfl) (.cons (.pl rfl) (.cons (.pl rfl) (.nil)))) rfl lenDo rfl rfl (by decide) (by decide) rfl fun b3 => ?_)
  obtain ⟨r4, hr4, hF⟩ := bnd hF
  refine WL.step (WO.callP isGo27 (.cons (.pl rfl) (.cons (.pl rfl) (.nil))) rfl (fun w hw => object_Play_ok (hr4) w (SlIn.ofRow lenDo hw (i := 0) rfl)) ?_)
  refine WL.q (Y.move (.pl rfl)) rfl ?_
  refine WL.q (Y.extract (.pl rfl) rfl) rfl ?_
  refine WL.q (Y.extract (.pl rfl) rfl) rfl ?_
  refine WL.q (Y.assign (.pl rfl)) rfl ?_
  refine WL.q (Y.assign (.pl rfl)) rfl ?_
  refine WL.next hQ3 (.cons (i := 1) rfl (.cons (i := 2) rfl (.cons (i := 3) rfl (.cons (i := 4) rfl (.nil))))) ?_
  -- region 3: object.go:14
  refine W.seqR fun Q4 hQ4 => ?_
  refine WL.q (Y.move (.pl rfl)) rfl ?_
  refine WL.q (Y.move (.pl rfl)) rfl ?_
  refine WL.step (WO.bsliceC (enc := (eI .i64)) (ys := ([r2.2, r4.2] : List Int)) Try.underlying88 bz29 (.cons (.pl rfl) (.cons (.pl rfl) (.nil))) rfl (fun _ => rfl) rfl rfl (by decide) (by decide) rfl fun b5 => ?_)
  obtain ⟨r6, hr6, hF⟩ := bnd hF
  refine WL.step (WO.callP isGo28 (.cons (.pl rfl) (.nil)) rfl (fun w hw => alibkeep_ok_ok (hr6) w (SlIn.ofRow (fun _ => rfl) hw (i := 0) rfl)) ?_)
  refine WL.q (Y.move (.pl rfl)) rfl ?_
  refine WL.g (.pl rfl rfl rfl) (fun hg => Y.move (.pl rfl)) rfl ?_
  refine WL.g (.pl rfl rfl rfl) (fun hg => Y.eql (.gd (hg) rfl) (.pl rfl)) rfl ?_
  refine WL.q (Y.and (.pl rfl) (fun h2 => .gd (eqt h2) rfl)) rfl ?_
  refine WL.q (Y.move (.pl rfl)) rfl ?_
  refine WL.g (.pl rfl rfl rfl) (fun hg => Y.move (.pl rfl)) rfl ?_
  refine WL.g (.pl rfl rfl rfl) (fun hg => Y.eql (.gd (hg) rfl) (.pl rfl)) rfl ?_
  refine WL.q (Y.and (.pl rfl) (fun h2 => .gd (eqt h2) rfl)) rfl ?_
  refine WL.q (Y.assign (.pl rfl)) rfl ?_
  refine WL.next hQ4 (.cons (i := 0) rfl (.nil)) ?_
  obtain rfl := Option.some.inj hF
  refine W.retV (fn := Try.f24) (vs := [.bool ((r6 && (decide (r2.1 = 3))) && (decide (r4.1 = 3)))]) Try.results24 ⟨.tmp rfl, trivial⟩ (fun _ _ h => h) (fun w hw => ?_)
  exact hR _ _ ⟨rfl, (hw.pick [] rfl)⟩

end Go.Proofs.Ytpakplmpihhmbaa
