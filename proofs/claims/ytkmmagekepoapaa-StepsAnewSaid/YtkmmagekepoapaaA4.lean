/- Objects: what their code computes, and the walks. -/
import Derived.Test.YtkmmagekepoapaaA3
set_option linter.unusedVariables false
set_option linter.unusedSimpArgs false
set_option linter.unusedSectionVars false
set_option maxRecDepth 100000
namespace Go.Proofs.Ytkmmagekepoapaa
open Go.RowKit
structure ObjectSingle where

deriving DecidableEq
def ObjectSingle.z : ObjectSingle := ⟨⟩
def encObjectSingle (x : ObjectSingle) : List Value := []
theorem lenObjectSingle (x : ObjectSingle) : (encObjectSingle x).length = 0 := rfl
theorem oneObjectSingle : ∀ x, ∀ v ∈ encObjectSingle x, v.oneCell' = true := fun x => one_nil
structure ObjectSet where
  many : ObjectSingle
deriving DecidableEq
def ObjectSet.z : ObjectSet := ⟨ObjectSingle.z⟩
def encObjectSet (x : ObjectSet) : List Value := (encObjectSingle x.many ++ [])
theorem lenObjectSet (x : ObjectSet) : (encObjectSet x).length = 0 := rfl
theorem oneObjectSet : ∀ x, ∀ v ∈ encObjectSet x, v.oneCell' = true := fun x => (one_app (oneObjectSingle _) one_nil)
structure ObjectRegister where
  single : ObjectSingle
deriving DecidableEq
def ObjectRegister.z : ObjectRegister := ⟨ObjectSingle.z⟩
def encObjectRegister (x : ObjectRegister) : List Value := (encObjectSingle x.single ++ [])
theorem lenObjectRegister (x : ObjectRegister) : (encObjectRegister x).length = 0 := rfl
theorem oneObjectRegister : ∀ x, ∀ v ∈ encObjectRegister x, v.oneCell' = true := fun x => (one_app (oneObjectSingle _) one_nil)
structure Do where
  kind : Int
  arg : Int
  res : Int
deriving DecidableEq
def Do.z : Do := ⟨0, 0, 0⟩
def encDo (x : Do) : List Value := (Value.int .i64 x.kind :: (Value.int .i64 x.arg :: (Value.int .i64 x.res :: [])))
theorem lenDo (x : Do) : (encDo x).length = 3 := rfl
theorem eqDo (x y : Do) : eqCells [true, true, true] (encDo x) (encDo y) = some (decide (x = y)) := by
  cases x; cases y; simp [encDo, eqCells, Do.mk.injEq, Bool.beq_eq_decide_eq]
theorem oneDo : ∀ x, ∀ v ∈ encDo x, v.oneCell' = true := fun x => (one_cons rfl (one_cons rfl (one_cons rfl one_nil)))
theorem cells109 : Try.prog.cellsOf 109 = 2 + 1 := by kernel_rfl
theorem isGo23 : IsGo Try.prog 23 := ⟨_, Try.func23, by kernel_rfl, rfl⟩
theorem isGo43 : IsGo Try.prog 43 := ⟨_, Try.func43, by kernel_rfl, rfl⟩
theorem isGo46 : IsGo Try.prog 46 := ⟨_, Try.func46, by kernel_rfl, rfl⟩
theorem isGo69 : IsGo Try.prog 69 := ⟨_, Try.func69, by kernel_rfl, rfl⟩
theorem isGo142 : IsGo Try.prog 142 := ⟨_, Try.func142, by kernel_rfl, rfl⟩
theorem isGo143 : IsGo Try.prog 143 := ⟨_, Try.func143, by kernel_rfl, rfl⟩
theorem isGo144 : IsGo Try.prog 144 := ⟨_, Try.func144, by kernel_rfl, rfl⟩
theorem isGo145 : IsGo Try.prog 145 := ⟨_, Try.func145, by kernel_rfl, rfl⟩
theorem isGo146 : IsGo Try.prog 146 := ⟨_, Try.func146, by kernel_rfl, rfl⟩
theorem isGo147 : IsGo Try.prog 147 := ⟨_, Try.func147, by kernel_rfl, rfl⟩
theorem isGo148 : IsGo Try.prog 148 := ⟨_, Try.func148, by kernel_rfl, rfl⟩
theorem isGo149 : IsGo Try.prog 149 := ⟨_, Try.func149, by kernel_rfl, rfl⟩
theorem isGo150 : IsGo Try.prog 150 := ⟨_, Try.func150, by kernel_rfl, rfl⟩
theorem isGo151 : IsGo Try.prog 151 := ⟨_, Try.func151, by kernel_rfl, rfl⟩
theorem isGo152 : IsGo Try.prog 152 := ⟨_, Try.func152, by kernel_rfl, rfl⟩
theorem isGo153 : IsGo Try.prog 153 := ⟨_, Try.func153, by kernel_rfl, rfl⟩
theorem isGo154 : IsGo Try.prog 154 := ⟨_, Try.func154, by kernel_rfl, rfl⟩
theorem isGo155 : IsGo Try.prog 155 := ⟨_, Try.func155, by kernel_rfl, rfl⟩
theorem isGo156 : IsGo Try.prog 156 := ⟨_, Try.func156, by kernel_rfl, rfl⟩
theorem isGo157 : IsGo Try.prog 157 := ⟨_, Try.func157, by kernel_rfl, rfl⟩
theorem isGo160 : IsGo Try.prog 160 := ⟨_, Try.func160, by kernel_rfl, rfl⟩
theorem isGo162 : IsGo Try.prog 162 := ⟨_, Try.func162, by kernel_rfl, rfl⟩
theorem zero109 : ∃ i, Try.prog.info? 109 = some i ∧ i.zero = some (Value.agg #[(Value.int .i64 0), (Value.int .i64 0), (Value.int .i64 0)]) := ⟨_, rfl, by kernel_rfl⟩
theorem zero142 : ∃ i, Try.prog.info? 142 = some i ∧ i.zero = some (Value.agg #[]) := ⟨_, rfl, by kernel_rfl⟩
theorem zero145 : ∃ i, Try.prog.info? 145 = some i ∧ i.zero = some (Value.agg #[]) := ⟨_, rfl, by kernel_rfl⟩
theorem zero146 : ∃ i, Try.prog.info? 146 = some i ∧ i.zero = some (Value.agg #[]) := ⟨_, rfl, by kernel_rfl⟩
theorem zero147 : ∃ i, Try.prog.info? 147 = some i ∧ i.zero = some (Value.agg #[]) := ⟨_, rfl, by kernel_rfl⟩
theorem zero148 : ∃ i, Try.prog.info? 148 = some i ∧ i.zero = some (Value.agg #[]) := ⟨_, rfl, by kernel_rfl⟩
theorem siz143 : ∃ i, Try.prog.info? 143 = some i ∧ i.size = 0 := ⟨_, rfl, by kernel_rfl⟩
theorem cel143 : Try.prog.cellsOf 143 = 0 := by kernel_rfl
theorem siz145 : ∃ i, Try.prog.info? 145 = some i ∧ i.size = 0 := ⟨_, rfl, by kernel_rfl⟩
theorem cel145 : Try.prog.cellsOf 145 = 0 := by kernel_rfl
theorem siz146 : ∃ i, Try.prog.info? 146 = some i ∧ i.size = 0 := ⟨_, rfl, by kernel_rfl⟩
theorem cel146 : Try.prog.cellsOf 146 = 0 := by kernel_rfl
theorem siz147 : ∃ i, Try.prog.info? 147 = some i ∧ i.size = 0 := ⟨_, rfl, by kernel_rfl⟩
theorem cel147 : Try.prog.cellsOf 147 = 0 := by kernel_rfl
theorem meth142_start : ∀ w, (method (Try.prog.types.size + Made.depth) 142 (.agg #[]) "alibi/object.start").run Try.prog w = .ok (142, .agg #[]) w := fun w => by kernel_rfl
theorem nah142_start : ∀ w, (nilAhead (Try.prog.types.size + Made.depth) 142 (.agg #[]) "alibi/object.start").run Try.prog w = .ok (some false) w := fun w => by kernel_rfl
theorem meth142_step : ∀ w, (method (Try.prog.types.size + Made.depth) 142 (.agg #[]) "alibi/object.step").run Try.prog w = .ok (144, .agg #[]) w := fun w => by kernel_rfl
theorem nah142_step : ∀ w, (nilAhead (Try.prog.types.size + Made.depth) 142 (.agg #[]) "alibi/object.step").run Try.prog w = .ok (some false) w := fun w => by kernel_rfl
theorem meth142_valid : ∀ w, (method (Try.prog.types.size + Made.depth) 142 (.agg #[]) "alibi/object.valid").run Try.prog w = .ok (143, .agg #[]) w := fun w => by kernel_rfl
theorem nah142_valid : ∀ w, (nilAhead (Try.prog.types.size + Made.depth) 142 (.agg #[]) "alibi/object.valid").run Try.prog w = .ok (some false) w := fun w => by kernel_rfl
theorem meth145_start : ∀ w, (method (Try.prog.types.size + Made.depth) 145 (.agg #[]) "alibi/object.start").run Try.prog w = .ok (145, .agg #[]) w := fun w => by kernel_rfl
theorem nah145_start : ∀ w, (nilAhead (Try.prog.types.size + Made.depth) 145 (.agg #[]) "alibi/object.start").run Try.prog w = .ok (some false) w := fun w => by kernel_rfl
theorem meth145_step : ∀ w, (method (Try.prog.types.size + Made.depth) 145 (.agg #[]) "alibi/object.step").run Try.prog w = .ok (148, .agg #[]) w := fun w => by kernel_rfl
theorem nah145_step : ∀ w, (nilAhead (Try.prog.types.size + Made.depth) 145 (.agg #[]) "alibi/object.step").run Try.prog w = .ok (some false) w := fun w => by kernel_rfl
theorem meth145_valid : ∀ w, (method (Try.prog.types.size + Made.depth) 145 (.agg #[]) "alibi/object.valid").run Try.prog w = .ok (146, .agg #[]) w := fun w => by kernel_rfl
theorem nah145_valid : ∀ w, (nilAhead (Try.prog.types.size + Made.depth) 145 (.agg #[]) "alibi/object.valid").run Try.prog w = .ok (some false) w := fun w => by kernel_rfl
theorem meth146_start : ∀ w, (method (Try.prog.types.size + Made.depth) 146 (.agg #[]) "alibi/object.start").run Try.prog w = .ok (145, .agg #[]) w := fun w => by kernel_rfl
theorem nah146_start : ∀ w, (nilAhead (Try.prog.types.size + Made.depth) 146 (.agg #[]) "alibi/object.start").run Try.prog w = .ok (some false) w := fun w => by kernel_rfl
theorem meth146_step : ∀ w, (method (Try.prog.types.size + Made.depth) 146 (.agg #[]) "alibi/object.step").run Try.prog w = .ok (150, .agg #[]) w := fun w => by kernel_rfl
theorem nah146_step : ∀ w, (nilAhead (Try.prog.types.size + Made.depth) 146 (.agg #[]) "alibi/object.step").run Try.prog w = .ok (some false) w := fun w => by kernel_rfl
theorem meth146_valid : ∀ w, (method (Try.prog.types.size + Made.depth) 146 (.agg #[]) "alibi/object.valid").run Try.prog w = .ok (146, .agg #[]) w := fun w => by kernel_rfl
theorem nah146_valid : ∀ w, (nilAhead (Try.prog.types.size + Made.depth) 146 (.agg #[]) "alibi/object.valid").run Try.prog w = .ok (some false) w := fun w => by kernel_rfl
theorem meth147_start : ∀ w, (method (Try.prog.types.size + Made.depth) 147 (.agg #[]) "alibi/object.start").run Try.prog w = .ok (145, .agg #[]) w := fun w => by kernel_rfl
theorem nah147_start : ∀ w, (nilAhead (Try.prog.types.size + Made.depth) 147 (.agg #[]) "alibi/object.start").run Try.prog w = .ok (some false) w := fun w => by kernel_rfl
theorem meth147_step : ∀ w, (method (Try.prog.types.size + Made.depth) 147 (.agg #[]) "alibi/object.step").run Try.prog w = .ok (151, .agg #[]) w := fun w => by kernel_rfl
theorem nah147_step : ∀ w, (nilAhead (Try.prog.types.size + Made.depth) 147 (.agg #[]) "alibi/object.step").run Try.prog w = .ok (some false) w := fun w => by kernel_rfl
theorem meth147_valid : ∀ w, (method (Try.prog.types.size + Made.depth) 147 (.agg #[]) "alibi/object.valid").run Try.prog w = .ok (152, .agg #[]) w := fun w => by kernel_rfl
theorem nah147_valid : ∀ w, (nilAhead (Try.prog.types.size + Made.depth) 147 (.agg #[]) "alibi/object.valid").run Try.prog w = .ok (some false) w := fun w => by kernel_rfl
theorem meth148_start : ∀ w, (method (Try.prog.types.size + Made.depth) 148 (.agg #[]) "alibi/object.start").run Try.prog w = .ok (142, .agg #[]) w := fun w => by kernel_rfl
theorem nah148_start : ∀ w, (nilAhead (Try.prog.types.size + Made.depth) 148 (.agg #[]) "alibi/object.start").run Try.prog w = .ok (some false) w := fun w => by kernel_rfl
theorem meth148_step : ∀ w, (method (Try.prog.types.size + Made.depth) 148 (.agg #[]) "alibi/object.step").run Try.prog w = .ok (162, .agg #[]) w := fun w => by kernel_rfl
theorem nah148_step : ∀ w, (nilAhead (Try.prog.types.size + Made.depth) 148 (.agg #[]) "alibi/object.step").run Try.prog w = .ok (some false) w := fun w => by kernel_rfl
theorem meth148_valid : ∀ w, (method (Try.prog.types.size + Made.depth) 148 (.agg #[]) "alibi/object.valid").run Try.prog w = .ok (143, .agg #[]) w := fun w => by kernel_rfl
theorem nah148_valid : ∀ w, (nilAhead (Try.prog.types.size + Made.depth) 148 (.agg #[]) "alibi/object.valid").run Try.prog w = .ok (some false) w := fun w => by kernel_rfl
def object_of (N : Nat) (typ1 : Int) : Option Int :=
  cond (decide (typ1 = 1))
    (some 142)
    (cond (decide (typ1 = 2))
      (some 145)
      (cond (decide (typ1 = 3))
        (some 146)
        (cond (decide (typ1 = 4))
          (some 147)
          (cond (decide (typ1 = 5))
            (some 148)
            (some 0)))))

theorem object_of_ok {N : Nat} {typ1 : Int} {res : Int} (hF : object_of N typ1 = some res) (w : World) :
    Pure Try.prog 46 [.int .i64 typ1] w ((ifV res)) := by
  refine W.enter (n := 24) Try.func46 rfl rfl Sub.refl (by simp) (St.start w) fun R hR => ?_
  unfold object_of at hF
  refine W.seqR fun Q1 hQ1 => ?_
  refine WL.q (Y.assign (.pl rfl)) rfl ?_
  refine WL.next hQ1 (.cons (i := 0) rfl (.nil)) ?_
  refine W.seq fun K2 hK2 => ?_
  refine W.seqR fun Q3 hQ3 => ?_
  refine WL.q (Y.move (.pl rfl)) rfl ?_
  refine WL.next hQ3 (.cons (i := 3) rfl (.nil)) ?_
  refine W.block ?_
  refine W.seqR fun Q4 hQ4 => ?_
  refine WL.q (Y.eql (.pl rfl) (.pl rfl)) rfl ?_
  refine WL.q (Y.assign (.pl rfl)) rfl ?_
  refine WL.next hQ4 (.cons (i := 3) rfl (.cons (i := 4) rfl (.nil))) ?_
  refine W.cond (.pl rfl) (fun hC5 => ?_) (fun hC5 => ?_)
  · replace hF := cpos hC5 hF
    refine W.seqR fun Q6 hQ6 => ?_
    refine WL.q (Y.build0 Try.underlying142 zero142 (by kernel_rfl)) rfl ?_
    refine WL.q (Y.mkI Try.underlying142 rfl (.pl rfl)) rfl ?_
    refine WL.q (Y.assign (.pl rfl)) rfl ?_
    refine WL.next hQ6 (.cons (i := 2) rfl (.nil)) ?_
    obtain rfl := Option.some.inj hF
    refine W.retV (fn := Try.f46) (vs := [(ifV 142)]) Try.results46 ⟨.tmp rfl, trivial⟩ (fun _ _ h => h) (fun wz hw => ?_)
    exact hR _ _ ⟨rfl, (hw.pick [] rfl)⟩
  · replace hF := cneg hC5 hF
    refine W.seqR fun Q7 hQ7 => ?_
    refine WL.q (Y.eql (.pl rfl) (.pl rfl)) rfl ?_
    refine WL.q (Y.assign (.pl rfl)) rfl ?_
    refine WL.next hQ7 (.cons (i := 3) rfl (.cons (i := 8) rfl (.nil))) ?_
    refine W.cond (.pl rfl) (fun hC8 => ?_) (fun hC8 => ?_)
    · replace hF := cpos hC8 hF
      refine W.seqR fun Q9 hQ9 => ?_
      refine WL.q (Y.build0 Try.underlying145 zero145 (by kernel_rfl)) rfl ?_
      refine WL.q (Y.mkI Try.underlying145 rfl (.pl rfl)) rfl ?_
      refine WL.q (Y.assign (.pl rfl)) rfl ?_
      refine WL.next hQ9 (.cons (i := 2) rfl (.nil)) ?_
      obtain rfl := Option.some.inj hF
      refine W.retV (fn := Try.f46) (vs := [(ifV 145)]) Try.results46 ⟨.tmp rfl, trivial⟩ (fun _ _ h => h) (fun wz hw => ?_)
      exact hR _ _ ⟨rfl, (hw.pick [] rfl)⟩
    · replace hF := cneg hC8 hF
      refine W.seqR fun Q10 hQ10 => ?_
      refine WL.q (Y.eql (.pl rfl) (.pl rfl)) rfl ?_
      refine WL.q (Y.assign (.pl rfl)) rfl ?_
      refine WL.next hQ10 (.cons (i := 3) rfl (.cons (i := 12) rfl (.nil))) ?_
      refine W.cond (.pl rfl) (fun hC11 => ?_) (fun hC11 => ?_)
      · replace hF := cpos hC11 hF
        refine W.seqR fun Q12 hQ12 => ?_
        refine WL.q (Y.build0 Try.underlying146 zero146 (by kernel_rfl)) rfl ?_
        refine WL.q (Y.mkI Try.underlying146 rfl (.pl rfl)) rfl ?_
        refine WL.q (Y.assign (.pl rfl)) rfl ?_
        refine WL.next hQ12 (.cons (i := 2) rfl (.nil)) ?_
        obtain rfl := Option.some.inj hF
        refine W.retV (fn := Try.f46) (vs := [(ifV 146)]) Try.results46 ⟨.tmp rfl, trivial⟩ (fun _ _ h => h) (fun wz hw => ?_)
        exact hR _ _ ⟨rfl, (hw.pick [] rfl)⟩
      · replace hF := cneg hC11 hF
        refine W.seqR fun Q13 hQ13 => ?_
        refine WL.q (Y.eql (.pl rfl) (.pl rfl)) rfl ?_
        refine WL.q (Y.assign (.pl rfl)) rfl ?_
        refine WL.next hQ13 (.cons (i := 3) rfl (.cons (i := 16) rfl (.nil))) ?_
        refine W.cond (.pl rfl) (fun hC14 => ?_) (fun hC14 => ?_)
        · replace hF := cpos hC14 hF
          refine W.seqR fun Q15 hQ15 => ?_
          refine WL.q (Y.build0 Try.underlying147 zero147 (by kernel_rfl)) rfl ?_
          refine WL.q (Y.mkI Try.underlying147 rfl (.pl rfl)) rfl ?_
          refine WL.q (Y.assign (.pl rfl)) rfl ?_
          refine WL.next hQ15 (.cons (i := 2) rfl (.nil)) ?_
          obtain rfl := Option.some.inj hF
          refine W.retV (fn := Try.f46) (vs := [(ifV 147)]) Try.results46 ⟨.tmp rfl, trivial⟩ (fun _ _ h => h) (fun wz hw => ?_)
          exact hR _ _ ⟨rfl, (hw.pick [] rfl)⟩
        · replace hF := cneg hC14 hF
          refine W.seqR fun Q16 hQ16 => ?_
          refine WL.q (Y.eql (.pl rfl) (.pl rfl)) rfl ?_
          refine WL.q (Y.assign (.pl rfl)) rfl ?_
          refine WL.next hQ16 (.cons (i := 20) rfl (.nil)) ?_
          refine W.cond (.pl rfl) (fun hC17 => ?_) (fun hC17 => ?_)
          · replace hF := cpos hC17 hF
            refine W.seqR fun Q18 hQ18 => ?_
            refine WL.q (Y.build0 Try.underlying148 zero148 (by kernel_rfl)) rfl ?_
            refine WL.q (Y.mkI Try.underlying148 rfl (.pl rfl)) rfl ?_
            refine WL.q (Y.assign (.pl rfl)) rfl ?_
            refine WL.next hQ18 (.cons (i := 2) rfl (.nil)) ?_
            obtain rfl := Option.some.inj hF
            refine W.retV (fn := Try.f46) (vs := [(ifV 148)]) Try.results46 ⟨.tmp rfl, trivial⟩ (fun _ _ h => h) (fun wz hw => ?_)
            exact hR _ _ ⟨rfl, (hw.pick [] rfl)⟩
          · replace hF := cneg hC17 hF
            refine W.skip ?_
            refine W.go hK2 (.nil) ?_
            refine W.seqR fun Q19 hQ19 => ?_
            refine WL.q (Y.assign (.pl rfl)) rfl ?_
            refine WL.next hQ19 (.cons (i := 2) rfl (.nil)) ?_
            obtain rfl := Option.some.inj hF
            refine W.retV (fn := Try.f46) (vs := [(ifV 0)]) Try.results46 ⟨.tmp rfl, trivial⟩ (fun _ _ h => h) (fun wz hw => ?_)
            exact hR _ _ ⟨rfl, (hw.pick [] rfl)⟩

def object_single_valid (N : Nat) (a1 : ObjectSingle) (s2 : (List Int)) : Option Bool :=
  bd ((cond ((decide (((s2).length : Int) = 1)) == true) (ix s2 0) (some 0))) fun (x8 : Int) =>
  bd ((cond (((decide (((s2).length : Int) = 1)) && (decide (0 ≤ x8))) == true) (ix s2 0) (some 0))) fun (x9 : Int) =>
  some (((decide (((s2).length : Int) = 1)) && (decide (0 ≤ x8))) && (decide (x9 ≤ 1000)))

theorem object_single_valid_ok {N : Nat} {a1 : ObjectSingle} {s2 : (List Int)} {res : Bool} (hF : object_single_valid N a1 s2 = some res) (w : World) {v6 : Value} (hs5 : SlIn (eI .i64) 1 w v6 s2) :
    Pure Try.prog 143 [.agg (encObjectSingle a1).toArray, v6] w (.bool res) := by
  obtain ⟨A3, c4, rfl, hcc4, hs5⟩ := hs5.form
  refine W.enter (n := 20) Try.func143 rfl rfl Sub.refl (by simp) (St.start w) fun R hR => ?_
  unfold object_single_valid at hF
  refine W.seqR fun Q1 hQ1 => ?_
  refine WL.step (WO.boxA (.pl rfl) rfl fun b7 => ?_)
  refine WL.q (Y.assign (.pl rfl)) rfl ?_
  refine WL.next hQ1 (.cons (i := 1) rfl (.nil)) ?_
  refine W.seqR fun Q2 hQ2 => ?_
  refine WL.q (Y.move (.pl rfl)) rfl ?_
  refine WL.q (Y.len Try.underlying23 (.pl rfl)) rfl ?_
  refine WL.q (Y.eql (.pl rfl) (.pl rfl)) rfl ?_
  refine WL.q (Y.move (.pl rfl)) rfl ?_
  refine WL.g (.pl rfl rfl rfl) (fun hg => Y.move (.pl rfl)) rfl ?_
  obtain ⟨x8, hx8, hF⟩ := bnd hF
  refine WL.g (.pl rfl rfl rfl) (fun hg => Y.slEl Try.underlying23 cells3 hs5 (.gd (hg) rfl) (.pl rfl) (ix_lt (gpos hg hx8))) rfl ?_
  refine WL.g (.pl rfl rfl rfl) (fun hg => Y.loadS (enc := (eI .i64)) (v := .int .i64 x8) (j := 0) Try.underlying3 rfl hs5 (.gd (hg) rfl) (gpos hg hx8) rfl rfl) rfl ?_
  refine WL.g (.pl rfl rfl rfl) (fun hg => Y.geq (.gd (hg) rfl) (.pl rfl)) rfl ?_
  refine WL.q (Y.and (.pl rfl) (fun h2 => .gd (eqt h2) rfl)) rfl ?_
  refine WL.q (Y.move (.pl rfl)) rfl ?_
  refine WL.g (.pl rfl rfl rfl) (fun hg => Y.move (.pl rfl)) rfl ?_
  obtain ⟨x9, hx9, hF⟩ := bnd hF
  refine WL.g (.pl rfl rfl rfl) (fun hg => Y.slEl Try.underlying23 cells3 hs5 (.gd (hg) rfl) (.pl rfl) (ix_lt (gpos hg hx9))) rfl ?_
  refine WL.g (.pl rfl rfl rfl) (fun hg => Y.loadS (enc := (eI .i64)) (v := .int .i64 x9) (j := 0) Try.underlying3 rfl hs5 (.gd (hg) rfl) (gpos hg hx9) rfl rfl) rfl ?_
  refine WL.g (.pl rfl rfl rfl) (fun hg => Y.leq (.gd (hg) rfl) (.pl rfl)) rfl ?_
  refine WL.q (Y.and (.pl rfl) (fun h2 => .gd (eqt h2) rfl)) rfl ?_
  refine WL.q (Y.assign (.pl rfl)) rfl ?_
  refine WL.next hQ2 (.cons (i := 4) rfl (.nil)) ?_
  obtain rfl := Option.some.inj hF
  refine W.retV (fn := Try.f143) (vs := [.bool (((decide (((s2).length : Int) = 1)) && (decide (0 ≤ x8))) && (decide (x9 ≤ 1000)))]) Try.results143 ⟨.tmp rfl, trivial⟩ (fun _ _ h => h) (fun wz hw => ?_)
  exact hR _ _ ⟨rfl, (hw.pick [] rfl)⟩

def object_many_valid_1 (N : Nat) (n1 : Int) : Option Unit :=
  some ()

theorem object_many_valid_1_ok {N : Nat} {n1 : Int} {res : Unit} (hF : object_many_valid_1 N n1 = some res) (w : World) :
    Pure Try.prog 147 [.int .i64 n1] w (.bool ((decide (n1 < 1)) || (decide (1000 < n1)))) := by
  refine W.enter (n := 9) Try.func147 rfl rfl Sub.refl (by simp) (St.start w) fun R hR => ?_
  unfold object_many_valid_1 at hF
  refine W.seqR fun Q1 hQ1 => ?_
  refine WL.q (Y.assign (.pl rfl)) rfl ?_
  refine WL.next hQ1 (.cons (i := 0) rfl (.nil)) ?_
  refine W.seqR fun Q2 hQ2 => ?_
  refine WL.q (Y.move (.pl rfl)) rfl ?_
  refine WL.q (Y.lss (.pl rfl) (.pl rfl)) rfl ?_
  refine WL.q (Y.move (.pl rfl)) rfl ?_
  refine WL.g (.pl rfl rfl rfl) (fun hg => Y.move (.pl rfl)) rfl ?_
  refine WL.g (.pl rfl rfl rfl) (fun hg => Y.gtr (.gd (hg) rfl) (.pl rfl)) rfl ?_
  refine WL.q (Y.or (.pl rfl) (fun h2 => .gd (eqf h2) rfl)) rfl ?_
  refine WL.q (Y.assign (.pl rfl)) rfl ?_
  refine WL.next hQ2 (.cons (i := 2) rfl (.nil)) ?_
  obtain rfl := Option.some.inj hF
  refine W.retV (fn := Try.f147) (vs := [.bool ((decide (n1 < 1)) || (decide (1000 < n1)))]) Try.results147 ⟨.tmp rfl, trivial⟩ (fun _ _ h => h) (fun wz hw => ?_)
  exact hR _ _ ⟨rfl, (hw.pick [] rfl)⟩

def slices_IndexFunc_int_int_1_L3 (N : Nat) (s1 : (List Int)) : Int → Option (Int ⊕ (Unit ⊕ Int))
  | v6 =>
    cond (decide (v6 < ((s1).length : Int)))
      (bd (ix s1 v6) fun (x7 : Int) =>
      bd (object_many_valid_1 N x7) fun (r8 : Unit) =>
      cond ((decide (x7 < 1)) || (decide (1000 < x7)))
        (some (.inr (.inr v6)))
        (ck (ok64 (v6 + 1)) <|
        some (.inl (v6 + 1))))
      (some (.inr (.inl ())))

def slices_IndexFunc_int_int_1 (N : Nat) (s1 : (List Int)) : Option Int :=
  bd (α := (Unit ⊕ Int)) (iter (slices_IndexFunc_int_int_1_L3 N s1) N 0) <|
  Sum.elim (fun _ => 
    some (-1)) (fun p => some p)

theorem slices_IndexFunc_int_int_1_ok {N : Nat} {s1 : (List Int)} {res : Int} (hF : slices_IndexFunc_int_int_1 N s1 = some res) (w : World) {v5 : Value} (hs4 : SlIn (eI .i64) 1 w v5 s1) :
    Pure Try.prog 89 [v5, .func (.func 147) #[] #[]] w (.int .i64 res) := by
  obtain ⟨A2, c3, rfl, hcc3, hs4⟩ := hs4.form
  refine W.enter (n := 19) Try.func89 rfl rfl Sub.refl (by simp) (St.start w) fun R hR => ?_
  unfold slices_IndexFunc_int_int_1 at hF
  refine W.seqR fun Q1 hQ1 => ?_
  refine WL.q (Y.assign (.pl rfl)) rfl ?_
  refine WL.next hQ1 (.cons (i := 0) rfl (.cons (i := 1) rfl (.nil))) ?_
  obtain ⟨o2, hF2, hF⟩ := bnd hF
  refine W.join0 (Em := []) (M := []) (I := (.inl ()) = o2) (.nil) (fun K3 hK3 => ?_) ?_
  · -- up to
    refine W.seqR fun Q4 hQ4 => ?_
    refine WL.q (Y.move (.pl rfl)) rfl ?_
    refine WL.q (Y.len Try.underlying23 (.pl rfl)) rfl ?_
    refine WL.q (Y.move (.pl rfl)) rfl ?_
    refine WL.next hQ4 (.cons (i := 0) rfl (.cons (i := 1) rfl (.cons (i := 7) rfl (.cons (i := 8) rfl (.nil))))) ?_
    refine W.block ?_
    refine W.loop1 (Em := fun (v6 : Int) => [(8, .int .i64 v6)]) (M := fun v6 => []) (I := fun v6 k5 => iter (slices_IndexFunc_int_int_1_L3 N s1) k5 v6 = some o2) 0 N (hF2) (.cons rfl (.nil)) (.cons (i := 0) rfl (.cons (i := 1) rfl (.cons (i := 7) rfl (.nil)))) (fun wz hw => hw.pick [] rfl) (fun v6 k5 hI K6 hK6 => ?_)
    obtain ⟨k5, t5, rfl, hF5, hN5⟩ := iter_step hI
    refine W.seqR fun Q7 hQ7 => ?_
    refine WL.q (Y.lss (.pl rfl) (.pl rfl)) rfl ?_
    refine WL.next hQ7 (.cons (i := 0) rfl (.cons (i := 1) rfl (.cons (i := 7) rfl (.cons (i := 8) rfl (.cons (i := 9) rfl (.nil)))))) ?_
    refine W.seq fun K8 hK8 => ?_
    refine W.cond (.pl rfl) (fun hC9 => ?_) (fun hC9 => ?_)
    · replace hF5 := cpos hC9 hF5
      refine W.skip ?_
      refine W.go hK8 (.cons (i := 0) rfl (.cons (i := 1) rfl (.cons (i := 7) rfl (.cons (i := 8) rfl (.nil))))) ?_
      refine W.seq fun K10 hK10 => ?_
      refine W.block ?_
      refine W.seqR fun Q11 hQ11 => ?_
      refine WL.q (Y.move (.pl rfl)) rfl ?_
      refine WL.q (Y.assign (.pl rfl)) rfl ?_
      refine WL.next hQ11 (.cons (i := 0) rfl (.cons (i := 1) rfl (.cons (i := 5) rfl (.cons (i := 7) rfl (.cons (i := 8) rfl (.nil)))))) ?_
      refine W.seqR fun Q12 hQ12 => ?_
      refine WL.q (Y.move (.pl rfl)) rfl ?_
      refine WL.q (Y.move (.pl rfl)) rfl ?_
      refine WL.q (Y.move (.pl rfl)) rfl ?_
      obtain ⟨x7, hx7, hF5⟩ := bnd hF5
      refine WL.q (Y.slEl Try.underlying23 cells3 hs4 (.pl rfl) (.pl rfl) (ix_lt (hx7))) rfl ?_
      refine WL.q (Y.loadS (enc := (eI .i64)) (v := .int .i64 x7) (j := 0) Try.underlying3 rfl hs4 (.pl rfl) (hx7) rfl rfl) rfl ?_
      obtain ⟨r8, hr8, hF5⟩ := bnd hF5
      refine WL.step (WO.callG (γ := Unit) (first := []) (cap := []) (fun g => .bool ((decide (x7 < 1)) || (decide (1000 < x7)))) (fun g => []) (fun g => True) isGo147 (.pl rfl) (.cons (.pl rfl) (.nil)) rfl (fun wz hw => (object_many_valid_1_ok (hr8) wz ).calls hw) ?_)
      rintro _ -
      refine WL.next hQ12 (.cons (i := 0) rfl (.cons (i := 1) rfl (.cons (i := 5) rfl (.cons (i := 7) rfl (.cons (i := 8) rfl (.cons (i := 16) rfl (.nil))))))) ?_
      refine W.cond (.pl rfl) (fun hC13 => ?_) (fun hC13 => ?_)
      · replace hF5 := cpos hC13 hF5
        refine W.seqR fun Q14 hQ14 => ?_
        refine WL.q (Y.move (.pl rfl)) rfl ?_
        refine WL.q (Y.assign (.pl rfl)) rfl ?_
        refine WL.next hQ14 (.cons (i := 4) rfl (.nil)) ?_
        obtain rfl := Option.some.inj hF5
        obtain rfl := einr hN5
        obtain rfl := Option.some.inj hF
        refine W.retV (fn := Try.f89) (vs := [.int .i64 v6]) Try.results89 ⟨.tmp rfl, trivial⟩ (fun _ _ h => h) (fun wz hw => ?_)
        exact hR _ _ ⟨rfl, (hw.pick [] rfl)⟩
      · replace hF5 := cneg hC13 hF5
        refine W.skip ?_
        refine W.go hK10 (.cons (i := 0) rfl (.cons (i := 1) rfl (.cons (i := 7) rfl (.cons (i := 8) rfl (.nil))))) ?_
        refine W.reg ?_
        obtain ⟨hk9, hF5⟩ := ckh hF5
        refine WL.q (Y.add (.pl rfl) (.pl rfl) (ok64_lt (hk9))) rfl ?_
        refine WL.q (Y.move (.pl rfl)) rfl ?_
        refine WL.nil ?_
        obtain rfl := Option.some.inj hF5
        exact W.again1 hK6 (v6 + 1) k5 hN5 (Nat.lt_succ_self _) (.cons rfl (.nil)) (.cons (i := 0) rfl (.cons (i := 1) rfl (.cons (i := 7) rfl (.nil)))) (fun wz hw => hw.pick [] rfl)
    · replace hF5 := cneg hC9 hF5
      refine W.exit ?_
      obtain rfl := Option.some.inj hF5
      exact W.joinAt0 hK3  (einr hN5) (.nil) (.nil) (fun wz hw => hw.pick [] rfl)
  · -- behind
    rintro  rfl
    refine W.seqR fun Q16 hQ16 => ?_
    refine WL.q (Y.assign (.pl rfl)) rfl ?_
    refine WL.next hQ16 (.cons (i := 4) rfl (.nil)) ?_
    obtain rfl := Option.some.inj hF
    refine W.retV (fn := Try.f89) (vs := [.int .i64 (-1)]) Try.results89 ⟨.tmp rfl, trivial⟩ (fun _ _ h => h) (fun wz hw => ?_)
    exact hR _ _ ⟨rfl, (hw.pick [] rfl)⟩

def slices_ContainsFunc_int_int_1 (N : Nat) (s1 : (List Int)) : Option Bool :=
  bd (slices_IndexFunc_int_int_1 N s1) fun (r6 : Int) =>
  some (decide (0 ≤ r6))

theorem slices_ContainsFunc_int_int_1_ok {N : Nat} {s1 : (List Int)} {res : Bool} (hF : slices_ContainsFunc_int_int_1 N s1 = some res) (w : World) {v5 : Value} (hs4 : SlIn (eI .i64) 1 w v5 s1) :
    Pure Try.prog 61 [v5, .func (.func 147) #[] #[]] w (.bool res) := by
  obtain ⟨A2, c3, rfl, hcc3, hs4⟩ := hs4.form
  refine W.enter (n := 9) Try.func61 rfl rfl Sub.refl (by simp) (St.start w) fun R hR => ?_
  unfold slices_ContainsFunc_int_int_1 at hF
  refine W.seqR fun Q1 hQ1 => ?_
  refine WL.q (Y.assign (.pl rfl)) rfl ?_
  refine WL.next hQ1 (.cons (i := 0) rfl (.cons (i := 1) rfl (.nil))) ?_
  refine W.seqR fun Q2 hQ2 => ?_
  refine WL.q (Y.move (.pl rfl)) rfl ?_
  refine WL.q (Y.move (.pl rfl)) rfl ?_
  obtain ⟨r6, hr6, hF⟩ := bnd hF
  refine WL.step (WO.callP isGo89 (.cons (.pl rfl) (.cons (.pl rfl) (.nil))) rfl (fun wz hw => slices_IndexFunc_int_int_1_ok (hr6) wz (hs4.mono hw)) ?_)
  refine WL.q (Y.geq (.pl rfl) (.pl rfl)) rfl ?_
  refine WL.q (Y.assign (.pl rfl)) rfl ?_
  refine WL.next hQ2 (.cons (i := 4) rfl (.nil)) ?_
  obtain rfl := Option.some.inj hF
  refine W.retV (fn := Try.f61) (vs := [.bool (decide (0 ≤ r6))]) Try.results61 ⟨.tmp rfl, trivial⟩ (fun _ _ h => h) (fun wz hw => ?_)
  exact hR _ _ ⟨rfl, (hw.pick [] rfl)⟩

def object_many_valid (N : Nat) (a1 : ObjectSingle) (s2 : (List Int)) : Option Bool :=
  bd (slices_ContainsFunc_int_int_1 N s2) fun (r8 : Bool) =>
  some (!r8)

theorem object_many_valid_ok {N : Nat} {a1 : ObjectSingle} {s2 : (List Int)} {res : Bool} (hF : object_many_valid N a1 s2 = some res) (w : World) {v6 : Value} (hs5 : SlIn (eI .i64) 1 w v6 s2) :
    Pure Try.prog 146 [.agg (encObjectSingle a1).toArray, v6] w (.bool res) := by
  obtain ⟨A3, c4, rfl, hcc4, hs5⟩ := hs5.form
  refine W.enter (n := 8) Try.func146 rfl rfl Sub.refl (by simp) (St.start w) fun R hR => ?_
  unfold object_many_valid at hF
  refine W.seqR fun Q1 hQ1 => ?_
  refine WL.step (WO.boxA (.pl rfl) rfl fun b7 => ?_)
  refine WL.q (Y.assign (.pl rfl)) rfl ?_
  refine WL.next hQ1 (.cons (i := 1) rfl (.nil)) ?_
  refine W.seqR fun Q2 hQ2 => ?_
  refine WL.q (Y.move (.pl rfl)) rfl ?_
  obtain ⟨r8, hr8, hF⟩ := bnd hF
  refine WL.step (WO.callP isGo61 (.cons (.pl rfl) (.cons (.pl rfl) (.nil))) rfl (fun wz hw => slices_ContainsFunc_int_int_1_ok (hr8) wz (hs5.mono hw)) ?_)
  refine WL.q (Y.not (.pl rfl)) rfl ?_
  refine WL.q (Y.assign (.pl rfl)) rfl ?_
  refine WL.next hQ2 (.cons (i := 4) rfl (.nil)) ?_
  obtain rfl := Option.some.inj hF
  refine W.retV (fn := Try.f146) (vs := [.bool (!r8)]) Try.results146 ⟨.tmp rfl, trivial⟩ (fun _ _ h => h) (fun wz hw => ?_)
  exact hR _ _ ⟨rfl, (hw.pick [] rfl)⟩

def object_set_valid_L3 (N : Nat) (s2 : (List Int)) : Int → Option (Int ⊕ (Unit ⊕ Bool))
  | i8 =>
    cond (decide (i8 < ((s2).length : Int)))
      (ck (ok64 (i8 - 1)) <|
      bd (ix s2 (i8 - 1)) fun (x10 : Int) =>
      bd (ix s2 i8) fun (x11 : Int) =>
      cond (decide (x11 ≤ x10))
        (some (.inr (.inr false)))
        (ck (ok64 (i8 + 1)) <|
        some (.inl (i8 + 1))))
      (some (.inr (.inl ())))

def object_set_valid (N : Nat) (x1 : ObjectSet) (s2 : (List Int)) : Option Bool :=
  bd (α := (Unit ⊕ Bool)) (iter (object_set_valid_L3 N s2) N 1) <|
  Sum.elim (fun _ => 
    bd (object_many_valid N x1.many s2) fun (r13 : Bool) =>
    some r13) (fun p => some p)

theorem object_set_valid_ok {N : Nat} {x1 : ObjectSet} {s2 : (List Int)} {res : Bool} (hF : object_set_valid N x1 s2 = some res) (w : World) {v6 : Value} (hs5 : SlIn (eI .i64) 1 w v6 s2) :
    Pure Try.prog 152 [.agg (encObjectSet x1).toArray, v6] w (.bool res) := by
  obtain ⟨A3, c4, rfl, hcc4, hs5⟩ := hs5.form
  refine W.enter (n := 26) Try.func152 rfl rfl Sub.refl (by simp) (St.start w) fun R hR => ?_
  unfold object_set_valid at hF
  refine W.seqR fun Q1 hQ1 => ?_
  refine WL.step (WO.boxA (.pl rfl) rfl fun b7 => ?_)
  refine WL.q (Y.assign (.pl rfl)) rfl ?_
  refine WL.next hQ1 (.cons (i := 1) rfl (.cons (i := 2) rfl (.nil))) ?_
  obtain ⟨o2, hF2, hF⟩ := bnd hF
  refine W.join0 (Em := []) (M := [cBx b7 147 (encObjectSet x1)]) (I := (.inl ()) = o2) (.cons (i := 1) rfl (.cons (i := 2) rfl (.nil))) (fun K3 hK3 => ?_) ?_
  · -- up to
    refine W.seqR fun Q4 hQ4 => ?_
    refine WL.q (Y.assign (.pl rfl)) rfl ?_
    refine WL.next hQ4 (.cons (i := 1) rfl (.cons (i := 2) rfl (.cons (i := 5) rfl (.nil)))) ?_
    refine W.block ?_
    refine W.loop1 (Em := fun (i8 : Int) => [(5, .int .i64 i8)]) (M := fun i8 => [cBx b7 147 (encObjectSet x1)]) (I := fun i8 k5 => iter (object_set_valid_L3 N s2) k5 i8 = some o2) 1 N (hF2) (.cons rfl (.nil)) (.cons (i := 1) rfl (.cons (i := 2) rfl (.nil))) (fun wz hw => hw.pick [0] rfl) (fun i8 k5 hI K6 hK6 => ?_)
    obtain ⟨k5, t5, rfl, hF5, hN5⟩ := iter_step hI
    refine W.seq fun K7 hK7 => ?_
    refine W.seqR fun Q8 hQ8 => ?_
    refine WL.q (Y.move (.pl rfl)) rfl ?_
    refine WL.q (Y.move (.pl rfl)) rfl ?_
    refine WL.q (Y.len Try.underlying23 (.pl rfl)) rfl ?_
    refine WL.q (Y.lss (.pl rfl) (.pl rfl)) rfl ?_
    refine WL.next hQ8 (.cons (i := 1) rfl (.cons (i := 2) rfl (.cons (i := 5) rfl (.cons (i := 9) rfl (.nil))))) ?_
    refine W.cond (.pl rfl) (fun hC9 => ?_) (fun hC9 => ?_)
    · replace hF5 := cpos hC9 hF5
      refine W.skip ?_
      refine W.go hK7 (.cons (i := 1) rfl (.cons (i := 2) rfl (.cons (i := 5) rfl (.nil)))) ?_
      refine W.seq fun K10 hK10 => ?_
      refine W.block ?_
      refine W.seqD (by kernel_rfl) (by kernel_rfl) fun R11 hR11 => ?_
      refine WD.q (Y.move (.pl rfl)) rfl ?_
      refine WD.q (Y.move (.pl rfl)) rfl ?_
      obtain ⟨hk9, hF5⟩ := ckh hF5
      refine WD.q (Y.sub (.pl rfl) (.pl rfl) (ok64_lt (hk9))) rfl ?_
      obtain ⟨x10, hx10, hF5⟩ := bnd hF5
      refine WD.q (Y.slEl Try.underlying23 cells3 hs5 (.pl rfl) (.pl rfl) (ix_lt (hx10))) rfl ?_
      refine WD.q (Y.loadS (enc := (eI .i64)) (v := .int .i64 x10) (j := 0) Try.underlying3 rfl hs5 (.pl rfl) (hx10) rfl rfl) rfl ?_
      refine WD.q (Y.move (.pl rfl)) rfl ?_
      refine WD.q (Y.move (.pl rfl)) rfl ?_
      obtain ⟨x11, hx11, hF5⟩ := bnd hF5
      refine WD.q (Y.slEl Try.underlying23 cells3 hs5 (.pl rfl) (.pl rfl) (ix_lt (hx11))) rfl ?_
      refine WD.q (Y.loadS (enc := (eI .i64)) (v := .int .i64 x11) (j := 0) Try.underlying3 rfl hs5 (.pl rfl) (hx11) rfl rfl) rfl ?_
      refine WD.q (Y.geq (.pl rfl) (.pl rfl)) rfl ?_
      refine WD.next hR11 (.cons (i := 1) rfl (.cons (i := 2) rfl (.cons (i := 5) rfl (.cons (i := 21) rfl (.nil))))) ?_
      refine W.cond (.pl rfl) (fun hC12 => ?_) (fun hC12 => ?_)
      · replace hF5 := cpos hC12 hF5
        refine W.seqR fun Q13 hQ13 => ?_
        refine WL.q (Y.assign (.pl rfl)) rfl ?_
        refine WL.next hQ13 (.cons (i := 4) rfl (.nil)) ?_
        obtain rfl := Option.some.inj hF5
        obtain rfl := einr hN5
        obtain rfl := Option.some.inj hF
        refine W.retV (fn := Try.f152) (vs := [.bool false]) Try.results152 ⟨.tmp rfl, trivial⟩ (fun _ _ h => h) (fun wz hw => ?_)
        exact hR _ _ ⟨rfl, (hw.pick [] rfl)⟩
      · replace hF5 := cneg hC12 hF5
        refine W.skip ?_
        refine W.go hK10 (.cons (i := 1) rfl (.cons (i := 2) rfl (.cons (i := 5) rfl (.nil)))) ?_
        refine W.reg ?_
        refine WL.q (Y.move (.pl rfl)) rfl ?_
        obtain ⟨hk12, hF5⟩ := ckh hF5
        refine WL.q (Y.add (.pl rfl) (.pl rfl) (ok64_lt (hk12))) rfl ?_
        refine WL.q (Y.assign (.pl rfl)) rfl ?_
        refine WL.nil ?_
        obtain rfl := Option.some.inj hF5
        exact W.again1 hK6 (i8 + 1) k5 hN5 (Nat.lt_succ_self _) (.cons rfl (.nil)) (.cons (i := 1) rfl (.cons (i := 2) rfl (.nil))) (fun wz hw => hw.pick [0] rfl)
    · replace hF5 := cneg hC9 hF5
      refine W.exit ?_
      obtain rfl := Option.some.inj hF5
      exact W.joinAt0 hK3  (einr hN5) (.nil) (.cons (i := 1) rfl (.cons (i := 2) rfl (.nil))) (fun wz hw => hw.pick [0] rfl)
  · -- behind
    rintro  rfl
    refine W.seqR fun Q15 hQ15 => ?_
    refine WL.q (Y.fieldAddrZ (ft := 143) Try.underlying147 rfl siz143 cel147 (.pl rfl) (i' := 0) rfl) rfl ?_
    refine WL.q (Y.load0 Try.underlying143 siz143 (.pl rfl)) rfl ?_
    refine WL.q (Y.move (.pl rfl)) rfl ?_
    obtain ⟨r13, hr13, hF⟩ := bnd hF
    refine WL.step (WO.callP isGo146 (.cons (.pl rfl) (.cons (.pl rfl) (.nil))) rfl (fun wz hw => object_many_valid_ok (hr13) wz (hs5.mono hw)) ?_)
    refine WL.q (Y.assign (.pl rfl)) rfl ?_
    refine WL.next hQ15 (.cons (i := 4) rfl (.nil)) ?_
    obtain rfl := Option.some.inj hF
    refine W.retV (fn := Try.f152) (vs := [.bool r13]) Try.results152 ⟨.tmp rfl, trivial⟩ (fun _ _ h => h) (fun wz hw => ?_)
    exact hR _ _ ⟨rfl, (hw.pick [] rfl)⟩

def object_Check (N : Nat) (typ1 : Int) (s2 : (List Int)) : Option Int :=
  bd (object_of N typ1) fun (r7 : Int) =>
  cond (decide (r7 = 0))
    (some 1)
    (cond (decide (50 < ((s2).length : Int)))
      (some 2)
      (bd (α := Bool) (cond (decide (r7 = 142))
          (bd (object_single_valid N (ObjectSingle.mk ) s2) fun (r9 : Bool) =>
          some (!r9))
          (cond (decide (r7 = 145))
            (bd (object_many_valid N (ObjectSingle.mk ) s2) fun (r10 : Bool) =>
            some (!r10))
            (cond (decide (r7 = 146))
              (bd (object_many_valid N (ObjectSingle.mk ) s2) fun (r11 : Bool) =>
              some (!r11))
              (cond (decide (r7 = 147))
                (bd (object_set_valid N (ObjectSet.mk (ObjectSingle.mk )) s2) fun (r12 : Bool) =>
                some (!r12))
                (cond (decide (r7 = 148))
                  (bd (object_single_valid N (ObjectSingle.mk ) s2) fun (r13 : Bool) =>
                  some (!r13))
                  (none)))))) <|
      fun (v8 : Bool) => 
        cond v8
          (some 3)
          (some 0)))

theorem object_Check_ok {N : Nat} {typ1 : Int} {s2 : (List Int)} {res : Int} (hF : object_Check N typ1 s2 = some res) (w : World) {v6 : Value} (hs5 : SlIn (eI .i64) 1 w v6 s2) :
    Pure Try.prog 43 [.int .i64 typ1, v6] w (.int .i64 res) := by
  obtain ⟨A3, c4, rfl, hcc4, hs5⟩ := hs5.form
  refine W.enter (n := 20) Try.func43 rfl rfl Sub.refl (by simp) (St.start w) fun R hR => ?_
  unfold object_Check at hF
  refine W.seqR fun Q1 hQ1 => ?_
  refine WL.q (Y.assign (.pl rfl)) rfl ?_
  refine WL.next hQ1 (.cons (i := 0) rfl (.cons (i := 1) rfl (.nil))) ?_
  refine W.seqR fun Q2 hQ2 => ?_
  refine WL.q (Y.move (.pl rfl)) rfl ?_
  obtain ⟨r7, hr7, hF⟩ := bnd hF
  refine WL.step (WO.callP isGo46 (.cons (.pl rfl) (.nil)) rfl (fun wz hw => object_of_ok (hr7) wz ) ?_)
  refine WL.q (Y.assign (.pl rfl)) rfl ?_
  refine WL.next hQ2 (.cons (i := 1) rfl (.cons (i := 5) rfl (.nil))) ?_
  refine W.seq fun K3 hK3 => ?_
  refine W.block ?_
  refine W.seqR fun Q4 hQ4 => ?_
  refine WL.q (Y.move (.pl rfl)) rfl ?_
  refine WL.q (Y.eqNilI Try.underlying104 (.pl rfl)) rfl ?_
  refine WL.q (Y.assign (.pl rfl)) rfl ?_
  refine WL.next hQ4 (.cons (i := 1) rfl (.cons (i := 5) rfl (.cons (i := 8) rfl (.nil)))) ?_
  refine W.cond (.pl rfl) (fun hC5 => ?_) (fun hC5 => ?_)
  · replace hF := cpos hC5 hF
    refine W.seqR fun Q6 hQ6 => ?_
    refine WL.q (Y.assign (.pl rfl)) rfl ?_
    refine WL.next hQ6 (.cons (i := 4) rfl (.nil)) ?_
    obtain rfl := Option.some.inj hF
    refine W.retV (fn := Try.f43) (vs := [.int .i64 1]) Try.results43 ⟨.tmp rfl, trivial⟩ (fun _ _ h => h) (fun wz hw => ?_)
    exact hR _ _ ⟨rfl, (hw.pick [] rfl)⟩
  · replace hF := cneg hC5 hF
    refine W.seqR fun Q7 hQ7 => ?_
    refine WL.q (Y.move (.pl rfl)) rfl ?_
    refine WL.q (Y.len Try.underlying23 (.pl rfl)) rfl ?_
    refine WL.q (Y.gtr (.pl rfl) (.pl rfl)) rfl ?_
    refine WL.q (Y.assign (.pl rfl)) rfl ?_
    refine WL.next hQ7 (.cons (i := 1) rfl (.cons (i := 5) rfl (.cons (i := 11) rfl (.nil)))) ?_
    refine W.cond (.pl rfl) (fun hC8 => ?_) (fun hC8 => ?_)
    · replace hF := cpos hC8 hF
      refine W.seqR fun Q9 hQ9 => ?_
      refine WL.q (Y.assign (.pl rfl)) rfl ?_
      refine WL.next hQ9 (.cons (i := 4) rfl (.nil)) ?_
      obtain rfl := Option.some.inj hF
      refine W.retV (fn := Try.f43) (vs := [.int .i64 2]) Try.results43 ⟨.tmp rfl, trivial⟩ (fun _ _ h => h) (fun wz hw => ?_)
      exact hR _ _ ⟨rfl, (hw.pick [] rfl)⟩
    · replace hF := cneg hC8 hF
      obtain ⟨o10, hF10, hF⟩ := bnd hF
      refine W.join1 (Em := fun (v8 : Bool) => [(15, .bool v8)]) (M := fun v8 => []) (I := fun v8 => v8 = o10) (.nil) (fun K11 hK11 => ?_) ?_
      · -- up to
        refine W.reg ?_
        refine WL.q (Y.move (.pl rfl)) rfl ?_
        refine WL.q (Y.move (.pl rfl)) rfl ?_
        refine bsplit (decide (r7 = 142)) (fun hT12 => ?_) (fun hT12 => ?_)
        · replace hF10 := cpos hT12 hF10
          obtain ⟨r9, hr9, hF10⟩ := bnd hF10
          refine WL.step (WO.callI (γ := Unit) (u := .agg #[]) (v := .agg #[]) (fun g => .bool r9) (fun g => []) (fun g => True) meth142_valid isGo143 (Evs.ifE (k := 142) (of_decide_eq_true hT12) rfl (.pl rfl)) (.cons (.pl rfl) (.nil)) rfl (fun wz hw => (object_single_valid_ok (hr9) wz (hs5.mono hw)).calls hw) ?_)
          rintro _ -
          refine WL.q (Y.not (.pl rfl)) rfl ?_
          refine WL.q (Y.assign (.pl rfl)) rfl ?_
          refine WL.nil ?_
          exact W.joinAt1 hK11 (!r9) (Option.some.inj hF10) (.cons rfl (.nil)) (.nil) (fun wz hw => hw.pick [] rfl)
        · replace hF10 := cneg hT12 hF10
          refine bsplit (decide (r7 = 145)) (fun hT13 => ?_) (fun hT13 => ?_)
          · replace hF10 := cpos hT13 hF10
            obtain ⟨r10, hr10, hF10⟩ := bnd hF10
            refine WL.step (WO.callI (γ := Unit) (u := .agg #[]) (v := .agg #[]) (fun g => .bool r10) (fun g => []) (fun g => True) meth145_valid isGo146 (Evs.ifE (k := 145) (of_decide_eq_true hT13) rfl (.pl rfl)) (.cons (.pl rfl) (.nil)) rfl (fun wz hw => (object_many_valid_ok (hr10) wz (hs5.mono hw)).calls hw) ?_)
            rintro _ -
            refine WL.q (Y.not (.pl rfl)) rfl ?_
            refine WL.q (Y.assign (.pl rfl)) rfl ?_
            refine WL.nil ?_
            exact W.joinAt1 hK11 (!r10) (Option.some.inj hF10) (.cons rfl (.nil)) (.nil) (fun wz hw => hw.pick [] rfl)
          · replace hF10 := cneg hT13 hF10
            refine bsplit (decide (r7 = 146)) (fun hT14 => ?_) (fun hT14 => ?_)
            · replace hF10 := cpos hT14 hF10
              obtain ⟨r11, hr11, hF10⟩ := bnd hF10
              refine WL.step (WO.callI (γ := Unit) (u := .agg #[]) (v := .agg #[]) (fun g => .bool r11) (fun g => []) (fun g => True) meth146_valid isGo146 (Evs.ifE (k := 146) (of_decide_eq_true hT14) rfl (.pl rfl)) (.cons (.pl rfl) (.nil)) rfl (fun wz hw => (object_many_valid_ok (hr11) wz (hs5.mono hw)).calls hw) ?_)
              rintro _ -
              refine WL.q (Y.not (.pl rfl)) rfl ?_
              refine WL.q (Y.assign (.pl rfl)) rfl ?_
              refine WL.nil ?_
              exact W.joinAt1 hK11 (!r11) (Option.some.inj hF10) (.cons rfl (.nil)) (.nil) (fun wz hw => hw.pick [] rfl)
            · replace hF10 := cneg hT14 hF10
              refine bsplit (decide (r7 = 147)) (fun hT15 => ?_) (fun hT15 => ?_)
              · replace hF10 := cpos hT15 hF10
                obtain ⟨r12, hr12, hF10⟩ := bnd hF10
                refine WL.step (WO.callI (γ := Unit) (u := .agg #[]) (v := .agg #[]) (fun g => .bool r12) (fun g => []) (fun g => True) meth147_valid isGo152 (Evs.ifE (k := 147) (of_decide_eq_true hT15) rfl (.pl rfl)) (.cons (.pl rfl) (.nil)) rfl (fun wz hw => (object_set_valid_ok (hr12) wz (hs5.mono hw)).calls hw) ?_)
                rintro _ -
                refine WL.q (Y.not (.pl rfl)) rfl ?_
                refine WL.q (Y.assign (.pl rfl)) rfl ?_
                refine WL.nil ?_
                exact W.joinAt1 hK11 (!r12) (Option.some.inj hF10) (.cons rfl (.nil)) (.nil) (fun wz hw => hw.pick [] rfl)
              · replace hF10 := cneg hT15 hF10
                refine bsplit (decide (r7 = 148)) (fun hT16 => ?_) (fun hT16 => ?_)
                · replace hF10 := cpos hT16 hF10
                  obtain ⟨r13, hr13, hF10⟩ := bnd hF10
                  refine WL.step (WO.callI (γ := Unit) (u := .agg #[]) (v := .agg #[]) (fun g => .bool r13) (fun g => []) (fun g => True) meth148_valid isGo143 (Evs.ifE (k := 148) (of_decide_eq_true hT16) rfl (.pl rfl)) (.cons (.pl rfl) (.nil)) rfl (fun wz hw => (object_single_valid_ok (hr13) wz (hs5.mono hw)).calls hw) ?_)
                  rintro _ -
                  refine WL.q (Y.not (.pl rfl)) rfl ?_
                  refine WL.q (Y.assign (.pl rfl)) rfl ?_
                  refine WL.nil ?_
                  exact W.joinAt1 hK11 (!r13) (Option.some.inj hF10) (.cons rfl (.nil)) (.nil) (fun wz hw => hw.pick [] rfl)
                · replace hF10 := cneg hT16 hF10
                  exact nomatch hF10
      · -- behind
        rintro v8 rfl
        refine W.cond (.pl rfl) (fun hC17 => ?_) (fun hC17 => ?_)
        · replace hF := cpos hC17 hF
          refine W.seqR fun Q18 hQ18 => ?_
          refine WL.q (Y.assign (.pl rfl)) rfl ?_
          refine WL.next hQ18 (.cons (i := 4) rfl (.nil)) ?_
          obtain rfl := Option.some.inj hF
          refine W.retV (fn := Try.f43) (vs := [.int .i64 3]) Try.results43 ⟨.tmp rfl, trivial⟩ (fun _ _ h => h) (fun wz hw => ?_)
          exact hR _ _ ⟨rfl, (hw.pick [] rfl)⟩
        · replace hF := cneg hC17 hF
          refine W.skip ?_
          refine W.go hK3 (.nil) ?_
          refine W.seqR fun Q19 hQ19 => ?_
          refine WL.q (Y.assign (.pl rfl)) rfl ?_
          refine WL.next hQ19 (.cons (i := 4) rfl (.nil)) ?_
          obtain rfl := Option.some.inj hF
          refine W.retV (fn := Try.f43) (vs := [.int .i64 0]) Try.results43 ⟨.tmp rfl, trivial⟩ (fun _ _ h => h) (fun wz hw => ?_)
          exact hR _ _ ⟨rfl, (hw.pick [] rfl)⟩

def object_register_step (N : Nat) (a1 : ObjectRegister) (s4 : (List Int)) (kind5 : Int) (arg6 : Int) : Option ((List Int) × Int) :=
  cond (decide (kind5 = 1))
    (some (([arg6] : List Int), 0))
    (bd (ix s4 0) fun (x9 : Int) =>
    some (s4, x9))

theorem object_register_step_ok {N : Nat} {a1 : ObjectRegister} {s4 : (List Int)} {kind5 : Int} {arg6 : Int} {A2 : Option Addr} {c3 : Nat} {res : ((List Int) × Int)} (hF : object_register_step N a1 s4 kind5 arg6 = some res) {w0 w : World} {T : List Chunk} (hw : St w0.heap.size w0 ([cR (eI .i64) 1 A2 c3 3 s4] ++ T) w) :
    Calls Try.prog 144 (List.toArray [.agg (encObjectRegister a1).toArray, .slice A2 (s4).length c3, .int .i64 kind5, .int .i64 arg6]) w (fun e w' => ∃ g : (Option Addr × Nat), (True) ∧ e = .returned (.tuple #[.slice g.1 (res.1).length g.2, .int .i64 res.2, .int .i64 0]) ∧ St w0.heap.size w0 ([cR (eI .i64) 1 g.1 g.2 3 res.1] ++ T) w') := by
  refine W.enter (n := 19) Try.func144 rfl rfl Sub.refl (by simp) hw fun R hR => ?_
  unfold object_register_step at hF
  refine W.seqR fun Q1 hQ1 => ?_
  refine WL.step (WO.boxA (.pl rfl) rfl fun b7 => ?_)
  refine WL.q (Y.assign (.pl rfl)) rfl ?_
  refine WL.q (Y.assign (.pl rfl)) rfl ?_
  refine WL.q (Y.assign (.pl rfl)) rfl ?_
  refine WL.next hQ1 (.cons (i := 1) rfl (.cons (i := 2) rfl (.cons (i := 3) rfl (.nil)))) ?_
  refine W.seq fun K2 hK2 => ?_
  refine W.seqR fun Q3 hQ3 => ?_
  refine WL.q (Y.move (.pl rfl)) rfl ?_
  refine WL.q (Y.eql (.pl rfl) (.pl rfl)) rfl ?_
  refine WL.next hQ3 (.cons (i := 1) rfl (.cons (i := 3) rfl (.cons (i := 12) rfl (.nil)))) ?_
  refine W.cond (.pl rfl) (fun hC4 => ?_) (fun hC4 => ?_)
  · replace hF := cpos hC4 hF
    refine W.seqR fun Q5 hQ5 => ?_
    refine WL.q (Y.move (.pl rfl)) rfl ?_
    refine WL.step (WO.bsliceC (enc := (eI .i64)) (ys := ([arg6] : List Int)) Try.underlying23 bz3 (.cons (.pl rfl) (.nil)) rfl (fun _ => rfl) rfl rfl (by decide) (by decide) rfl fun b8 => ?_)
    refine WL.q (Y.assign (.pl rfl)) rfl ?_
    refine WL.q (Y.assign (.pl rfl)) rfl ?_
    refine WL.q (Y.assign (.pl rfl)) rfl ?_
    refine WL.next hQ5 (.cons (i := 8) rfl (.cons (i := 9) rfl (.cons (i := 10) rfl (.nil)))) ?_
    obtain rfl := Option.some.inj hF
    refine W.retV (fn := Try.f144) (vs := [.slice (some ⟨b8, 0, none⟩) (([arg6] : List Int)).length (([arg6] : List Int)).length, .int .i64 0, .int .i64 0]) Try.results144 ⟨.tmp rfl, ⟨.tmp rfl, ⟨.tmp rfl, trivial⟩⟩⟩ (fun _ _ h => h) (fun wz hw => ?_)
    exact hR _ _ ⟨((some ⟨b8, 0, none⟩), (([arg6] : List Int)).length), trivial, rfl, (hw.pickK 3 [0] rfl)⟩
  · replace hF := cneg hC4 hF
    refine W.skip ?_
    refine W.go hK2 (.cons (i := 1) rfl (.nil)) ?_
    refine W.seqD (by kernel_rfl) (by kernel_rfl) fun R6 hR6 => ?_
    refine WD.q (Y.move (.pl rfl)) rfl ?_
    refine WD.q (Y.move (.pl rfl)) rfl ?_
    obtain ⟨x9, hx9, hF⟩ := bnd hF
    refine WD.q (Y.rowEl Try.underlying23 cells3 (i := 1) rfl (.pl rfl) rfl (.pl rfl) (ix_lt (hx9))) rfl ?_
    refine WD.q (Y.loadR (enc := (eI .i64)) (v := .int .i64 x9) (a := x9) (idx := 0) (j := 0) Try.underlying3 rfl (fun _ => rfl) (i := 1) rfl (.pl rfl) (ix_get (hx9)) rfl rfl) rfl ?_
    refine WD.q (Y.assign (.pl rfl)) rfl ?_
    refine WD.q (Y.assign (.pl rfl)) rfl ?_
    refine WD.q (Y.assign (.pl rfl)) rfl ?_
    refine WD.next hR6 (.cons (i := 8) rfl (.cons (i := 9) rfl (.cons (i := 10) rfl (.nil)))) ?_
    obtain rfl := Option.some.inj hF
    refine W.retV (fn := Try.f144) (vs := [.slice A2 (s4).length c3, .int .i64 x9, .int .i64 0]) Try.results144 ⟨.tmp rfl, ⟨.tmp rfl, ⟨.tmp rfl, trivial⟩⟩⟩ (fun _ _ h => h) (fun wz hw => ?_)
    exact hR _ _ ⟨(A2, c3), trivial, rfl, (hw.pickK 2 [1] rfl)⟩

def object_many_put (N : Nat) (a1 : ObjectSingle) (s4 : (List Int)) (arg5 : Int) : Option ((List Int) × Int) :=
  cond (decide (((s4).length : Int) = 50))
    (some ([], 2))
    (ck (limB 8 ((s4).length + (([arg5] : List Int)).length)) <|
    some ((s4 ++ ([arg5] : List Int)), 0))

theorem object_many_put_ok {N : Nat} {a1 : ObjectSingle} {s4 : (List Int)} {arg5 : Int} {A2 : Option Addr} {c3 : Nat} {res : ((List Int) × Int)} (hF : object_many_put N a1 s4 arg5 = some res) {w0 w : World} {T : List Chunk} (hw : St w0.heap.size w0 ([cR (eI .i64) 1 A2 c3 3 s4] ++ T) w) :
    Calls Try.prog 149 (List.toArray [.agg (encObjectSingle a1).toArray, .slice A2 (s4).length c3, .int .i64 arg5]) w (fun e w' => ∃ g : (Option Addr × Nat), (True) ∧ e = .returned (.tuple #[.slice g.1 (res.1).length g.2, .int .i64 0, .int .i64 res.2]) ∧ St w0.heap.size w0 ([cR (eI .i64) 1 g.1 g.2 3 res.1] ++ T) w') := by
  refine W.enter (n := 16) Try.func149 rfl rfl Sub.refl (by simp) hw fun R hR => ?_
  unfold object_many_put at hF
  refine W.seqR fun Q1 hQ1 => ?_
  refine WL.step (WO.boxA (.pl rfl) rfl fun b6 => ?_)
  refine WL.q (Y.assign (.pl rfl)) rfl ?_
  refine WL.q (Y.assign (.pl rfl)) rfl ?_
  refine WL.q (Y.assign (.pl rfl)) rfl ?_
  refine WL.next hQ1 (.cons (i := 1) rfl (.cons (i := 2) rfl (.nil))) ?_
  refine W.seq fun K2 hK2 => ?_
  refine W.seqR fun Q3 hQ3 => ?_
  refine WL.q (Y.move (.pl rfl)) rfl ?_
  refine WL.q (Y.len Try.underlying23 (.pl rfl)) rfl ?_
  refine WL.q (Y.eql (.pl rfl) (.pl rfl)) rfl ?_
  refine WL.next hQ3 (.cons (i := 1) rfl (.cons (i := 2) rfl (.cons (i := 11) rfl (.nil)))) ?_
  refine W.cond (.pl rfl) (fun hC4 => ?_) (fun hC4 => ?_)
  · replace hF := cpos hC4 hF
    refine W.seqR fun Q5 hQ5 => ?_
    refine WL.q (Y.assign (.pl rfl)) rfl ?_
    refine WL.q (Y.assign (.pl rfl)) rfl ?_
    refine WL.q (Y.assign (.pl rfl)) rfl ?_
    refine WL.next hQ5 (.cons (i := 6) rfl (.cons (i := 7) rfl (.cons (i := 8) rfl (.nil)))) ?_
    obtain rfl := Option.some.inj hF
    refine W.retV (fn := Try.f149) (vs := [.slice none 0 0, .int .i64 0, .int .i64 2]) Try.results149 ⟨.tmp rfl, ⟨.tmp rfl, ⟨.tmp rfl, trivial⟩⟩⟩ (fun _ _ h => h) (fun wz hw => ?_)
    exact hR _ _ ⟨(none, 0), trivial, rfl, ((St.nilR (hw.pickK 2 [] rfl) (eI .i64) 1 3).pickK 1 [0] rfl)⟩
  · replace hF := cneg hC4 hF
    refine W.skip ?_
    refine W.go hK2 (.cons (i := 1) rfl (.cons (i := 2) rfl (.nil))) ?_
    refine W.seqR fun Q6 hQ6 => ?_
    refine WL.q (Y.move (.pl rfl)) rfl ?_
    refine WL.q (Y.move (.pl rfl)) rfl ?_
    refine WL.step (WO.bsliceC (enc := (eI .i64)) (ys := ([arg5] : List Int)) Try.underlying23 bz3 (.cons (.pl rfl) (.nil)) rfl (fun _ => rfl) rfl rfl (by decide) (by decide) rfl fun b7 => ?_)
    obtain ⟨hk10, hF⟩ := ckh hF
    refine WL.step (WO.appendC (enc := (eI .i64)) Try.underlying23 ap3 (fun _ => rfl) oneI (.pl rfl) rfl (.pl rfl) (i := 2) rfl (m2 := 0) rfl (hk10) rfl fun A8 c9 => ?_)
    refine WL.q (Y.assign (.pl rfl)) rfl ?_
    refine WL.q (Y.assign (.pl rfl)) rfl ?_
    refine WL.q (Y.assign (.pl rfl)) rfl ?_
    refine WL.next hQ6 (.cons (i := 6) rfl (.cons (i := 7) rfl (.cons (i := 8) rfl (.nil)))) ?_
    obtain rfl := Option.some.inj hF
    refine W.retV (fn := Try.f149) (vs := [.slice A8 ((s4 ++ ([arg5] : List Int))).length c9, .int .i64 0, .int .i64 0]) Try.results149 ⟨.tmp rfl, ⟨.tmp rfl, ⟨.tmp rfl, trivial⟩⟩⟩ (fun _ _ h => h) (fun wz hw => ?_)
    exact hR _ _ ⟨(A8, c9), trivial, rfl, (hw.pickK 3 [2] rfl)⟩

def object_queue_step (N : Nat) (q1 : ObjectSet) (s4 : (List Int)) (kind5 : Int) (arg6 : Int) : Option ((List Int) × Int × Int) :=
  cond (decide (kind5 = 3))
    (bd (object_many_put N q1.many s4 arg6) fun (r8 : ((List Int) × Int)) =>
    some (r8.1, 0, r8.2))
    (cond (decide (((s4).length : Int) = 0))
      (some (s4, (-1), 0))
      (ck (slB (s4).length 1 ((s4).length : Int)) <|
      bd (ix s4 0) fun (x12 : Int) =>
      some ((s4.drop (1 : Int).toNat), x12, 0)))

theorem object_queue_step_ok {N : Nat} {q1 : ObjectSet} {s4 : (List Int)} {kind5 : Int} {arg6 : Int} {A2 : Option Addr} {c3 : Nat} {res : ((List Int) × Int × Int)} (hF : object_queue_step N q1 s4 kind5 arg6 = some res) {w0 w : World} {T : List Chunk} (hw : St w0.heap.size w0 ([cR (eI .i64) 1 A2 c3 3 s4] ++ T) w) :
    Calls Try.prog 148 (List.toArray [.agg (encObjectSet q1).toArray, .slice A2 (s4).length c3, .int .i64 kind5, .int .i64 arg6]) w (fun e w' => ∃ g : (Option Nat × Option Addr × Nat), (True) ∧ e = .returned (.tuple #[.slice g.2.1 (res.1).length g.2.2, .int .i64 res.2.1, .int .i64 res.2.2]) ∧ St w0.heap.size w0 ([cV g.1 (eI .i64) 1 g.2.1 g.2.2 res.1] ++ T) w') := by
  refine W.enter (n := 32) Try.func148 rfl rfl Sub.refl (by simp) hw fun R hR => ?_
  unfold object_queue_step at hF
  refine W.seqR fun Q1 hQ1 => ?_
  refine WL.step (WO.boxA (.pl rfl) rfl fun b7 => ?_)
  refine WL.q (Y.assign (.pl rfl)) rfl ?_
  refine WL.q (Y.assign (.pl rfl)) rfl ?_
  refine WL.q (Y.assign (.pl rfl)) rfl ?_
  refine WL.next hQ1 (.cons (i := 1) rfl (.cons (i := 2) rfl (.cons (i := 3) rfl (.cons (i := 4) rfl (.nil))))) ?_
  refine W.seq fun K2 hK2 => ?_
  refine W.block ?_
  refine W.seqR fun Q3 hQ3 => ?_
  refine WL.q (Y.move (.pl rfl)) rfl ?_
  refine WL.q (Y.eql (.pl rfl) (.pl rfl)) rfl ?_
  refine WL.q (Y.assign (.pl rfl)) rfl ?_
  refine WL.next hQ3 (.cons (i := 1) rfl (.cons (i := 3) rfl (.cons (i := 4) rfl (.cons (i := 11) rfl (.nil))))) ?_
  refine W.cond (.pl rfl) (fun hC4 => ?_) (fun hC4 => ?_)
  · replace hF := cpos hC4 hF
    refine W.seqR fun Q5 hQ5 => ?_
    refine WL.q (Y.fieldAddrZ (ft := 143) Try.underlying145 rfl siz143 cel145 (.pl rfl) (i' := 0) rfl) rfl ?_
    refine WL.q (Y.load0 Try.underlying143 siz143 (.pl rfl)) rfl ?_
    refine WL.q (Y.move (.pl rfl)) rfl ?_
    refine WL.q (Y.move (.pl rfl)) rfl ?_
    obtain ⟨r8, hr8, hF⟩ := bnd hF
    refine WL.step (WO.call (γ := (Option Addr × Nat)) (fun g => .tuple #[.slice g.1 (r8.1).length g.2, .int .i64 0, .int .i64 r8.2]) (fun g => ([cR (eI .i64) 1 g.1 g.2 3 r8.1, cBx b7 145 (encObjectSet q1)] ++ T)) (fun g => True) isGo149 (.cons (.pl rfl) (.cons (.pl rfl) (.cons (.pl rfl) (.nil)))) rfl (fun wz hw => object_many_put_ok (T := ([cBx b7 145 (encObjectSet q1)] ++ T)) (hr8) (hw.pickK 2 [1, 0] rfl) ) ?_)
    rintro ⟨A9, c10⟩ -
    refine WL.q (Y.extract (.pl rfl) rfl) rfl ?_
    refine WL.q (Y.extract (.pl rfl) rfl) rfl ?_
    refine WL.q (Y.extract (.pl rfl) rfl) rfl ?_
    refine WL.q (Y.assign (.pl rfl)) rfl ?_
    refine WL.q (Y.assign (.pl rfl)) rfl ?_
    refine WL.q (Y.assign (.pl rfl)) rfl ?_
    refine WL.next hQ5 (.cons (i := 8) rfl (.cons (i := 9) rfl (.cons (i := 10) rfl (.nil)))) ?_
    obtain rfl := Option.some.inj hF
    refine W.retV (fn := Try.f148) (vs := [.slice A9 (r8.1).length c10, .int .i64 0, .int .i64 r8.2]) Try.results148 ⟨.tmp rfl, ⟨.tmp rfl, ⟨.tmp rfl, trivial⟩⟩⟩ (fun _ _ h => h) (fun wz hw => ?_)
    exact hR _ _ ⟨((blkA A9), A9, c10), trivial, rfl, ((St.toV (enc := (eI .i64)) (sz := 1) (A' := A9) (cap' := c10) (ys := r8.1) (fun _ => rfl) hw (i := 0) rfl (fun wz h => h)).pickK 2 [0] rfl)⟩
  · replace hF := cneg hC4 hF
    refine W.seqR fun Q6 hQ6 => ?_
    refine WL.q (Y.move (.pl rfl)) rfl ?_
    refine WL.q (Y.len Try.underlying23 (.pl rfl)) rfl ?_
    refine WL.q (Y.eql (.pl rfl) (.pl rfl)) rfl ?_
    refine WL.q (Y.assign (.pl rfl)) rfl ?_
    refine WL.next hQ6 (.cons (i := 1) rfl (.cons (i := 22) rfl (.nil))) ?_
    refine W.cond (.pl rfl) (fun hC7 => ?_) (fun hC7 => ?_)
    · replace hF := cpos hC7 hF
      refine W.seqR fun Q8 hQ8 => ?_
      refine WL.q (Y.move (.pl rfl)) rfl ?_
      refine WL.q (Y.assign (.pl rfl)) rfl ?_
      refine WL.q (Y.assign (.pl rfl)) rfl ?_
      refine WL.q (Y.assign (.pl rfl)) rfl ?_
      refine WL.next hQ8 (.cons (i := 8) rfl (.cons (i := 9) rfl (.cons (i := 10) rfl (.nil)))) ?_
      obtain rfl := Option.some.inj hF
      refine W.retV (fn := Try.f148) (vs := [.slice A2 (s4).length c3, .int .i64 (-1), .int .i64 0]) Try.results148 ⟨.tmp rfl, ⟨.tmp rfl, ⟨.tmp rfl, trivial⟩⟩⟩ (fun _ _ h => h) (fun wz hw => ?_)
      exact hR _ _ ⟨((blkA A2), A2, c3), trivial, rfl, ((St.toV (enc := (eI .i64)) (sz := 1) (A' := A2) (cap' := c3) (ys := s4) (fun _ => rfl) hw (i := 1) rfl (fun wz h => h)).pickK 2 [1] rfl)⟩
    · replace hF := cneg hC7 hF
      refine W.skip ?_
      refine W.go hK2 (.cons (i := 1) rfl (.nil)) ?_
      refine W.seqD (by kernel_rfl) (by kernel_rfl) fun R9 hR9 => ?_
      refine WD.q (Y.move (.pl rfl)) rfl ?_
      obtain ⟨hk11, hF⟩ := ckh hF
      refine WD.q (Y.sliceR1 Try.underlying23 cells3 (i := 1) rfl (.pl rfl) rfl (.pl rfl) (hk11)) rfl ?_
      refine WD.q (Y.move (.pl rfl)) rfl ?_
      obtain ⟨x12, hx12, hF⟩ := bnd hF
      refine WD.q (Y.rowEl Try.underlying23 cells3 (i := 1) rfl (.pl rfl) rfl (.pl rfl) (ix_lt (hx12))) rfl ?_
      refine WD.q (Y.loadR (enc := (eI .i64)) (v := .int .i64 x12) (a := x12) (idx := 0) (j := 0) Try.underlying3 rfl (fun _ => rfl) (i := 1) rfl (.pl rfl) (ix_get (hx12)) rfl rfl) rfl ?_
      refine WD.q (Y.assign (.pl rfl)) rfl ?_
      refine WD.q (Y.assign (.pl rfl)) rfl ?_
      refine WD.q (Y.assign (.pl rfl)) rfl ?_
      refine WD.next hR9 (.cons (i := 8) rfl (.cons (i := 9) rfl (.cons (i := 10) rfl (.nil)))) ?_
      obtain rfl := Option.some.inj hF
      refine W.retV (fn := Try.f148) (vs := [.slice (subA A2 c3 (1 : Int).toNat 1) ((s4.drop (1 : Int).toNat)).length (c3 - (1 : Int).toNat), .int .i64 x12, .int .i64 0]) Try.results148 ⟨.tmp rfl, ⟨.tmp rfl, ⟨.tmp rfl, trivial⟩⟩⟩ (fun _ _ h => h) (fun wz hw => ?_)
      exact hR _ _ ⟨((blkA A2), (subA A2 c3 (1 : Int).toNat 1), (c3 - (1 : Int).toNat)), trivial, rfl, ((St.toV (enc := (eI .i64)) (sz := 1) (A' := (subA A2 c3 (1 : Int).toNat 1)) (cap' := (c3 - (1 : Int).toNat)) (ys := (s4.drop (1 : Int).toNat)) (fun _ => rfl) hw (i := 1) rfl (fun wz h => SlIn.sub1 h (slB_nat (hk11)).1)).pickK 2 [1] rfl)⟩

def object_stack_step (N : Nat) (k1 : ObjectSet) (s4 : (List Int)) (kind5 : Int) (arg6 : Int) : Option ((List Int) × Int × Int) :=
  cond (decide (kind5 = 5))
    (bd (object_many_put N k1.many s4 arg6) fun (r8 : ((List Int) × Int)) =>
    some (r8.1, 0, r8.2))
    (cond (decide (((s4).length : Int) = 0))
      (some (s4, (-1), 0))
      (ck (ok64 (((s4).length : Int) - 1)) <|
      ck (slB (s4).length 0 (((s4).length : Int) - 1)) <|
      ck (ok64 (((s4).length : Int) - 1)) <|
      bd (ix s4 (((s4).length : Int) - 1)) fun (x14 : Int) =>
      some ((s4.take (((s4).length : Int) - 1).toNat), x14, 0)))

theorem object_stack_step_ok {N : Nat} {k1 : ObjectSet} {s4 : (List Int)} {kind5 : Int} {arg6 : Int} {A2 : Option Addr} {c3 : Nat} {res : ((List Int) × Int × Int)} (hF : object_stack_step N k1 s4 kind5 arg6 = some res) {w0 w : World} {T : List Chunk} (hw : St w0.heap.size w0 ([cR (eI .i64) 1 A2 c3 3 s4] ++ T) w) :
    Calls Try.prog 150 (List.toArray [.agg (encObjectSet k1).toArray, .slice A2 (s4).length c3, .int .i64 kind5, .int .i64 arg6]) w (fun e w' => ∃ g : (Option Addr × Nat), (True) ∧ e = .returned (.tuple #[.slice g.1 (res.1).length g.2, .int .i64 res.2.1, .int .i64 res.2.2]) ∧ St w0.heap.size w0 ([cR (eI .i64) 1 g.1 g.2 3 res.1] ++ T) w') := by
  refine W.enter (n := 38) Try.func150 rfl rfl Sub.refl (by simp) hw fun R hR => ?_
  unfold object_stack_step at hF
  refine W.seqR fun Q1 hQ1 => ?_
  refine WL.step (WO.boxA (.pl rfl) rfl fun b7 => ?_)
  refine WL.q (Y.assign (.pl rfl)) rfl ?_
  refine WL.q (Y.assign (.pl rfl)) rfl ?_
  refine WL.q (Y.assign (.pl rfl)) rfl ?_
  refine WL.next hQ1 (.cons (i := 1) rfl (.cons (i := 2) rfl (.cons (i := 3) rfl (.cons (i := 4) rfl (.nil))))) ?_
  refine W.seqR fun Q2 hQ2 => ?_
  refine WL.q (Y.move (.pl rfl)) rfl ?_
  refine WL.q (Y.len Try.underlying23 (.pl rfl)) rfl ?_
  refine WL.q (Y.assign (.pl rfl)) rfl ?_
  refine WL.next hQ2 (.cons (i := 1) rfl (.cons (i := 2) rfl (.cons (i := 3) rfl (.cons (i := 4) rfl (.cons (i := 11) rfl (.nil)))))) ?_
  refine W.block ?_
  refine W.seqR fun Q3 hQ3 => ?_
  refine WL.q (Y.move (.pl rfl)) rfl ?_
  refine WL.q (Y.eql (.pl rfl) (.pl rfl)) rfl ?_
  refine WL.q (Y.assign (.pl rfl)) rfl ?_
  refine WL.next hQ3 (.cons (i := 1) rfl (.cons (i := 3) rfl (.cons (i := 4) rfl (.cons (i := 11) rfl (.cons (i := 23) rfl (.nil)))))) ?_
  refine W.cond (.pl rfl) (fun hC4 => ?_) (fun hC4 => ?_)
  · replace hF := cpos hC4 hF
    refine W.seqR fun Q5 hQ5 => ?_
    refine WL.q (Y.fieldAddrZ (ft := 143) Try.underlying146 rfl siz143 cel146 (.pl rfl) (i' := 0) rfl) rfl ?_
    refine WL.q (Y.load0 Try.underlying143 siz143 (.pl rfl)) rfl ?_
    refine WL.q (Y.move (.pl rfl)) rfl ?_
    refine WL.q (Y.move (.pl rfl)) rfl ?_
    obtain ⟨r8, hr8, hF⟩ := bnd hF
    refine WL.step (WO.call (γ := (Option Addr × Nat)) (fun g => .tuple #[.slice g.1 (r8.1).length g.2, .int .i64 0, .int .i64 r8.2]) (fun g => ([cR (eI .i64) 1 g.1 g.2 3 r8.1, cBx b7 146 (encObjectSet k1)] ++ T)) (fun g => True) isGo149 (.cons (.pl rfl) (.cons (.pl rfl) (.cons (.pl rfl) (.nil)))) rfl (fun wz hw => object_many_put_ok (T := ([cBx b7 146 (encObjectSet k1)] ++ T)) (hr8) (hw.pickK 2 [1, 0] rfl) ) ?_)
    rintro ⟨A9, c10⟩ -
    refine WL.q (Y.extract (.pl rfl) rfl) rfl ?_
    refine WL.q (Y.extract (.pl rfl) rfl) rfl ?_
    refine WL.q (Y.extract (.pl rfl) rfl) rfl ?_
    refine WL.q (Y.assign (.pl rfl)) rfl ?_
    refine WL.q (Y.assign (.pl rfl)) rfl ?_
    refine WL.q (Y.assign (.pl rfl)) rfl ?_
    refine WL.next hQ5 (.cons (i := 8) rfl (.cons (i := 9) rfl (.cons (i := 10) rfl (.nil)))) ?_
    obtain rfl := Option.some.inj hF
    refine W.retV (fn := Try.f150) (vs := [.slice A9 (r8.1).length c10, .int .i64 0, .int .i64 r8.2]) Try.results150 ⟨.tmp rfl, ⟨.tmp rfl, ⟨.tmp rfl, trivial⟩⟩⟩ (fun _ _ h => h) (fun wz hw => ?_)
    exact hR _ _ ⟨(A9, c10), trivial, rfl, (hw.pickK 2 [0] rfl)⟩
  · replace hF := cneg hC4 hF
    refine W.seqR fun Q6 hQ6 => ?_
    refine WL.q (Y.move (.pl rfl)) rfl ?_
    refine WL.q (Y.eql (.pl rfl) (.pl rfl)) rfl ?_
    refine WL.q (Y.assign (.pl rfl)) rfl ?_
    refine WL.next hQ6 (.cons (i := 1) rfl (.cons (i := 11) rfl (.cons (i := 34) rfl (.nil)))) ?_
    refine W.cond (.pl rfl) (fun hC7 => ?_) (fun hC7 => ?_)
    · replace hF := cpos hC7 hF
      refine W.seqR fun Q8 hQ8 => ?_
      refine WL.q (Y.move (.pl rfl)) rfl ?_
      refine WL.q (Y.assign (.pl rfl)) rfl ?_
      refine WL.q (Y.assign (.pl rfl)) rfl ?_
      refine WL.q (Y.assign (.pl rfl)) rfl ?_
      refine WL.next hQ8 (.cons (i := 8) rfl (.cons (i := 9) rfl (.cons (i := 10) rfl (.nil)))) ?_
      obtain rfl := Option.some.inj hF
      refine W.retV (fn := Try.f150) (vs := [.slice A2 (s4).length c3, .int .i64 (-1), .int .i64 0]) Try.results150 ⟨.tmp rfl, ⟨.tmp rfl, ⟨.tmp rfl, trivial⟩⟩⟩ (fun _ _ h => h) (fun wz hw => ?_)
      exact hR _ _ ⟨(A2, c3), trivial, rfl, (hw.pickK 2 [1] rfl)⟩
    · replace hF := cneg hC7 hF
      refine W.seqD (by kernel_rfl) (by kernel_rfl) fun R9 hR9 => ?_
      refine WD.q (Y.move (.pl rfl)) rfl ?_
      refine WD.q (Y.move (.pl rfl)) rfl ?_
      obtain ⟨hk11, hF⟩ := ckh hF
      refine WD.q (Y.sub (.pl rfl) (.pl rfl) (ok64_lt (hk11))) rfl ?_
      obtain ⟨hk12, hF⟩ := ckh hF
      refine WD.q (Y.sliceR0 Try.underlying23 cells3 (i := 1) rfl (.pl rfl) rfl (.pl rfl) (hk12)) rfl ?_
      refine WD.q (Y.move (.pl rfl)) rfl ?_
      refine WD.q (Y.move (.pl rfl)) rfl ?_
      obtain ⟨hk13, hF⟩ := ckh hF
      refine WD.q (Y.sub (.pl rfl) (.pl rfl) (ok64_lt (hk13))) rfl ?_
      obtain ⟨x14, hx14, hF⟩ := bnd hF
      refine WD.q (Y.rowEl Try.underlying23 cells3 (i := 1) rfl (.pl rfl) rfl (.pl rfl) (ix_lt (hx14))) rfl ?_
      refine WD.q (Y.loadR (enc := (eI .i64)) (v := .int .i64 x14) (a := x14) (idx := (((s4).length : Int) - 1)) (j := 0) Try.underlying3 rfl (fun _ => rfl) (i := 1) rfl (.pl rfl) (ix_get (hx14)) rfl rfl) rfl ?_
      refine WD.q (Y.assign (.pl rfl)) rfl ?_
      refine WD.q (Y.assign (.pl rfl)) rfl ?_
      refine WD.q (Y.assign (.pl rfl)) rfl ?_
      refine WD.next hR9 (.cons (i := 8) rfl (.cons (i := 9) rfl (.cons (i := 10) rfl (.nil)))) ?_
      obtain rfl := Option.some.inj hF
      refine W.retV (fn := Try.f150) (vs := [.slice A2 ((s4.take (((s4).length : Int) - 1).toNat)).length c3, .int .i64 x14, .int .i64 0]) Try.results150 ⟨.tmp rfl, ⟨.tmp rfl, ⟨.tmp rfl, trivial⟩⟩⟩ (fun _ _ h => h) (fun wz hw => ?_)
      exact hR _ _ ⟨(A2, c3), trivial, rfl, ((St.trunc (enc := (eI .i64)) (sz := 1) (j := (((s4).length : Int) - 1).toNat) hw (fun _ => rfl) (i := 1) rfl).pickK 2 [1] rfl)⟩

def cmp_isNaN_int (N : Nat) (x1 : Int) : Option Unit :=
  some ()

theorem cmp_isNaN_int_ok {N : Nat} {x1 : Int} {res : Unit} (hF : cmp_isNaN_int N x1 = some res) (w : World) :
    Pure Try.prog 160 [.int .i64 x1] w (.bool (!(decide (x1 = x1)))) := by
  refine W.enter (n := 6) Try.func160 rfl rfl Sub.refl (by simp) (St.start w) fun R hR => ?_
  unfold cmp_isNaN_int at hF
  refine W.seqR fun Q1 hQ1 => ?_
  refine WL.q (Y.assign (.pl rfl)) rfl ?_
  refine WL.next hQ1 (.cons (i := 0) rfl (.nil)) ?_
  refine W.seqR fun Q2 hQ2 => ?_
  refine WL.q (Y.move (.pl rfl)) rfl ?_
  refine WL.q (Y.move (.pl rfl)) rfl ?_
  refine WL.q (Y.neq (.pl rfl) (.pl rfl)) rfl ?_
  refine WL.q (Y.assign (.pl rfl)) rfl ?_
  refine WL.next hQ2 (.cons (i := 2) rfl (.nil)) ?_
  obtain rfl := Option.some.inj hF
  refine W.retV (fn := Try.f160) (vs := [.bool (!(decide (x1 = x1)))]) Try.results160 ⟨.tmp rfl, trivial⟩ (fun _ _ h => h) (fun wz hw => ?_)
  exact hR _ _ ⟨rfl, (hw.pick [] rfl)⟩

def cmp_Less_int (N : Nat) (x1 : Int) (y2 : Int) : Option Unit :=
  bd (cmp_isNaN_int N x1) fun (r3 : Unit) =>
  bd ((cond ((!(decide (x1 = x1))) == true) (cmp_isNaN_int N y2) (some ()))) fun (r4 : Unit) =>
  some ()

theorem cmp_Less_int_ok {N : Nat} {x1 : Int} {y2 : Int} {res : Unit} (hF : cmp_Less_int N x1 y2 = some res) (w : World) :
    Pure Try.prog 156 [.int .i64 x1, .int .i64 y2] w (.bool (((!(decide (x1 = x1))) && (!(!(decide (y2 = y2))))) || (decide (x1 < y2)))) := by
  refine W.enter (n := 17) Try.func156 rfl rfl Sub.refl (by simp) (St.start w) fun R hR => ?_
  unfold cmp_Less_int at hF
  refine W.seqR fun Q1 hQ1 => ?_
  refine WL.q (Y.assign (.pl rfl)) rfl ?_
  refine WL.next hQ1 (.cons (i := 0) rfl (.cons (i := 1) rfl (.nil))) ?_
  refine W.seqR fun Q2 hQ2 => ?_
  refine WL.q (Y.move (.pl rfl)) rfl ?_
  obtain ⟨r3, hr3, hF⟩ := bnd hF
  refine WL.step (WO.callP isGo160 (.cons (.pl rfl) (.nil)) rfl (fun wz hw => cmp_isNaN_int_ok (hr3) wz ) ?_)
  refine WL.q (Y.move (.pl rfl)) rfl ?_
  refine WL.g (.pl rfl rfl rfl) (fun hg => Y.move (.pl rfl)) rfl ?_
  obtain ⟨r4, hr4, hF⟩ := bnd hF
  refine WL.gP (.pl rfl rfl rfl) isGo160 (fun hg => (.cons (.gd (hg) rfl) (.nil))) rfl (fun hg wz hw => cmp_isNaN_int_ok (gpos hg hr4) wz ) ?_
  refine WL.g (.pl rfl rfl rfl) (fun hg => Y.not (.gd (hg) rfl)) rfl ?_
  refine WL.q (Y.and (.pl rfl) (fun h2 => .gd (eqt h2) rfl)) rfl ?_
  refine WL.q (Y.move (.pl rfl)) rfl ?_
  refine WL.g (.pl rfl rfl rfl) (fun hg => Y.move (.pl rfl)) rfl ?_
  refine WL.g (.pl rfl rfl rfl) (fun hg => Y.move (.pl rfl)) rfl ?_
  refine WL.g (.pl rfl rfl rfl) (fun hg => Y.lss (.gd (hg) rfl) (.gd (hg) rfl)) rfl ?_
  refine WL.q (Y.or (.pl rfl) (fun h2 => .gd (eqf h2) rfl)) rfl ?_
  refine WL.q (Y.assign (.pl rfl)) rfl ?_
  refine WL.next hQ2 (.cons (i := 4) rfl (.nil)) ?_
  obtain rfl := Option.some.inj hF
  refine W.retV (fn := Try.f156) (vs := [.bool (((!(decide (x1 = x1))) && (!(!(decide (y2 = y2))))) || (decide (x1 < y2)))]) Try.results156 ⟨.tmp rfl, trivial⟩ (fun _ _ h => h) (fun wz hw => ?_)
  exact hR _ _ ⟨rfl, (hw.pick [] rfl)⟩

def slices_isNaN_int (N : Nat) (x1 : Int) : Option Unit :=
  some ()

theorem slices_isNaN_int_ok {N : Nat} {x1 : Int} {res : Unit} (hF : slices_isNaN_int N x1 = some res) (w : World) :
    Pure Try.prog 157 [.int .i64 x1] w (.bool (!(decide (x1 = x1)))) := by
  refine W.enter (n := 6) Try.func157 rfl rfl Sub.refl (by simp) (St.start w) fun R hR => ?_
  unfold slices_isNaN_int at hF
  refine W.seqR fun Q1 hQ1 => ?_
  refine WL.q (Y.assign (.pl rfl)) rfl ?_
  refine WL.next hQ1 (.cons (i := 0) rfl (.nil)) ?_
  refine W.seqR fun Q2 hQ2 => ?_
  refine WL.q (Y.move (.pl rfl)) rfl ?_
  refine WL.q (Y.move (.pl rfl)) rfl ?_
  refine WL.q (Y.neq (.pl rfl) (.pl rfl)) rfl ?_
  refine WL.q (Y.assign (.pl rfl)) rfl ?_
  refine WL.next hQ2 (.cons (i := 2) rfl (.nil)) ?_
  obtain rfl := Option.some.inj hF
  refine W.retV (fn := Try.f157) (vs := [.bool (!(decide (x1 = x1)))]) Try.results157 ⟨.tmp rfl, trivial⟩ (fun _ _ h => h) (fun wz hw => ?_)
  exact hR _ _ ⟨rfl, (hw.pick [] rfl)⟩

def slices_BinarySearch_int_int_L3 (N : Nat) (x1 : (List Int)) (target6 : Int) : (Int × Int) → Option ((Int × Int) ⊕ Int)
  | (i8, j9) =>
    cond (decide (i8 < j9))
      (ck (ok64 (i8 + j9)) <|
      bd (ix x1 (IntKind.i64.wrap (shrI .u64 (IntKind.u64.wrap (i8 + j9)) 1))) fun (x11 : Int) =>
      bd (cmp_Less_int N x11 target6) fun (r12 : Unit) =>
      cond (((!(decide (x11 = x11))) && (!(!(decide (target6 = target6))))) || (decide (x11 < target6)))
        (ck (ok64 ((IntKind.i64.wrap (shrI .u64 (IntKind.u64.wrap (i8 + j9)) 1)) + 1)) <|
        some (.inl (((IntKind.i64.wrap (shrI .u64 (IntKind.u64.wrap (i8 + j9)) 1)) + 1), j9)))
        (some (.inl (i8, (IntKind.i64.wrap (shrI .u64 (IntKind.u64.wrap (i8 + j9)) 1))))))
      (some (.inr i8))

def slices_BinarySearch_int_int (N : Nat) (x1 : (List Int)) (target6 : Int) : Option (Int × Bool) :=
  bd (α := Int) (iter (slices_BinarySearch_int_int_L3 N x1 target6) N (0, ((x1).length : Int))) <|
  fun (i7 : Int) => 
    bd ((cond ((decide (i7 < ((x1).length : Int))) == true) (ix x1 i7) (some 0))) fun (x14 : Int) =>
    bd ((cond (((decide (i7 < ((x1).length : Int))) == true) && ((decide (x14 = target6)) == false)) (ix x1 i7) (some 0))) fun (x15 : Int) =>
    bd ((cond (((decide (i7 < ((x1).length : Int))) == true) && ((decide (x14 = target6)) == false)) (slices_isNaN_int N x15) (some ()))) fun (r16 : Unit) =>
    bd ((cond ((((decide (i7 < ((x1).length : Int))) == true) && ((decide (x14 = target6)) == false)) && ((!(decide (x15 = x15))) == true)) (slices_isNaN_int N target6) (some ()))) fun (r17 : Unit) =>
    some (i7, ((decide (i7 < ((x1).length : Int))) && ((decide (x14 = target6)) || ((!(decide (x15 = x15))) && (!(decide (target6 = target6)))))))

theorem slices_BinarySearch_int_int_ok {N : Nat} {x1 : (List Int)} {target6 : Int} {res : (Int × Bool)} (hF : slices_BinarySearch_int_int N x1 target6 = some res) (w : World) {v5 : Value} (hs4 : SlIn (eI .i64) 1 w v5 x1) :
    Pure Try.prog 153 [v5, .int .i64 target6] w (.tuple #[.int .i64 res.1, .bool res.2]) := by
  obtain ⟨A2, c3, rfl, hcc3, hs4⟩ := hs4.form
  refine W.enter (n := 54) Try.func153 rfl rfl Sub.refl (by simp) (St.start w) fun R hR => ?_
  unfold slices_BinarySearch_int_int at hF
  refine W.seqR fun Q1 hQ1 => ?_
  refine WL.q (Y.assign (.pl rfl)) rfl ?_
  refine WL.q (Y.assign (.pl rfl)) rfl ?_
  refine WL.next hQ1 (.cons (i := 0) rfl (.cons (i := 1) rfl (.nil))) ?_
  refine W.seqR fun Q2 hQ2 => ?_
  refine WL.q (Y.move (.pl rfl)) rfl ?_
  refine WL.q (Y.len Try.underlying23 (.pl rfl)) rfl ?_
  refine WL.q (Y.assign (.pl rfl)) rfl ?_
  refine WL.next hQ2 (.cons (i := 0) rfl (.cons (i := 1) rfl (.cons (i := 6) rfl (.nil)))) ?_
  refine W.seqR fun Q3 hQ3 => ?_
  refine WL.q (Y.move (.pl rfl)) rfl ?_
  refine WL.q (Y.assign (.pl rfl)) rfl ?_
  refine WL.q (Y.assign (.pl rfl)) rfl ?_
  refine WL.next hQ3 (.cons (i := 0) rfl (.cons (i := 1) rfl (.cons (i := 6) rfl (.cons (i := 7) rfl (.cons (i := 8) rfl (.nil)))))) ?_
  obtain ⟨o4, hF4, hF⟩ := bnd hF
  refine W.join1 (Em := fun (i7 : Int) => [(7, .int .i64 i7)]) (M := fun i7 => []) (I := fun i7 => i7 = o4) (.cons (i := 0) rfl (.cons (i := 1) rfl (.cons (i := 6) rfl (.nil)))) (fun K5 hK5 => ?_) ?_
  · -- up to
    refine W.block ?_
    refine W.loop2 (Em := fun (i8 : Int) (j9 : Int) => [(7, .int .i64 i8), (8, .int .i64 j9)]) (M := fun i8 j9 => []) (I := fun i8 j9 k6 => iter (slices_BinarySearch_int_int_L3 N x1 target6) k6 (i8, j9) = some o4) 0 ((x1).length : Int) N (hF4) (.cons rfl (.cons rfl (.nil))) (.cons (i := 0) rfl (.cons (i := 1) rfl (.cons (i := 6) rfl (.nil)))) (fun wz hw => hw.pick [] rfl) (fun i8 j9 k6 hI K7 hK7 => ?_)
    obtain ⟨k6, t6, rfl, hF6, hN6⟩ := iter_step hI
    refine W.seq fun K8 hK8 => ?_
    refine W.seqR fun Q9 hQ9 => ?_
    refine WL.q (Y.move (.pl rfl)) rfl ?_
    refine WL.q (Y.move (.pl rfl)) rfl ?_
    refine WL.q (Y.lss (.pl rfl) (.pl rfl)) rfl ?_
    refine WL.next hQ9 (.cons (i := 0) rfl (.cons (i := 1) rfl (.cons (i := 6) rfl (.cons (i := 7) rfl (.cons (i := 8) rfl (.cons (i := 15) rfl (.nil))))))) ?_
    refine W.cond (.pl rfl) (fun hC10 => ?_) (fun hC10 => ?_)
    · replace hF6 := cpos hC10 hF6
      refine W.skip ?_
      refine W.go hK8 (.cons (i := 0) rfl (.cons (i := 1) rfl (.cons (i := 6) rfl (.cons (i := 7) rfl (.cons (i := 8) rfl (.nil)))))) ?_
      refine W.block ?_
      refine W.seqR fun Q11 hQ11 => ?_
      refine WL.q (Y.move (.pl rfl)) rfl ?_
      refine WL.q (Y.move (.pl rfl)) rfl ?_
      obtain ⟨hk10, hF6⟩ := ckh hF6
      refine WL.q (Y.add (.pl rfl) (.pl rfl) (ok64_lt (hk10))) rfl ?_
      refine WL.q (Y.conv Try.underlying3 Try.underlying98 (.pl rfl)) rfl ?_
      refine WL.q (Y.shr (.pl rfl) (.pl rfl) (by decide)) rfl ?_
      refine WL.q (Y.conv Try.underlying98 Try.underlying3 (.pl rfl)) rfl ?_
      refine WL.q (Y.assign (.pl rfl)) rfl ?_
      refine WL.next hQ11 (.cons (i := 0) rfl (.cons (i := 1) rfl (.cons (i := 6) rfl (.cons (i := 7) rfl (.cons (i := 8) rfl (.cons (i := 9) rfl (.nil))))))) ?_
      refine W.seqR fun Q12 hQ12 => ?_
      refine WL.q (Y.move (.pl rfl)) rfl ?_
      refine WL.q (Y.move (.pl rfl)) rfl ?_
      obtain ⟨x11, hx11, hF6⟩ := bnd hF6
      refine WL.q (Y.slEl Try.underlying23 cells3 hs4 (.pl rfl) (.pl rfl) (ix_lt (hx11))) rfl ?_
      refine WL.q (Y.loadS (enc := (eI .i64)) (v := .int .i64 x11) (j := 0) Try.underlying3 rfl hs4 (.pl rfl) (hx11) rfl rfl) rfl ?_
      refine WL.q (Y.move (.pl rfl)) rfl ?_
      obtain ⟨r12, hr12, hF6⟩ := bnd hF6
      refine WL.step (WO.callP isGo156 (.cons (.pl rfl) (.cons (.pl rfl) (.nil))) rfl (fun wz hw => cmp_Less_int_ok (hr12) wz ) ?_)
      refine WL.next hQ12 (.cons (i := 0) rfl (.cons (i := 1) rfl (.cons (i := 6) rfl (.cons (i := 7) rfl (.cons (i := 8) rfl (.cons (i := 9) rfl (.cons (i := 27) rfl (.nil)))))))) ?_
      refine W.cond (.pl rfl) (fun hC13 => ?_) (fun hC13 => ?_)
      · replace hF6 := cpos hC13 hF6
        refine W.reg ?_
        refine WL.q (Y.move (.pl rfl)) rfl ?_
        obtain ⟨hk13, hF6⟩ := ckh hF6
        refine WL.q (Y.add (.pl rfl) (.pl rfl) (ok64_lt (hk13))) rfl ?_
        refine WL.q (Y.assign (.pl rfl)) rfl ?_
        refine WL.nil ?_
        obtain rfl := Option.some.inj hF6
        exact W.again2 hK7 ((IntKind.i64.wrap (shrI .u64 (IntKind.u64.wrap (i8 + j9)) 1)) + 1) j9 k6 hN6 (Nat.lt_succ_self _) (.cons rfl (.cons rfl (.nil))) (.cons (i := 0) rfl (.cons (i := 1) rfl (.cons (i := 6) rfl (.nil)))) (fun wz hw => hw.pick [] rfl)
      · replace hF6 := cneg hC13 hF6
        refine W.reg ?_
        refine WL.q (Y.move (.pl rfl)) rfl ?_
        refine WL.q (Y.assign (.pl rfl)) rfl ?_
        refine WL.nil ?_
        obtain rfl := Option.some.inj hF6
        exact W.again2 hK7 i8 (IntKind.i64.wrap (shrI .u64 (IntKind.u64.wrap (i8 + j9)) 1)) k6 hN6 (Nat.lt_succ_self _) (.cons rfl (.cons rfl (.nil))) (.cons (i := 0) rfl (.cons (i := 1) rfl (.cons (i := 6) rfl (.nil)))) (fun wz hw => hw.pick [] rfl)
    · replace hF6 := cneg hC10 hF6
      refine W.exit ?_
      obtain rfl := Option.some.inj hF6
      exact W.joinAt1 hK5 i8 (einr hN6) (.cons rfl (.nil)) (.cons (i := 0) rfl (.cons (i := 1) rfl (.cons (i := 6) rfl (.nil)))) (fun wz hw => hw.pick [] rfl)
  · -- behind
    rintro i7 rfl
    refine W.seqR fun Q16 hQ16 => ?_
    refine WL.q (Y.move (.pl rfl)) rfl ?_
    refine WL.q (Y.move (.pl rfl)) rfl ?_
    refine WL.q (Y.move (.pl rfl)) rfl ?_
    refine WL.q (Y.lss (.pl rfl) (.pl rfl)) rfl ?_
    refine WL.q (Y.move (.pl rfl)) rfl ?_
    refine WL.g (.pl rfl rfl rfl) (fun hg => Y.move (.pl rfl)) rfl ?_
    refine WL.g (.pl rfl rfl rfl) (fun hg => Y.move (.pl rfl)) rfl ?_
    obtain ⟨x14, hx14, hF⟩ := bnd hF
    refine WL.g (.pl rfl rfl rfl) (fun hg => Y.slEl Try.underlying23 cells3 hs4 (.gd (hg) rfl) (.gd (hg) rfl) (ix_lt (gpos hg hx14))) rfl ?_
    refine WL.g (.pl rfl rfl rfl) (fun hg => Y.loadS (enc := (eI .i64)) (v := .int .i64 x14) (j := 0) Try.underlying3 rfl hs4 (.gd (hg) rfl) (gpos hg hx14) rfl rfl) rfl ?_
    refine WL.g (.pl rfl rfl rfl) (fun hg => Y.move (.pl rfl)) rfl ?_
    refine WL.g (.pl rfl rfl rfl) (fun hg => Y.eql (.gd (hg) rfl) (.gd (hg) rfl)) rfl ?_
    refine WL.g (.pl rfl rfl rfl) (fun hg => Y.move (.gd (hg) rfl)) rfl ?_
    refine WL.g (.gd rfl rfl rfl) (fun hg => Y.move (.pl rfl)) rfl ?_
    refine WL.g (.gd rfl rfl rfl) (fun hg => Y.move (.pl rfl)) rfl ?_
    obtain ⟨x15, hx15, hF⟩ := bnd hF
    refine WL.g (.gd rfl rfl rfl) (fun hg => Y.slEl Try.underlying23 cells3 hs4 (.gd (hg) rfl) (.gd (hg) rfl) (ix_lt (gpos hg hx15))) rfl ?_
    refine WL.g (.gd rfl rfl rfl) (fun hg => Y.loadS (enc := (eI .i64)) (v := .int .i64 x15) (j := 0) Try.underlying3 rfl hs4 (.gd (hg) rfl) (gpos hg hx15) rfl rfl) rfl ?_
    obtain ⟨r16, hr16, hF⟩ := bnd hF
    refine WL.gP (.gd rfl rfl rfl) isGo157 (fun hg => (.cons (.gd (hg) rfl) (.nil))) rfl (fun hg wz hw => slices_isNaN_int_ok (gpos hg hr16) wz ) ?_
    refine WL.g (.gd rfl rfl rfl) (fun hg => Y.move (.gd (hg) rfl)) rfl ?_
    refine WL.g (.gd rfl rfl rfl) (fun hg => Y.move (.pl rfl)) rfl ?_
    obtain ⟨r17, hr17, hF⟩ := bnd hF
    refine WL.gP (.gd rfl rfl rfl) isGo157 (fun hg => (.cons (.gd (hg) rfl) (.nil))) rfl (fun hg wz hw => slices_isNaN_int_ok (gpos hg hr17) wz ) ?_
    refine WL.g (.gd rfl rfl rfl) (fun hg => Y.and (.gd (hg) rfl) (fun h2 => .gd (band hg (eqt h2)) rfl)) rfl ?_
    refine WL.g (.pl rfl rfl rfl) (fun hg => Y.or (.gd (hg) rfl) (fun h2 => .gd (band hg (eqf h2)) rfl)) rfl ?_
    refine WL.q (Y.and (.pl rfl) (fun h2 => .gd (eqt h2) rfl)) rfl ?_
    refine WL.q (Y.assign (.pl rfl)) rfl ?_
    refine WL.q (Y.assign (.pl rfl)) rfl ?_
    refine WL.next hQ16 (.cons (i := 4) rfl (.cons (i := 5) rfl (.nil))) ?_
    obtain rfl := Option.some.inj hF
    refine W.retV (fn := Try.f153) (vs := [.int .i64 i7, .bool ((decide (i7 < ((x1).length : Int))) && ((decide (x14 = target6)) || ((!(decide (x15 = x15))) && (!(decide (target6 = target6))))))]) Try.results153 ⟨.tmp rfl, ⟨.tmp rfl, trivial⟩⟩ (fun _ _ h => h) (fun wz hw => ?_)
    exact hR _ _ ⟨rfl, (hw.pick [] rfl)⟩

def ren21 : Go.Shelf.Ren := ⟨fun x => match x with | 21 => 154 | 27 => 158 | 28 => 159 | 35 => 161 | 39 => 66 | n => n, fun x => match x with | 22 => 23 | 3 => 3 | 4 => 4 | 0 => 0 | n => n, fun x => x⟩
theorem lays21 : Lays2.n21 Try.prog ren21 where
  mixed := by kernel_rfl
  f21 := Try.func154.trans (congrArg some (by kernel_rfl))
  f27 := Try.func158.trans (congrArg some (by kernel_rfl))
  f28 := Try.func159.trans (congrArg some (by kernel_rfl))
  f35 := Try.func161.trans (congrArg some (by kernel_rfl))
  f39 := Try.func66.trans (congrArg some (by kernel_rfl))
  t0 := Try.underlying0
  a0 := Try.isAgg0
  z0 := Try.sizeOf0
  v0 := Try.zeroValue0
  t3 := Try.underlying3
  a3 := Try.isAgg3
  z3 := Try.sizeOf3
  v3 := Try.zeroValue3
  t4 := Try.underlying4
  a4 := Try.isAgg4
  z4 := Try.sizeOf4
  v4 := Try.zeroValue4
  t22 := Try.underlying23
  a22 := Try.isAgg23
  z22 := Try.sizeOf23
  v22 := Try.zeroValue23
  i3 := by kernel_rfl
theorem slices_Insert_int_ok {N : Nat} {sI1 : (List Int)} {iI2 : Int} {vI3 : (List Int)} {AI4 : Option Addr} {cI5 : Nat} {AI6 : Option Addr} {cI7 : Nat} {res : (List Int)} (hF : slices_Insert_int N sI1 iI2 vI3 = some res) {w0 w : World} {T : List Chunk} (hw : St w0.heap.size w0 ([cR (eI .i64) 1 AI4 cI5 3 sI1, cR (eI .i64) 1 AI6 cI7 3 vI3] ++ T) w) :
    Calls Try.prog 154 (List.toArray [.slice AI4 (sI1).length cI5, .int .i64 iI2, .slice AI6 (vI3).length cI7]) w (fun e w' => ∃ g : (Option Addr × Nat), (True) ∧ e = .returned (.slice g.1 (res).length g.2) ∧ St w0.heap.size w0 ([cR (eI .i64) 1 g.1 g.2 3 res] ++ T) w') := insert_calls lays21 hF hw

def ren23 : Go.Shelf.Ren := ⟨fun x => match x with | 23 => 155 | n => n, fun x => match x with | 22 => 23 | 3 => 3 | 4 => 4 | 0 => 0 | n => n, fun x => x⟩
theorem lays23 : Lays2.n23 Try.prog ren23 where
  mixed := by kernel_rfl
  f23 := Try.func155.trans (congrArg some (by kernel_rfl))
  t0 := Try.underlying0
  a0 := Try.isAgg0
  z0 := Try.sizeOf0
  v0 := Try.zeroValue0
  t3 := Try.underlying3
  a3 := Try.isAgg3
  z3 := Try.sizeOf3
  v3 := Try.zeroValue3
  t4 := Try.underlying4
  a4 := Try.isAgg4
  z4 := Try.sizeOf4
  v4 := Try.zeroValue4
  t22 := Try.underlying23
  a22 := Try.isAgg23
  z22 := Try.sizeOf23
  v22 := Try.zeroValue23
  i3 := by kernel_rfl
theorem slices_Delete_int_ok {N : Nat} {sI1 : (List Int)} {iI2 : Int} {vI3 : Int} {AI4 : Option Addr} {cI5 : Nat} {res : (List Int)} (hF : slices_Delete_int N sI1 iI2 vI3 = some res) {w0 w : World} {T : List Chunk} (hw : St w0.heap.size w0 ([cR (eI .i64) 1 AI4 cI5 3 sI1] ++ T) w) :
    Calls Try.prog 155 (List.toArray [.slice AI4 (sI1).length cI5, .int .i64 iI2, .int .i64 vI3]) w (fun e w' => ∃ g : (Option Addr × Nat), (True) ∧ e = .returned (.slice g.1 (res).length g.2) ∧ St w0.heap.size w0 ([cR (eI .i64) 1 g.1 g.2 3 res] ++ T) w') := delete_calls lays23 hF hw

def object_set_step (N : Nat) (a1 : ObjectSet) (s4 : (List Int)) (kind5 : Int) (arg6 : Int) : Option ((List Int) × Int × Int) :=
  bd (slices_BinarySearch_int_int N s4 arg6) fun (r8 : (Int × Bool)) =>
  cond (((decide (kind5 = 7)) && (!r8.2)) && (decide (((s4).length : Int) = 50)))
    (some ([], 0, 2))
    (cond ((decide (kind5 = 7)) && (!r8.2))
      (bd (slices_Insert_int N s4 r8.1 ([arg6] : List Int)) fun (r10 : (List Int)) =>
      some (r10, 1, 0))
      (cond ((decide (kind5 = 7)) || (!r8.2))
        (some (s4, 0, 0))
        (cond (decide (kind5 = 8))
          (ck (ok64 (r8.1 + 1)) <|
          bd (slices_Delete_int N s4 r8.1 (r8.1 + 1)) fun (r14 : (List Int)) =>
          some (r14, 1, 0))
          (some (s4, 1, 0)))))

theorem object_set_step_ok {N : Nat} {a1 : ObjectSet} {s4 : (List Int)} {kind5 : Int} {arg6 : Int} {A2 : Option Addr} {c3 : Nat} {res : ((List Int) × Int × Int)} (hF : object_set_step N a1 s4 kind5 arg6 = some res) {w0 w : World} {T : List Chunk} (hw : St w0.heap.size w0 ([cR (eI .i64) 1 A2 c3 3 s4] ++ T) w) :
    Calls Try.prog 151 (List.toArray [.agg (encObjectSet a1).toArray, .slice A2 (s4).length c3, .int .i64 kind5, .int .i64 arg6]) w (fun e w' => ∃ g : (Option Addr × Nat), (True) ∧ e = .returned (.tuple #[.slice g.1 (res.1).length g.2, .int .i64 res.2.1, .int .i64 res.2.2]) ∧ St w0.heap.size w0 ([cR (eI .i64) 1 g.1 g.2 3 res.1] ++ T) w') := by
  refine W.enter (n := 60) Try.func151 rfl rfl Sub.refl (by simp) hw fun R hR => ?_
  unfold object_set_step at hF
  refine W.seqR fun Q1 hQ1 => ?_
  refine WL.step (WO.boxA (.pl rfl) rfl fun b7 => ?_)
  refine WL.q (Y.assign (.pl rfl)) rfl ?_
  refine WL.q (Y.assign (.pl rfl)) rfl ?_
  refine WL.q (Y.assign (.pl rfl)) rfl ?_
  refine WL.next hQ1 (.cons (i := 1) rfl (.cons (i := 2) rfl (.cons (i := 3) rfl (.nil)))) ?_
  refine W.seqR fun Q2 hQ2 => ?_
  refine WL.q (Y.move (.pl rfl)) rfl ?_
  refine WL.q (Y.move (.pl rfl)) rfl ?_
  obtain ⟨r8, hr8, hF⟩ := bnd hF
  refine WL.step (WO.callP isGo153 (.cons (.pl rfl) (.cons (.pl rfl) (.nil))) rfl (fun wz hw => slices_BinarySearch_int_int_ok (hr8) wz (SlIn.ofRow (fun _ => rfl) hw (i := 1) rfl)) ?_)
  refine WL.q (Y.move (.pl rfl)) rfl ?_
  refine WL.q (Y.extract (.pl rfl) rfl) rfl ?_
  refine WL.q (Y.extract (.pl rfl) rfl) rfl ?_
  refine WL.q (Y.assign (.pl rfl)) rfl ?_
  refine WL.q (Y.assign (.pl rfl)) rfl ?_
  refine WL.next hQ2 (.cons (i := 1) rfl (.cons (i := 2) rfl (.cons (i := 3) rfl (.cons (i := 11) rfl (.cons (i := 12) rfl (.nil)))))) ?_
  refine W.seq fun K3 hK3 => ?_
  refine W.block ?_
  refine W.seqR fun Q4 hQ4 => ?_
  refine WL.q (Y.move (.pl rfl)) rfl ?_
  refine WL.q (Y.eql (.pl rfl) (.pl rfl)) rfl ?_
  refine WL.q (Y.move (.pl rfl)) rfl ?_
  refine WL.g (.pl rfl rfl rfl) (fun hg => Y.move (.pl rfl)) rfl ?_
  refine WL.g (.pl rfl rfl rfl) (fun hg => Y.not (.gd (hg) rfl)) rfl ?_
  refine WL.q (Y.and (.pl rfl) (fun h2 => .gd (eqt h2) rfl)) rfl ?_
  refine WL.q (Y.move (.pl rfl)) rfl ?_
  refine WL.g (.pl rfl rfl rfl) (fun hg => Y.move (.pl rfl)) rfl ?_
  refine WL.g (.pl rfl rfl rfl) (fun hg => Y.len Try.underlying23 (.gd (hg) rfl)) rfl ?_
  refine WL.g (.pl rfl rfl rfl) (fun hg => Y.eql (.gd (hg) rfl) (.pl rfl)) rfl ?_
  refine WL.q (Y.and (.pl rfl) (fun h2 => .gd (eqt h2) rfl)) rfl ?_
  refine WL.q (Y.assign (.pl rfl)) rfl ?_
  refine WL.next hQ4 (.cons (i := 1) rfl (.cons (i := 2) rfl (.cons (i := 3) rfl (.cons (i := 11) rfl (.cons (i := 12) rfl (.cons (i := 19) rfl (.nil))))))) ?_
  refine W.cond (.pl rfl) (fun hC5 => ?_) (fun hC5 => ?_)
  · replace hF := cpos hC5 hF
    refine W.seqR fun Q6 hQ6 => ?_
    refine WL.q (Y.assign (.pl rfl)) rfl ?_
    refine WL.q (Y.assign (.pl rfl)) rfl ?_
    refine WL.q (Y.assign (.pl rfl)) rfl ?_
    refine WL.next hQ6 (.cons (i := 8) rfl (.cons (i := 9) rfl (.cons (i := 10) rfl (.nil)))) ?_
    obtain rfl := Option.some.inj hF
    refine W.retV (fn := Try.f151) (vs := [.slice none 0 0, .int .i64 0, .int .i64 2]) Try.results151 ⟨.tmp rfl, ⟨.tmp rfl, ⟨.tmp rfl, trivial⟩⟩⟩ (fun _ _ h => h) (fun wz hw => ?_)
    exact hR _ _ ⟨(none, 0), trivial, rfl, ((St.nilR (hw.pickK 2 [] rfl) (eI .i64) 1 3).pickK 1 [0] rfl)⟩
  · replace hF := cneg hC5 hF
    refine W.seqR fun Q7 hQ7 => ?_
    refine WL.q (Y.move (.pl rfl)) rfl ?_
    refine WL.q (Y.eql (.pl rfl) (.pl rfl)) rfl ?_
    refine WL.q (Y.move (.pl rfl)) rfl ?_
    refine WL.g (.pl rfl rfl rfl) (fun hg => Y.move (.pl rfl)) rfl ?_
    refine WL.g (.pl rfl rfl rfl) (fun hg => Y.not (.gd (hg) rfl)) rfl ?_
    refine WL.q (Y.and (.pl rfl) (fun h2 => .gd (eqt h2) rfl)) rfl ?_
    refine WL.q (Y.assign (.pl rfl)) rfl ?_
    refine WL.next hQ7 (.cons (i := 1) rfl (.cons (i := 2) rfl (.cons (i := 3) rfl (.cons (i := 11) rfl (.cons (i := 12) rfl (.cons (i := 31) rfl (.nil))))))) ?_
    refine W.cond (.pl rfl) (fun hC8 => ?_) (fun hC8 => ?_)
    · replace hF := cpos hC8 hF
      refine W.seqR fun Q9 hQ9 => ?_
      refine WL.q (Y.move (.pl rfl)) rfl ?_
      refine WL.q (Y.move (.pl rfl)) rfl ?_
      refine WL.q (Y.move (.pl rfl)) rfl ?_
      refine WL.step (WO.bsliceC (enc := (eI .i64)) (ys := ([arg6] : List Int)) Try.underlying23 bz3 (.cons (.pl rfl) (.nil)) rfl (fun _ => rfl) rfl rfl (by decide) (by decide) rfl fun b9 => ?_)
      obtain ⟨r10, hr10, hF⟩ := bnd hF
      refine WL.step (WO.call (γ := (Option Addr × Nat)) (fun g => .slice g.1 (r10).length g.2) (fun g => ([cR (eI .i64) 1 g.1 g.2 3 r10, cBx b7 147 (encObjectSet a1)] ++ T)) (fun g => True) isGo154 (.cons (.pl rfl) (.cons (.pl rfl) (.cons (.pl rfl) (.nil)))) rfl (fun wz hw => slices_Insert_int_ok (T := ([cBx b7 147 (encObjectSet a1)] ++ T)) (hr10) (hw.pickK 3 [2, 0, 1] rfl) ) ?_)
      rintro ⟨AI11, cI12⟩ -
      refine WL.q (Y.assign (.pl rfl)) rfl ?_
      refine WL.q (Y.assign (.pl rfl)) rfl ?_
      refine WL.q (Y.assign (.pl rfl)) rfl ?_
      refine WL.next hQ9 (.cons (i := 8) rfl (.cons (i := 9) rfl (.cons (i := 10) rfl (.nil)))) ?_
      obtain rfl := Option.some.inj hF
      refine W.retV (fn := Try.f151) (vs := [.slice AI11 (r10).length cI12, .int .i64 1, .int .i64 0]) Try.results151 ⟨.tmp rfl, ⟨.tmp rfl, ⟨.tmp rfl, trivial⟩⟩⟩ (fun _ _ h => h) (fun wz hw => ?_)
      exact hR _ _ ⟨(AI11, cI12), trivial, rfl, (hw.pickK 2 [0] rfl)⟩
    · replace hF := cneg hC8 hF
      refine W.seqR fun Q10 hQ10 => ?_
      refine WL.q (Y.move (.pl rfl)) rfl ?_
      refine WL.q (Y.eql (.pl rfl) (.pl rfl)) rfl ?_
      refine WL.q (Y.move (.pl rfl)) rfl ?_
      refine WL.g (.pl rfl rfl rfl) (fun hg => Y.move (.pl rfl)) rfl ?_
      refine WL.g (.pl rfl rfl rfl) (fun hg => Y.not (.gd (hg) rfl)) rfl ?_
      refine WL.q (Y.or (.pl rfl) (fun h2 => .gd (eqf h2) rfl)) rfl ?_
      refine WL.q (Y.assign (.pl rfl)) rfl ?_
      refine WL.next hQ10 (.cons (i := 1) rfl (.cons (i := 2) rfl (.cons (i := 11) rfl (.cons (i := 43) rfl (.nil))))) ?_
      refine W.cond (.pl rfl) (fun hC11 => ?_) (fun hC11 => ?_)
      · replace hF := cpos hC11 hF
        refine W.seqR fun Q12 hQ12 => ?_
        refine WL.q (Y.move (.pl rfl)) rfl ?_
        refine WL.q (Y.assign (.pl rfl)) rfl ?_
        refine WL.q (Y.assign (.pl rfl)) rfl ?_
        refine WL.q (Y.assign (.pl rfl)) rfl ?_
        refine WL.next hQ12 (.cons (i := 8) rfl (.cons (i := 9) rfl (.cons (i := 10) rfl (.nil)))) ?_
        obtain rfl := Option.some.inj hF
        refine W.retV (fn := Try.f151) (vs := [.slice A2 (s4).length c3, .int .i64 0, .int .i64 0]) Try.results151 ⟨.tmp rfl, ⟨.tmp rfl, ⟨.tmp rfl, trivial⟩⟩⟩ (fun _ _ h => h) (fun wz hw => ?_)
        exact hR _ _ ⟨(A2, c3), trivial, rfl, (hw.pickK 2 [1] rfl)⟩
      · replace hF := cneg hC11 hF
        refine W.seqR fun Q13 hQ13 => ?_
        refine WL.q (Y.move (.pl rfl)) rfl ?_
        refine WL.q (Y.eql (.pl rfl) (.pl rfl)) rfl ?_
        refine WL.q (Y.assign (.pl rfl)) rfl ?_
        refine WL.next hQ13 (.cons (i := 1) rfl (.cons (i := 11) rfl (.cons (i := 51) rfl (.nil)))) ?_
        refine W.cond (.pl rfl) (fun hC14 => ?_) (fun hC14 => ?_)
        · replace hF := cpos hC14 hF
          refine W.seqR fun Q15 hQ15 => ?_
          refine WL.q (Y.move (.pl rfl)) rfl ?_
          refine WL.q (Y.move (.pl rfl)) rfl ?_
          refine WL.q (Y.move (.pl rfl)) rfl ?_
          obtain ⟨hk13, hF⟩ := ckh hF
          refine WL.q (Y.add (.pl rfl) (.pl rfl) (ok64_lt (hk13))) rfl ?_
          obtain ⟨r14, hr14, hF⟩ := bnd hF
          refine WL.step (WO.call (γ := (Option Addr × Nat)) (fun g => .slice g.1 (r14).length g.2) (fun g => ([cR (eI .i64) 1 g.1 g.2 3 r14, cBx b7 147 (encObjectSet a1)] ++ T)) (fun g => True) isGo155 (.cons (.pl rfl) (.cons (.pl rfl) (.cons (.pl rfl) (.nil)))) rfl (fun wz hw => slices_Delete_int_ok (T := ([cBx b7 147 (encObjectSet a1)] ++ T)) (hr14) (hw.pickK 2 [1, 0] rfl) ) ?_)
          rintro ⟨AI15, cI16⟩ -
          refine WL.q (Y.assign (.pl rfl)) rfl ?_
          refine WL.q (Y.assign (.pl rfl)) rfl ?_
          refine WL.q (Y.assign (.pl rfl)) rfl ?_
          refine WL.next hQ15 (.cons (i := 8) rfl (.cons (i := 9) rfl (.cons (i := 10) rfl (.nil)))) ?_
          obtain rfl := Option.some.inj hF
          refine W.retV (fn := Try.f151) (vs := [.slice AI15 (r14).length cI16, .int .i64 1, .int .i64 0]) Try.results151 ⟨.tmp rfl, ⟨.tmp rfl, ⟨.tmp rfl, trivial⟩⟩⟩ (fun _ _ h => h) (fun wz hw => ?_)
          exact hR _ _ ⟨(AI15, cI16), trivial, rfl, (hw.pickK 2 [0] rfl)⟩
        · replace hF := cneg hC14 hF
          refine W.skip ?_
          refine W.go hK3 (.cons (i := 1) rfl (.nil)) ?_
          refine W.seqR fun Q16 hQ16 => ?_
          refine WL.q (Y.move (.pl rfl)) rfl ?_
          refine WL.q (Y.assign (.pl rfl)) rfl ?_
          refine WL.q (Y.assign (.pl rfl)) rfl ?_
          refine WL.q (Y.assign (.pl rfl)) rfl ?_
          refine WL.next hQ16 (.cons (i := 8) rfl (.cons (i := 9) rfl (.cons (i := 10) rfl (.nil)))) ?_
          obtain rfl := Option.some.inj hF
          refine W.retV (fn := Try.f151) (vs := [.slice A2 (s4).length c3, .int .i64 1, .int .i64 0]) Try.results151 ⟨.tmp rfl, ⟨.tmp rfl, ⟨.tmp rfl, trivial⟩⟩⟩ (fun _ _ h => h) (fun wz hw => ?_)
          exact hR _ _ ⟨(A2, c3), trivial, rfl, (hw.pickK 2 [1] rfl)⟩

def object_ticket_step (N : Nat) (a1 : ObjectRegister) (s2 : (List Int)) (x7 : Int) (x8 : Int) : Option ((List Int) × Int × Int) :=
  bd (ix s2 0) fun (x10 : Int) =>
  cond (decide (x10 = 1000))
    (some ([], 0, 2))
    (ck (ok64 (x10 + 1)) <|
    some (([(x10 + 1)] : List Int), x10, 0))

theorem object_ticket_step_ok {N : Nat} {a1 : ObjectRegister} {s2 : (List Int)} {x7 : Int} {x8 : Int} {res : ((List Int) × Int × Int)} (hF : object_ticket_step N a1 s2 x7 x8 = some res) (w : World) {v6 : Value} (hs5 : SlIn (eI .i64) 1 w v6 s2) :
    Made Try.prog 162 [.agg (encObjectRegister a1).toArray, v6, .int .i64 x7, .int .i64 x8] w (fun g : (Option Addr × Nat) => .tuple #[.slice g.1 (res.1).length g.2, .int .i64 res.2.1, .int .i64 res.2.2]) (fun g => [cR (eI .i64) 1 g.1 g.2 3 res.1]) (fun g => True) := by
  obtain ⟨A3, c4, rfl, hcc4, hs5⟩ := hs5.form
  refine W.enter (n := 23) Try.func162 rfl rfl Sub.refl (by simp) (St.start w) fun R hR => ?_
  unfold object_ticket_step at hF
  refine W.seqR fun Q1 hQ1 => ?_
  refine WL.step (WO.boxA (.pl rfl) rfl fun b9 => ?_)
  refine WL.q (Y.assign (.pl rfl)) rfl ?_
  refine WL.q (Y.assign (.pl rfl)) rfl ?_
  refine WL.q (Y.assign (.pl rfl)) rfl ?_
  refine WL.next hQ1 (.cons (i := 1) rfl (.nil)) ?_
  refine W.seq fun K2 hK2 => ?_
  refine W.seqR fun Q3 hQ3 => ?_
  refine WL.q (Y.move (.pl rfl)) rfl ?_
  obtain ⟨x10, hx10, hF⟩ := bnd hF
  refine WL.q (Y.slEl Try.underlying23 cells3 hs5 (.pl rfl) (.pl rfl) (ix_lt (hx10))) rfl ?_
  refine WL.q (Y.loadS (enc := (eI .i64)) (v := .int .i64 x10) (j := 0) Try.underlying3 rfl hs5 (.pl rfl) (hx10) rfl rfl) rfl ?_
  refine WL.q (Y.eql (.pl rfl) (.pl rfl)) rfl ?_
  refine WL.next hQ3 (.cons (i := 1) rfl (.cons (i := 14) rfl (.nil))) ?_
  refine W.cond (.pl rfl) (fun hC4 => ?_) (fun hC4 => ?_)
  · replace hF := cpos hC4 hF
    refine W.seqR fun Q5 hQ5 => ?_
    refine WL.q (Y.assign (.pl rfl)) rfl ?_
    refine WL.q (Y.assign (.pl rfl)) rfl ?_
    refine WL.q (Y.assign (.pl rfl)) rfl ?_
    refine WL.next hQ5 (.cons (i := 8) rfl (.cons (i := 9) rfl (.cons (i := 10) rfl (.nil)))) ?_
    obtain rfl := Option.some.inj hF
    refine W.retV (fn := Try.f162) (vs := [.slice none 0 0, .int .i64 0, .int .i64 2]) Try.results162 ⟨.tmp rfl, ⟨.tmp rfl, ⟨.tmp rfl, trivial⟩⟩⟩ (fun _ _ h => h) (fun wz hw => ?_)
    exact hR _ _ ⟨(none, 0), trivial, rfl, ((St.nilR (hw.pick [] rfl) (eI .i64) 1 3).pick [0] rfl)⟩
  · replace hF := cneg hC4 hF
    refine W.skip ?_
    refine W.go hK2 (.cons (i := 1) rfl (.nil)) ?_
    refine W.seqX 10 (by kernel_rfl) fun K6 hK6 => ?_
    refine WX.pure 0 #[true, false, false, false, false, false, false, false, false, false, false] rfl (by kernel_rfl) (fun _ _ => Y.move (.pl rfl)) rfl ?_
    refine WX.take 1 #[true, true, false, false, false, false, false, false, false, false, false] (fun wz hw => St.tail [] hw) rfl (by kernel_rfl) (Y.slEl Try.underlying23 cells3 hs5 (.pl rfl) (.pl rfl) (ix_lt (hx10))) rfl ?_
    refine WX.take 2 #[true, true, true, false, false, false, false, false, false, false, false] (fun wz hw => St.tail [] hw) rfl (by kernel_rfl) (Y.loadS (enc := (eI .i64)) (v := .int .i64 x10) (j := 0) Try.underlying3 rfl hs5 (.pl rfl) (hx10) rfl rfl) rfl ?_
    obtain ⟨hk11, hF⟩ := ckh hF
    refine WX.pure 3 #[true, true, true, true, false, false, false, false, false, false, false] rfl (by kernel_rfl) (fun _ _ => Y.add (.pl rfl) (.pl rfl) (ok64_lt (hk11))) rfl ?_
    refine WX.pure 5 #[true, true, true, true, false, true, false, false, false, false, false] rfl (by kernel_rfl) (fun _ _ => Y.move (.pl rfl)) rfl ?_
    refine WX.take 6 #[true, true, true, true, false, true, true, false, false, false, false] (fun wz hw => St.tail [] hw) rfl (by kernel_rfl) (Y.slEl Try.underlying23 cells3 hs5 (.pl rfl) (.pl rfl) (ix_lt (hx10))) rfl ?_
    refine WX.take 7 #[true, true, true, true, false, true, true, true, false, false, false] (fun wz hw => St.tail [] hw) rfl (by kernel_rfl) (Y.loadS (enc := (eI .i64)) (v := .int .i64 x10) (j := 0) Try.underlying3 rfl hs5 (.pl rfl) (hx10) rfl rfl) rfl ?_
    refine WX.one 4 #[true, true, true, true, true, true, true, true, false, false, false] (fun wz hw => St.tail [] hw) rfl (by kernel_rfl) (WO.bsliceC (enc := (eI .i64)) (ys := ([(x10 + 1)] : List Int)) Try.underlying23 bz3 (.cons (.pl rfl) (.nil)) rfl (fun _ => rfl) rfl rfl (by decide) (by decide) rfl fun b12 => ?_)
    refine WX.pure 8 #[true, true, true, true, true, true, true, true, true, false, false] rfl (by kernel_rfl) (fun _ _ => Y.assign (.pl rfl)) rfl ?_
    refine WX.pure 9 #[true, true, true, true, true, true, true, true, true, true, false] rfl (by kernel_rfl) (fun _ _ => Y.assign (.pl rfl)) rfl ?_
    refine WX.stop #[true, true, true, true, true, true, true, true, true, true, true] (fun wz hw => St.tail [_] hw) rfl (by kernel_rfl) (WO.q (Y.assign (.pl rfl)) rfl ?_)
    refine WA.done (by kernel_rfl) ?_
    refine KK.next hK6 (.cons (i := 8) rfl (.cons (i := 9) rfl (.cons (i := 10) rfl (.nil)))) ?_
    obtain rfl := Option.some.inj hF
    refine W.retV (fn := Try.f162) (vs := [.slice (some ⟨b12, 0, none⟩) (([(x10 + 1)] : List Int)).length (([(x10 + 1)] : List Int)).length, .int .i64 x10, .int .i64 0]) Try.results162 ⟨.tmp rfl, ⟨.tmp rfl, ⟨.tmp rfl, trivial⟩⟩⟩ (fun _ _ h => h) (fun wz hw => ?_)
    exact hR _ _ ⟨((some ⟨b12, 0, none⟩), (([(x10 + 1)] : List Int)).length), trivial, rfl, (hw.pick [0] rfl)⟩

def object_Step (N : Nat) (typ1 : Int) (s2 : (List Int)) (kind7 : Int) (arg8 : Int) : Option ((List Int) × Int × Int) :=
  bd (object_Check N typ1 s2) fun (r9 : Int) =>
  cond (!(decide (r9 = 0)))
    (some ([], 0, r9))
    (bd (history_Fits N typ1 kind7) fun (r10 : Bool) =>
    bd ((cond ((!r10) == false) (history_Argument N kind7 arg8) (some false))) fun (r11 : Bool) =>
    cond ((!r10) || (!r11))
      (some ([], 0, 3))
      (bd (α := ((List Int) × Int × Int)) (bd (object_of N typ1) fun (r18 : Int) =>
        cond (decide (r18 = 142))
          (ck (limB 8 (s2).length) <|
          bd (object_register_step N (ObjectRegister.mk (ObjectSingle.mk )) s2 kind7 arg8) fun (r22 : ((List Int) × Int)) =>
          some (r22.1, r22.2, 0))
          (cond (decide (r18 = 145))
            (ck (limB 8 (s2).length) <|
            bd (object_queue_step N (ObjectSet.mk (ObjectSingle.mk )) s2 kind7 arg8) fun (r28 : ((List Int) × Int × Int)) =>
            some (r28.1, r28.2.1, r28.2.2))
            (cond (decide (r18 = 146))
              (ck (limB 8 (s2).length) <|
              bd (object_stack_step N (ObjectSet.mk (ObjectSingle.mk )) s2 kind7 arg8) fun (r35 : ((List Int) × Int × Int)) =>
              some (r35.1, r35.2.1, r35.2.2))
              (cond (decide (r18 = 147))
                (ck (limB 8 (s2).length) <|
                bd (object_set_step N (ObjectSet.mk (ObjectSingle.mk )) s2 kind7 arg8) fun (r41 : ((List Int) × Int × Int)) =>
                some (r41.1, r41.2.1, r41.2.2))
                (cond (decide (r18 = 148))
                  (ck (limB 8 (s2).length) <|
                  bd (object_ticket_step N (ObjectRegister.mk (ObjectSingle.mk )) s2 kind7 arg8) fun (r47 : ((List Int) × Int × Int)) =>
                  some (r47.1, r47.2.1, r47.2.2))
                  (none)))))) <|
      fun (next15, res16, e17) => 
        ck (limB 8 (next15).length) <|
        some (next15, res16, e17)))

theorem object_Step_ok {N : Nat} {typ1 : Int} {s2 : (List Int)} {kind7 : Int} {arg8 : Int} {res : ((List Int) × Int × Int)} (hF : object_Step N typ1 s2 kind7 arg8 = some res) (w : World) {v6 : Value} (hs5 : SlIn (eI .i64) 1 w v6 s2) :
    Made Try.prog 23 [.int .i64 typ1, v6, .int .i64 kind7, .int .i64 arg8] w (fun g : (Option Addr × Nat) => .tuple #[.slice g.1 (res.1).length g.2, .int .i64 res.2.1, .int .i64 res.2.2]) (fun g => [cR (eI .i64) 1 g.1 g.2 3 res.1]) (fun g => True) := by
  obtain ⟨A3, c4, rfl, hcc4, hs5⟩ := hs5.form
  refine W.enter (n := 49) Try.func23 rfl rfl Sub.refl (by simp) (St.start w) fun R hR => ?_
  unfold object_Step at hF
  refine W.seqR fun Q1 hQ1 => ?_
  refine WL.q (Y.assign (.pl rfl)) rfl ?_
  refine WL.q (Y.assign (.pl rfl)) rfl ?_
  refine WL.q (Y.assign (.pl rfl)) rfl ?_
  refine WL.next hQ1 (.cons (i := 0) rfl (.cons (i := 1) rfl (.cons (i := 2) rfl (.cons (i := 3) rfl (.nil))))) ?_
  refine W.seq fun K2 hK2 => ?_
  refine W.seqR fun Q3 hQ3 => ?_
  refine WL.q (Y.move (.pl rfl)) rfl ?_
  refine WL.q (Y.move (.pl rfl)) rfl ?_
  obtain ⟨r9, hr9, hF⟩ := bnd hF
  refine WL.step (WO.callP isGo43 (.cons (.pl rfl) (.cons (.pl rfl) (.nil))) rfl (fun wz hw => object_Check_ok (hr9) wz (hs5.mono hw)) ?_)
  refine WL.q (Y.assign (.pl rfl)) rfl ?_
  refine WL.next hQ3 (.cons (i := 0) rfl (.cons (i := 1) rfl (.cons (i := 2) rfl (.cons (i := 3) rfl (.cons (i := 11) rfl (.nil)))))) ?_
  refine W.seqR fun Q4 hQ4 => ?_
  refine WL.q (Y.move (.pl rfl)) rfl ?_
  refine WL.q (Y.neq (.pl rfl) (.pl rfl)) rfl ?_
  refine WL.next hQ4 (.cons (i := 0) rfl (.cons (i := 1) rfl (.cons (i := 2) rfl (.cons (i := 3) rfl (.cons (i := 11) rfl (.cons (i := 19) rfl (.nil))))))) ?_
  refine W.cond (.pl rfl) (fun hC5 => ?_) (fun hC5 => ?_)
  · replace hF := cpos hC5 hF
    refine W.seqR fun Q6 hQ6 => ?_
    refine WL.q (Y.move (.pl rfl)) rfl ?_
    refine WL.q (Y.assign (.pl rfl)) rfl ?_
    refine WL.q (Y.assign (.pl rfl)) rfl ?_
    refine WL.q (Y.assign (.pl rfl)) rfl ?_
    refine WL.next hQ6 (.cons (i := 8) rfl (.cons (i := 9) rfl (.cons (i := 10) rfl (.nil)))) ?_
    obtain rfl := Option.some.inj hF
    refine W.retV (fn := Try.f23) (vs := [.slice none 0 0, .int .i64 0, .int .i64 r9]) Try.results23 ⟨.tmp rfl, ⟨.tmp rfl, ⟨.tmp rfl, trivial⟩⟩⟩ (fun _ _ h => h) (fun wz hw => ?_)
    exact hR _ _ ⟨(none, 0), trivial, rfl, ((St.nilR (hw.pick [] rfl) (eI .i64) 1 3).pick [0] rfl)⟩
  · replace hF := cneg hC5 hF
    refine W.skip ?_
    refine W.go hK2 (.cons (i := 0) rfl (.cons (i := 1) rfl (.cons (i := 2) rfl (.cons (i := 3) rfl (.nil))))) ?_
    refine W.seq fun K7 hK7 => ?_
    refine W.seqR fun Q8 hQ8 => ?_
    refine WL.q (Y.move (.pl rfl)) rfl ?_
    refine WL.q (Y.move (.pl rfl)) rfl ?_
    obtain ⟨r10, hr10, hF⟩ := bnd hF
    refine WL.step (WO.callP isGo44 (.cons (.pl rfl) (.cons (.pl rfl) (.nil))) rfl (fun wz hw => history_Fits_ok (hr10) wz ) ?_)
    refine WL.q (Y.not (.pl rfl)) rfl ?_
    refine WL.q (Y.move (.pl rfl)) rfl ?_
    refine WL.g (.pl rfl rfl rfl) (fun hg => Y.move (.pl rfl)) rfl ?_
    refine WL.g (.pl rfl rfl rfl) (fun hg => Y.move (.pl rfl)) rfl ?_
    obtain ⟨r11, hr11, hF⟩ := bnd hF
    refine WL.gP (.pl rfl rfl rfl) isGo45 (fun hg => (.cons (.gd (hg) rfl) (.cons (.gd (hg) rfl) (.nil)))) rfl (fun hg wz hw => history_Argument_ok (gpos hg hr11) wz ) ?_
    refine WL.g (.pl rfl rfl rfl) (fun hg => Y.not (.gd (hg) rfl)) rfl ?_
    refine WL.q (Y.or (.pl rfl) (fun h2 => .gd (eqf h2) rfl)) rfl ?_
    refine WL.next hQ8 (.cons (i := 0) rfl (.cons (i := 1) rfl (.cons (i := 2) rfl (.cons (i := 3) rfl (.cons (i := 30) rfl (.nil)))))) ?_
    refine W.cond (.pl rfl) (fun hC9 => ?_) (fun hC9 => ?_)
    · replace hF := cpos hC9 hF
      refine W.seqR fun Q10 hQ10 => ?_
      refine WL.q (Y.assign (.pl rfl)) rfl ?_
      refine WL.q (Y.assign (.pl rfl)) rfl ?_
      refine WL.q (Y.assign (.pl rfl)) rfl ?_
      refine WL.next hQ10 (.cons (i := 8) rfl (.cons (i := 9) rfl (.cons (i := 10) rfl (.nil)))) ?_
      obtain rfl := Option.some.inj hF
      refine W.retV (fn := Try.f23) (vs := [.slice none 0 0, .int .i64 0, .int .i64 3]) Try.results23 ⟨.tmp rfl, ⟨.tmp rfl, ⟨.tmp rfl, trivial⟩⟩⟩ (fun _ _ h => h) (fun wz hw => ?_)
      exact hR _ _ ⟨(none, 0), trivial, rfl, ((St.nilR (hw.pick [] rfl) (eI .i64) 1 3).pick [0] rfl)⟩
    · replace hF := cneg hC9 hF
      refine W.skip ?_
      refine W.go hK7 (.cons (i := 0) rfl (.cons (i := 1) rfl (.cons (i := 2) rfl (.cons (i := 3) rfl (.nil))))) ?_
      obtain ⟨o11, hF11, hF⟩ := bnd hF
      refine W.join6 (Em := fun (next15 : (List Int)) (res16 : Int) (e17 : Int) (o12 : Option Nat) (A13 : Option Addr) (c14 : Nat) => [(12, .slice A13 (next15).length c14), (13, .int .i64 res16), (14, .int .i64 e17)]) (M := fun next15 res16 e17 o12 A13 c14 => [cV o12 (eI .i64) 1 A13 c14 next15]) (I := fun next15 res16 e17 o12 A13 c14 => (next15, res16, e17) = o11) (.nil) (fun K12 hK12 => ?_) ?_
      · -- up to
        refine W.regX 16 (by kernel_rfl) ?_
        refine WX.pure 0 #[true, false, false, false, false, false, false, false, false, false, false, false, false, false, false, false, false] rfl (by kernel_rfl) (fun _ _ => Y.move (.pl rfl)) rfl ?_
        refine WX.pure 2 #[true, false, true, false, false, false, false, false, false, false, false, false, false, false, false, false, false] rfl (by kernel_rfl) (fun _ _ => Y.move (.pl rfl)) rfl ?_
        refine WX.pure 4 #[true, false, true, false, true, false, false, false, false, false, false, false, false, false, false, false, false] rfl (by kernel_rfl) (fun _ _ => Y.move (.pl rfl)) rfl ?_
        refine WX.pure 5 #[true, false, true, false, true, true, false, false, false, false, false, false, false, false, false, false, false] rfl (by kernel_rfl) (fun _ _ => Y.move (.pl rfl)) rfl ?_
        obtain ⟨r18, hr18, hF11⟩ := bnd hF11
        refine WX.one 1 #[true, true, true, false, true, true, false, false, false, false, false, false, false, false, false, false, false] (fun wz hw => St.tail [] hw) rfl (by kernel_rfl) (WO.callP isGo46 (.cons (.pl rfl) (.nil)) rfl (fun wz hw => object_of_ok (hr18) wz ) ?_)
        refine bsplit (decide (r18 = 142)) (fun hT14 => ?_) (fun hT14 => ?_)
        · replace hF11 := cpos hT14 hF11
          refine WX.pure 6 #[true, true, true, false, true, true, true, false, false, false, false, false, false, false, false, false, false] rfl (by kernel_rfl) (fun _ _ => Y.fn (f := .method "alibi/object.step") (.cons (Evs.ifE (k := 142) (of_decide_eq_true hT14) rfl (.pl rfl)) (.nil))) rfl ?_
          refine WX.pure 7 #[true, true, true, false, true, true, true, true, false, false, false, false, false, false, false, false, false] rfl (by kernel_rfl) (fun _ _ => Y.nilM nah142_step (.pl rfl)) rfl ?_
          refine WX.pure 8 #[true, true, true, false, true, true, true, true, true, false, false, false, false, false, false, false, false] rfl (by kernel_rfl) (fun _ _ => Y.move (.pl rfl)) rfl ?_
          obtain ⟨hk19, hF11⟩ := ckh hF11
          refine WX.one 3 #[true, true, true, true, true, true, true, true, true, false, false, false, false, false, false, false, false] (fun wz hw => St.tail [] hw) rfl (by kernel_rfl) (WO.callM isGo12 (.cons (.pl rfl) (.nil)) rfl (fun wz hw => slices_Clone_int_int_ok (hk19) wz (hs5.mono hw)) ?_)
          rintro ⟨A20, c21⟩ -
          obtain ⟨r22, hr22, hF11⟩ := bnd hF11
          refine WX.one 9 #[true, true, true, true, true, true, true, true, true, true, false, false, false, false, false, false, false] (fun wz hw => St.tail [_] hw) rfl (by kernel_rfl) (WO.callI (γ := (Option Addr × Nat)) (u := .agg #[]) (v := .agg #[]) (fun g => .tuple #[.slice g.1 (r22.1).length g.2, .int .i64 r22.2, .int .i64 0]) (fun g => [cR (eI .i64) 1 g.1 g.2 3 r22.1]) (fun g => True) meth142_step isGo144 (Evs.ifE (k := 142) (of_decide_eq_true hT14) rfl (.pl rfl)) (.cons (.pl rfl) (.cons (.pl rfl) (.cons (.pl rfl) (.nil)))) rfl (fun wz hw => object_register_step_ok (T := []) (hr22) (hw.pick [0] rfl) ) ?_)
          rintro ⟨A23, c24⟩ -
          refine WX.pure 10 #[true, true, true, true, true, true, true, true, true, true, true, false, false, false, false, false, false] rfl (by kernel_rfl) (fun _ _ => Y.move (.pl rfl)) rfl ?_
          refine WX.pure 11 #[true, true, true, true, true, true, true, true, true, true, true, true, false, false, false, false, false] rfl (by kernel_rfl) (fun _ _ => Y.extract (.pl rfl) rfl) rfl ?_
          refine WX.pure 12 #[true, true, true, true, true, true, true, true, true, true, true, true, true, false, false, false, false] rfl (by kernel_rfl) (fun _ _ => Y.extract (.pl rfl) rfl) rfl ?_
          refine WX.pure 13 #[true, true, true, true, true, true, true, true, true, true, true, true, true, true, false, false, false] rfl (by kernel_rfl) (fun _ _ => Y.extract (.pl rfl) rfl) rfl ?_
          refine WX.pure 14 #[true, true, true, true, true, true, true, true, true, true, true, true, true, true, true, false, false] rfl (by kernel_rfl) (fun _ _ => Y.assign (.pl rfl)) rfl ?_
          refine WX.pure 15 #[true, true, true, true, true, true, true, true, true, true, true, true, true, true, true, true, false] rfl (by kernel_rfl) (fun _ _ => Y.assign (.pl rfl)) rfl ?_
          refine WX.stop #[true, true, true, true, true, true, true, true, true, true, true, true, true, true, true, true, true] (fun wz hw => St.tail [_] hw) rfl (by kernel_rfl) (WO.q (Y.assign (.pl rfl)) rfl ?_)
          refine WA.done (by kernel_rfl) ?_
          exact W.joinAt6 hK12 r22.1 r22.2 0 (blkA A23) A23 c24 (Option.some.inj hF11) (.cons rfl (.cons rfl (.cons rfl (.nil)))) (.nil) (fun wz hw => (St.toV (enc := (eI .i64)) (sz := 1) (A' := A23) (cap' := c24) (ys := r22.1) (fun _ => rfl) hw (i := 0) rfl (fun wz h => h)).pick [0] rfl)
        · replace hF11 := cneg hT14 hF11
          refine bsplit (decide (r18 = 145)) (fun hT15 => ?_) (fun hT15 => ?_)
          · replace hF11 := cpos hT15 hF11
            refine WX.pure 6 #[true, true, true, false, true, true, true, false, false, false, false, false, false, false, false, false, false] rfl (by kernel_rfl) (fun _ _ => Y.fn (f := .method "alibi/object.step") (.cons (Evs.ifE (k := 145) (of_decide_eq_true hT15) rfl (.pl rfl)) (.nil))) rfl ?_
            refine WX.pure 7 #[true, true, true, false, true, true, true, true, false, false, false, false, false, false, false, false, false] rfl (by kernel_rfl) (fun _ _ => Y.nilM nah145_step (.pl rfl)) rfl ?_
            refine WX.pure 8 #[true, true, true, false, true, true, true, true, true, false, false, false, false, false, false, false, false] rfl (by kernel_rfl) (fun _ _ => Y.move (.pl rfl)) rfl ?_
            obtain ⟨hk25, hF11⟩ := ckh hF11
            refine WX.one 3 #[true, true, true, true, true, true, true, true, true, false, false, false, false, false, false, false, false] (fun wz hw => St.tail [] hw) rfl (by kernel_rfl) (WO.callM isGo12 (.cons (.pl rfl) (.nil)) rfl (fun wz hw => slices_Clone_int_int_ok (hk25) wz (hs5.mono hw)) ?_)
            rintro ⟨A26, c27⟩ -
            obtain ⟨r28, hr28, hF11⟩ := bnd hF11
            refine WX.one 9 #[true, true, true, true, true, true, true, true, true, true, false, false, false, false, false, false, false] (fun wz hw => St.tail [_] hw) rfl (by kernel_rfl) (WO.callI (γ := (Option Nat × Option Addr × Nat)) (u := .agg #[]) (v := .agg #[]) (fun g => .tuple #[.slice g.2.1 (r28.1).length g.2.2, .int .i64 r28.2.1, .int .i64 r28.2.2]) (fun g => [cV g.1 (eI .i64) 1 g.2.1 g.2.2 r28.1]) (fun g => True) meth145_step isGo148 (Evs.ifE (k := 145) (of_decide_eq_true hT15) rfl (.pl rfl)) (.cons (.pl rfl) (.cons (.pl rfl) (.cons (.pl rfl) (.nil)))) rfl (fun wz hw => object_queue_step_ok (T := []) (hr28) (hw.pick [0] rfl) ) ?_)
            rintro ⟨o29, A30, c31⟩ -
            refine WX.pure 10 #[true, true, true, true, true, true, true, true, true, true, true, false, false, false, false, false, false] rfl (by kernel_rfl) (fun _ _ => Y.move (.pl rfl)) rfl ?_
            refine WX.pure 11 #[true, true, true, true, true, true, true, true, true, true, true, true, false, false, false, false, false] rfl (by kernel_rfl) (fun _ _ => Y.extract (.pl rfl) rfl) rfl ?_
            refine WX.pure 12 #[true, true, true, true, true, true, true, true, true, true, true, true, true, false, false, false, false] rfl (by kernel_rfl) (fun _ _ => Y.extract (.pl rfl) rfl) rfl ?_
            refine WX.pure 13 #[true, true, true, true, true, true, true, true, true, true, true, true, true, true, false, false, false] rfl (by kernel_rfl) (fun _ _ => Y.extract (.pl rfl) rfl) rfl ?_
            refine WX.pure 14 #[true, true, true, true, true, true, true, true, true, true, true, true, true, true, true, false, false] rfl (by kernel_rfl) (fun _ _ => Y.assign (.pl rfl)) rfl ?_
            refine WX.pure 15 #[true, true, true, true, true, true, true, true, true, true, true, true, true, true, true, true, false] rfl (by kernel_rfl) (fun _ _ => Y.assign (.pl rfl)) rfl ?_
            refine WX.stop #[true, true, true, true, true, true, true, true, true, true, true, true, true, true, true, true, true] (fun wz hw => St.tail [_] hw) rfl (by kernel_rfl) (WO.q (Y.assign (.pl rfl)) rfl ?_)
            refine WA.done (by kernel_rfl) ?_
            exact W.joinAt6 hK12 r28.1 r28.2.1 r28.2.2 o29 A30 c31 (Option.some.inj hF11) (.cons rfl (.cons rfl (.cons rfl (.nil)))) (.nil) (fun wz hw => hw.pick [0] rfl)
          · replace hF11 := cneg hT15 hF11
            refine bsplit (decide (r18 = 146)) (fun hT16 => ?_) (fun hT16 => ?_)
            · replace hF11 := cpos hT16 hF11
              refine WX.pure 6 #[true, true, true, false, true, true, true, false, false, false, false, false, false, false, false, false, false] rfl (by kernel_rfl) (fun _ _ => Y.fn (f := .method "alibi/object.step") (.cons (Evs.ifE (k := 146) (of_decide_eq_true hT16) rfl (.pl rfl)) (.nil))) rfl ?_
              refine WX.pure 7 #[true, true, true, false, true, true, true, true, false, false, false, false, false, false, false, false, false] rfl (by kernel_rfl) (fun _ _ => Y.nilM nah146_step (.pl rfl)) rfl ?_
              refine WX.pure 8 #[true, true, true, false, true, true, true, true, true, false, false, false, false, false, false, false, false] rfl (by kernel_rfl) (fun _ _ => Y.move (.pl rfl)) rfl ?_
              obtain ⟨hk32, hF11⟩ := ckh hF11
              refine WX.one 3 #[true, true, true, true, true, true, true, true, true, false, false, false, false, false, false, false, false] (fun wz hw => St.tail [] hw) rfl (by kernel_rfl) (WO.callM isGo12 (.cons (.pl rfl) (.nil)) rfl (fun wz hw => slices_Clone_int_int_ok (hk32) wz (hs5.mono hw)) ?_)
              rintro ⟨A33, c34⟩ -
              obtain ⟨r35, hr35, hF11⟩ := bnd hF11
              refine WX.one 9 #[true, true, true, true, true, true, true, true, true, true, false, false, false, false, false, false, false] (fun wz hw => St.tail [_] hw) rfl (by kernel_rfl) (WO.callI (γ := (Option Addr × Nat)) (u := .agg #[]) (v := .agg #[]) (fun g => .tuple #[.slice g.1 (r35.1).length g.2, .int .i64 r35.2.1, .int .i64 r35.2.2]) (fun g => [cR (eI .i64) 1 g.1 g.2 3 r35.1]) (fun g => True) meth146_step isGo150 (Evs.ifE (k := 146) (of_decide_eq_true hT16) rfl (.pl rfl)) (.cons (.pl rfl) (.cons (.pl rfl) (.cons (.pl rfl) (.nil)))) rfl (fun wz hw => object_stack_step_ok (T := []) (hr35) (hw.pick [0] rfl) ) ?_)
              rintro ⟨A36, c37⟩ -
              refine WX.pure 10 #[true, true, true, true, true, true, true, true, true, true, true, false, false, false, false, false, false] rfl (by kernel_rfl) (fun _ _ => Y.move (.pl rfl)) rfl ?_
              refine WX.pure 11 #[true, true, true, true, true, true, true, true, true, true, true, true, false, false, false, false, false] rfl (by kernel_rfl) (fun _ _ => Y.extract (.pl rfl) rfl) rfl ?_
              refine WX.pure 12 #[true, true, true, true, true, true, true, true, true, true, true, true, true, false, false, false, false] rfl (by kernel_rfl) (fun _ _ => Y.extract (.pl rfl) rfl) rfl ?_
              refine WX.pure 13 #[true, true, true, true, true, true, true, true, true, true, true, true, true, true, false, false, false] rfl (by kernel_rfl) (fun _ _ => Y.extract (.pl rfl) rfl) rfl ?_
              refine WX.pure 14 #[true, true, true, true, true, true, true, true, true, true, true, true, true, true, true, false, false] rfl (by kernel_rfl) (fun _ _ => Y.assign (.pl rfl)) rfl ?_
              refine WX.pure 15 #[true, true, true, true, true, true, true, true, true, true, true, true, true, true, true, true, false] rfl (by kernel_rfl) (fun _ _ => Y.assign (.pl rfl)) rfl ?_
              refine WX.stop #[true, true, true, true, true, true, true, true, true, true, true, true, true, true, true, true, true] (fun wz hw => St.tail [_] hw) rfl (by kernel_rfl) (WO.q (Y.assign (.pl rfl)) rfl ?_)
              refine WA.done (by kernel_rfl) ?_
              exact W.joinAt6 hK12 r35.1 r35.2.1 r35.2.2 (blkA A36) A36 c37 (Option.some.inj hF11) (.cons rfl (.cons rfl (.cons rfl (.nil)))) (.nil) (fun wz hw => (St.toV (enc := (eI .i64)) (sz := 1) (A' := A36) (cap' := c37) (ys := r35.1) (fun _ => rfl) hw (i := 0) rfl (fun wz h => h)).pick [0] rfl)
            · replace hF11 := cneg hT16 hF11
              refine bsplit (decide (r18 = 147)) (fun hT17 => ?_) (fun hT17 => ?_)
              · replace hF11 := cpos hT17 hF11
                refine WX.pure 6 #[true, true, true, false, true, true, true, false, false, false, false, false, false, false, false, false, false] rfl (by kernel_rfl) (fun _ _ => Y.fn (f := .method "alibi/object.step") (.cons (Evs.ifE (k := 147) (of_decide_eq_true hT17) rfl (.pl rfl)) (.nil))) rfl ?_
                refine WX.pure 7 #[true, true, true, false, true, true, true, true, false, false, false, false, false, false, false, false, false] rfl (by kernel_rfl) (fun _ _ => Y.nilM nah147_step (.pl rfl)) rfl ?_
                refine WX.pure 8 #[true, true, true, false, true, true, true, true, true, false, false, false, false, false, false, false, false] rfl (by kernel_rfl) (fun _ _ => Y.move (.pl rfl)) rfl ?_
                obtain ⟨hk38, hF11⟩ := ckh hF11
                refine WX.one 3 #[true, true, true, true, true, true, true, true, true, false, false, false, false, false, false, false, false] (fun wz hw => St.tail [] hw) rfl (by kernel_rfl) (WO.callM isGo12 (.cons (.pl rfl) (.nil)) rfl (fun wz hw => slices_Clone_int_int_ok (hk38) wz (hs5.mono hw)) ?_)
                rintro ⟨A39, c40⟩ -
                obtain ⟨r41, hr41, hF11⟩ := bnd hF11
                refine WX.one 9 #[true, true, true, true, true, true, true, true, true, true, false, false, false, false, false, false, false] (fun wz hw => St.tail [_] hw) rfl (by kernel_rfl) (WO.callI (γ := (Option Addr × Nat)) (u := .agg #[]) (v := .agg #[]) (fun g => .tuple #[.slice g.1 (r41.1).length g.2, .int .i64 r41.2.1, .int .i64 r41.2.2]) (fun g => [cR (eI .i64) 1 g.1 g.2 3 r41.1]) (fun g => True) meth147_step isGo151 (Evs.ifE (k := 147) (of_decide_eq_true hT17) rfl (.pl rfl)) (.cons (.pl rfl) (.cons (.pl rfl) (.cons (.pl rfl) (.nil)))) rfl (fun wz hw => object_set_step_ok (T := []) (hr41) (hw.pick [0] rfl) ) ?_)
                rintro ⟨A42, c43⟩ -
                refine WX.pure 10 #[true, true, true, true, true, true, true, true, true, true, true, false, false, false, false, false, false] rfl (by kernel_rfl) (fun _ _ => Y.move (.pl rfl)) rfl ?_
                refine WX.pure 11 #[true, true, true, true, true, true, true, true, true, true, true, true, false, false, false, false, false] rfl (by kernel_rfl) (fun _ _ => Y.extract (.pl rfl) rfl) rfl ?_
                refine WX.pure 12 #[true, true, true, true, true, true, true, true, true, true, true, true, true, false, false, false, false] rfl (by kernel_rfl) (fun _ _ => Y.extract (.pl rfl) rfl) rfl ?_
                refine WX.pure 13 #[true, true, true, true, true, true, true, true, true, true, true, true, true, true, false, false, false] rfl (by kernel_rfl) (fun _ _ => Y.extract (.pl rfl) rfl) rfl ?_
                refine WX.pure 14 #[true, true, true, true, true, true, true, true, true, true, true, true, true, true, true, false, false] rfl (by kernel_rfl) (fun _ _ => Y.assign (.pl rfl)) rfl ?_
                refine WX.pure 15 #[true, true, true, true, true, true, true, true, true, true, true, true, true, true, true, true, false] rfl (by kernel_rfl) (fun _ _ => Y.assign (.pl rfl)) rfl ?_
                refine WX.stop #[true, true, true, true, true, true, true, true, true, true, true, true, true, true, true, true, true] (fun wz hw => St.tail [_] hw) rfl (by kernel_rfl) (WO.q (Y.assign (.pl rfl)) rfl ?_)
                refine WA.done (by kernel_rfl) ?_
                exact W.joinAt6 hK12 r41.1 r41.2.1 r41.2.2 (blkA A42) A42 c43 (Option.some.inj hF11) (.cons rfl (.cons rfl (.cons rfl (.nil)))) (.nil) (fun wz hw => (St.toV (enc := (eI .i64)) (sz := 1) (A' := A42) (cap' := c43) (ys := r41.1) (fun _ => rfl) hw (i := 0) rfl (fun wz h => h)).pick [0] rfl)
              · replace hF11 := cneg hT17 hF11
                refine bsplit (decide (r18 = 148)) (fun hT18 => ?_) (fun hT18 => ?_)
                · replace hF11 := cpos hT18 hF11
                  refine WX.pure 6 #[true, true, true, false, true, true, true, false, false, false, false, false, false, false, false, false, false] rfl (by kernel_rfl) (fun _ _ => Y.fn (f := .method "alibi/object.step") (.cons (Evs.ifE (k := 148) (of_decide_eq_true hT18) rfl (.pl rfl)) (.nil))) rfl ?_
                  refine WX.pure 7 #[true, true, true, false, true, true, true, true, false, false, false, false, false, false, false, false, false] rfl (by kernel_rfl) (fun _ _ => Y.nilM nah148_step (.pl rfl)) rfl ?_
                  refine WX.pure 8 #[true, true, true, false, true, true, true, true, true, false, false, false, false, false, false, false, false] rfl (by kernel_rfl) (fun _ _ => Y.move (.pl rfl)) rfl ?_
                  obtain ⟨hk44, hF11⟩ := ckh hF11
                  refine WX.one 3 #[true, true, true, true, true, true, true, true, true, false, false, false, false, false, false, false, false] (fun wz hw => St.tail [] hw) rfl (by kernel_rfl) (WO.callM isGo12 (.cons (.pl rfl) (.nil)) rfl (fun wz hw => slices_Clone_int_int_ok (hk44) wz (hs5.mono hw)) ?_)
                  rintro ⟨A45, c46⟩ -
                  obtain ⟨r47, hr47, hF11⟩ := bnd hF11
                  refine WX.one 9 #[true, true, true, true, true, true, true, true, true, true, false, false, false, false, false, false, false] (fun wz hw => St.tail [_] hw) rfl (by kernel_rfl) (WO.callI (γ := (Option Addr × Nat)) (u := .agg #[]) (v := .agg #[]) (fun g => .tuple #[.slice g.1 (r47.1).length g.2, .int .i64 r47.2.1, .int .i64 r47.2.2]) (fun g => [cR (eI .i64) 1 g.1 g.2 3 r47.1, cR (eI .i64) 1 A45 c46 3 s2]) (fun g => True) meth148_step isGo162 (Evs.ifE (k := 148) (of_decide_eq_true hT18) rfl (.pl rfl)) (.cons (.pl rfl) (.cons (.pl rfl) (.cons (.pl rfl) (.nil)))) rfl (fun wz hw => (object_ticket_step_ok (hr47) wz (SlIn.ofRow (fun _ => rfl) hw (i := 0) rfl)).calls hw) ?_)
                  rintro ⟨A48, c49⟩ -
                  refine WX.pure 10 #[true, true, true, true, true, true, true, true, true, true, true, false, false, false, false, false, false] rfl (by kernel_rfl) (fun _ _ => Y.move (.pl rfl)) rfl ?_
                  refine WX.pure 11 #[true, true, true, true, true, true, true, true, true, true, true, true, false, false, false, false, false] rfl (by kernel_rfl) (fun _ _ => Y.extract (.pl rfl) rfl) rfl ?_
                  refine WX.pure 12 #[true, true, true, true, true, true, true, true, true, true, true, true, true, false, false, false, false] rfl (by kernel_rfl) (fun _ _ => Y.extract (.pl rfl) rfl) rfl ?_
                  refine WX.pure 13 #[true, true, true, true, true, true, true, true, true, true, true, true, true, true, false, false, false] rfl (by kernel_rfl) (fun _ _ => Y.extract (.pl rfl) rfl) rfl ?_
                  refine WX.pure 14 #[true, true, true, true, true, true, true, true, true, true, true, true, true, true, true, false, false] rfl (by kernel_rfl) (fun _ _ => Y.assign (.pl rfl)) rfl ?_
                  refine WX.pure 15 #[true, true, true, true, true, true, true, true, true, true, true, true, true, true, true, true, false] rfl (by kernel_rfl) (fun _ _ => Y.assign (.pl rfl)) rfl ?_
                  refine WX.stop #[true, true, true, true, true, true, true, true, true, true, true, true, true, true, true, true, true] (fun wz hw => St.tail [_, _] hw) rfl (by kernel_rfl) (WO.q (Y.assign (.pl rfl)) rfl ?_)
                  refine WA.done (by kernel_rfl) ?_
                  exact W.joinAt6 hK12 r47.1 r47.2.1 r47.2.2 (blkA A48) A48 c49 (Option.some.inj hF11) (.cons rfl (.cons rfl (.cons rfl (.nil)))) (.nil) (fun wz hw => (St.toV (enc := (eI .i64)) (sz := 1) (A' := A48) (cap' := c49) (ys := r47.1) (fun _ => rfl) hw (i := 0) rfl (fun wz h => h)).pick [0] rfl)
                · replace hF11 := cneg hT18 hF11
                  exact nomatch hF11
      · -- behind
        rintro next15 res16 e17 o12 A13 c14 rfl
        refine W.seqR fun Q19 hQ19 => ?_
        refine WL.q (Y.move (.pl rfl)) rfl ?_
        obtain ⟨hk50, hF⟩ := ckh hF
        refine WL.step (WO.callM isGo12 (.cons (.pl rfl) (.nil)) rfl (fun wz hw => slices_Clone_int_int_ok (hk50) wz (SlIn.ofV (enc := (eI .i64)) (sz := 1) hw (i := 0) rfl)) ?_)
        rintro ⟨A51, c52⟩ -
        refine WL.q (Y.move (.pl rfl)) rfl ?_
        refine WL.q (Y.move (.pl rfl)) rfl ?_
        refine WL.q (Y.assign (.pl rfl)) rfl ?_
        refine WL.q (Y.assign (.pl rfl)) rfl ?_
        refine WL.q (Y.assign (.pl rfl)) rfl ?_
        refine WL.next hQ19 (.cons (i := 8) rfl (.cons (i := 9) rfl (.cons (i := 10) rfl (.nil)))) ?_
        obtain rfl := Option.some.inj hF
        refine W.retV (fn := Try.f23) (vs := [.slice A51 (next15).length c52, .int .i64 res16, .int .i64 e17]) Try.results23 ⟨.tmp rfl, ⟨.tmp rfl, ⟨.tmp rfl, trivial⟩⟩⟩ (fun _ _ h => h) (fun wz hw => ?_)
        exact hR _ _ ⟨(A51, c52), trivial, rfl, (hw.pick [0] rfl)⟩

def object_single_start (N : Nat) (a1 : ObjectSingle) : Option Unit :=
  some ()

theorem object_single_start_ok {N : Nat} {a1 : ObjectSingle} {res : Unit} (hF : object_single_start N a1 = some res) (w : World) :
    Made Try.prog 142 [.agg (encObjectSingle a1).toArray] w (fun g : Option Addr => .slice g (([0] : List Int)).length (([0] : List Int)).length) (fun g => [cR (eI .i64) 1 g (([0] : List Int)).length 3 ([0] : List Int)]) (fun g => True) := by
  refine W.enter (n := 4) Try.func142 rfl rfl Sub.refl (by simp) (St.start w) fun R hR => ?_
  unfold object_single_start at hF
  refine W.seqR fun Q1 hQ1 => ?_
  refine WL.step (WO.boxA (.pl rfl) rfl fun b2 => ?_)
  refine WL.q (Y.assign (.pl rfl)) rfl ?_
  refine WL.next hQ1 (.nil) ?_
  refine W.seqR fun Q2 hQ2 => ?_
  refine WL.step (WO.bsliceC (enc := (eI .i64)) (ys := ([0] : List Int)) Try.underlying23 bz3 (.cons (.pl rfl) (.nil)) rfl (fun _ => rfl) rfl rfl (by decide) (by decide) rfl fun b3 => ?_)
  refine WL.q (Y.assign (.pl rfl)) rfl ?_
  refine WL.next hQ2 (.cons (i := 2) rfl (.nil)) ?_
  obtain rfl := Option.some.inj hF
  refine W.retV (fn := Try.f142) (vs := [.slice (some ⟨b3, 0, none⟩) (([0] : List Int)).length (([0] : List Int)).length]) Try.results142 ⟨.tmp rfl, trivial⟩ (fun _ _ h => h) (fun wz hw => ?_)
  exact hR _ _ ⟨(some ⟨b3, 0, none⟩), trivial, rfl, (hw.pick [0] rfl)⟩

def object_many_start (N : Nat) (a1 : ObjectSingle) : Option Unit :=
  some ()

theorem object_many_start_ok {N : Nat} {a1 : ObjectSingle} {res : Unit} (hF : object_many_start N a1 = some res) (w : World) :
    Pure Try.prog 145 [.agg (encObjectSingle a1).toArray] w (.slice none 0 0) := by
  refine W.enter (n := 3) Try.func145 rfl rfl Sub.refl (by simp) (St.start w) fun R hR => ?_
  unfold object_many_start at hF
  refine W.seqR fun Q1 hQ1 => ?_
  refine WL.step (WO.boxA (.pl rfl) rfl fun b2 => ?_)
  refine WL.q (Y.assign (.pl rfl)) rfl ?_
  refine WL.next hQ1 (.nil) ?_
  refine W.seqR fun Q2 hQ2 => ?_
  refine WL.q (Y.assign (.pl rfl)) rfl ?_
  refine WL.next hQ2 (.cons (i := 2) rfl (.nil)) ?_
  obtain rfl := Option.some.inj hF
  refine W.retV (fn := Try.f145) (vs := [.slice none 0 0]) Try.results145 ⟨.tmp rfl, trivial⟩ (fun _ _ h => h) (fun wz hw => ?_)
  exact hR _ _ ⟨rfl, (hw.pick [] rfl)⟩

def object_Start (N : Nat) (typ1 : Int) : Option ((List Int) × Int) :=
  bd (object_of N typ1) fun (r2 : Int) =>
  cond (decide (r2 = 0))
    (some ([], 1))
    (bd (α := (List Int)) (cond (decide (r2 = 142))
        (bd (object_single_start N (ObjectSingle.mk )) fun (r6 : Unit) =>
        some ([0] : List Int))
        (cond (decide (r2 = 145))
          (bd (object_many_start N (ObjectSingle.mk )) fun (r8 : Unit) =>
          some [])
          (cond (decide (r2 = 146))
            (bd (object_many_start N (ObjectSingle.mk )) fun (r9 : Unit) =>
            some [])
            (cond (decide (r2 = 147))
              (bd (object_many_start N (ObjectSingle.mk )) fun (r10 : Unit) =>
              some [])
              (cond (decide (r2 = 148))
                (bd (object_single_start N (ObjectSingle.mk )) fun (r11 : Unit) =>
                some ([0] : List Int))
                (none)))))) <|
    fun (v5 : (List Int)) => 
      some (v5, 0))

theorem object_Start_ok {N : Nat} {typ1 : Int} {res : ((List Int) × Int)} (hF : object_Start N typ1 = some res) (w : World) :
    Made Try.prog 69 [.int .i64 typ1] w (fun g : (Option Addr × Nat) => .tuple #[.slice g.1 (res.1).length g.2, .int .i64 res.2]) (fun g => [cR (eI .i64) 1 g.1 g.2 3 res.1]) (fun g => True) := by
  refine W.enter (n := 11) Try.func69 rfl rfl Sub.refl (by simp) (St.start w) fun R hR => ?_
  unfold object_Start at hF
  refine W.seqR fun Q1 hQ1 => ?_
  refine WL.q (Y.assign (.pl rfl)) rfl ?_
  refine WL.q (Y.assign (.pl rfl)) rfl ?_
  refine WL.next hQ1 (.cons (i := 0) rfl (.nil)) ?_
  refine W.seqR fun Q2 hQ2 => ?_
  refine WL.q (Y.move (.pl rfl)) rfl ?_
  obtain ⟨r2, hr2, hF⟩ := bnd hF
  refine WL.step (WO.callP isGo46 (.cons (.pl rfl) (.nil)) rfl (fun wz hw => object_of_ok (hr2) wz ) ?_)
  refine WL.q (Y.assign (.pl rfl)) rfl ?_
  refine WL.next hQ2 (.cons (i := 4) rfl (.nil)) ?_
  refine W.seq fun K3 hK3 => ?_
  refine W.seqR fun Q4 hQ4 => ?_
  refine WL.q (Y.move (.pl rfl)) rfl ?_
  refine WL.q (Y.eqNilI Try.underlying104 (.pl rfl)) rfl ?_
  refine WL.next hQ4 (.cons (i := 4) rfl (.cons (i := 8) rfl (.nil))) ?_
  refine W.cond (.pl rfl) (fun hC5 => ?_) (fun hC5 => ?_)
  · replace hF := cpos hC5 hF
    refine W.seqR fun Q6 hQ6 => ?_
    refine WL.q (Y.assign (.pl rfl)) rfl ?_
    refine WL.q (Y.assign (.pl rfl)) rfl ?_
    refine WL.next hQ6 (.cons (i := 2) rfl (.cons (i := 3) rfl (.nil))) ?_
    obtain rfl := Option.some.inj hF
    refine W.retV (fn := Try.f69) (vs := [.slice none 0 0, .int .i64 1]) Try.results69 ⟨.tmp rfl, ⟨.tmp rfl, trivial⟩⟩ (fun _ _ h => h) (fun wz hw => ?_)
    exact hR _ _ ⟨(none, 0), trivial, rfl, ((St.nilR (hw.pick [] rfl) (eI .i64) 1 3).pick [0] rfl)⟩
  · replace hF := cneg hC5 hF
    refine W.skip ?_
    refine W.go hK3 (.cons (i := 4) rfl (.nil)) ?_
    obtain ⟨o7, hF7, hF⟩ := bnd hF
    refine W.join3 (Em := fun (v5 : (List Int)) (A3 : Option Addr) (c4 : Nat) => [(2, .slice A3 (v5).length c4), (3, .int .i64 0)]) (M := fun v5 A3 c4 => [cR (eI .i64) 1 A3 c4 3 v5]) (I := fun v5 A3 c4 => v5 = o7) (.nil) (fun K8 hK8 => ?_) ?_
    · -- up to
      refine W.reg ?_
      refine WL.q (Y.move (.pl rfl)) rfl ?_
      refine bsplit (decide (r2 = 142)) (fun hT9 => ?_) (fun hT9 => ?_)
      · replace hF7 := cpos hT9 hF7
        obtain ⟨r6, hr6, hF7⟩ := bnd hF7
        refine WL.step (WO.callI (γ := Option Addr) (u := .agg #[]) (v := .agg #[]) (fun g => .slice g (([0] : List Int)).length (([0] : List Int)).length) (fun g => [cR (eI .i64) 1 g (([0] : List Int)).length 3 ([0] : List Int)]) (fun g => True) meth142_start isGo142 (Evs.ifE (k := 142) (of_decide_eq_true hT9) rfl (.pl rfl)) (.nil) rfl (fun wz hw => (object_single_start_ok (hr6) wz ).calls hw) ?_)
        rintro A7 -
        refine WL.q (Y.assign (.pl rfl)) rfl ?_
        refine WL.q (Y.assign (.pl rfl)) rfl ?_
        refine WL.nil ?_
        exact W.joinAt3 hK8 ([0] : List Int) A7 ((([0] : List Int)).length) (Option.some.inj hF7) (.cons rfl (.cons rfl (.nil))) (.nil) (fun wz hw => hw.pick [0] rfl)
      · replace hF7 := cneg hT9 hF7
        refine bsplit (decide (r2 = 145)) (fun hT10 => ?_) (fun hT10 => ?_)
        · replace hF7 := cpos hT10 hF7
          obtain ⟨r8, hr8, hF7⟩ := bnd hF7
          refine WL.step (WO.callI (γ := Unit) (u := .agg #[]) (v := .agg #[]) (fun g => .slice none 0 0) (fun g => []) (fun g => True) meth145_start isGo145 (Evs.ifE (k := 145) (of_decide_eq_true hT10) rfl (.pl rfl)) (.nil) rfl (fun wz hw => (object_many_start_ok (hr8) wz ).calls hw) ?_)
          rintro _ -
          refine WL.q (Y.assign (.pl rfl)) rfl ?_
          refine WL.q (Y.assign (.pl rfl)) rfl ?_
          refine WL.nil ?_
          exact W.joinAt3 hK8 [] none 0 (Option.some.inj hF7) (.cons rfl (.cons rfl (.nil))) (.nil) (fun wz hw => (St.nilR (hw.pick [] rfl) (eI .i64) 1 3).pick [0] rfl)
        · replace hF7 := cneg hT10 hF7
          refine bsplit (decide (r2 = 146)) (fun hT11 => ?_) (fun hT11 => ?_)
          · replace hF7 := cpos hT11 hF7
            obtain ⟨r9, hr9, hF7⟩ := bnd hF7
            refine WL.step (WO.callI (γ := Unit) (u := .agg #[]) (v := .agg #[]) (fun g => .slice none 0 0) (fun g => []) (fun g => True) meth146_start isGo145 (Evs.ifE (k := 146) (of_decide_eq_true hT11) rfl (.pl rfl)) (.nil) rfl (fun wz hw => (object_many_start_ok (hr9) wz ).calls hw) ?_)
            rintro _ -
            refine WL.q (Y.assign (.pl rfl)) rfl ?_
            refine WL.q (Y.assign (.pl rfl)) rfl ?_
            refine WL.nil ?_
            exact W.joinAt3 hK8 [] none 0 (Option.some.inj hF7) (.cons rfl (.cons rfl (.nil))) (.nil) (fun wz hw => (St.nilR (hw.pick [] rfl) (eI .i64) 1 3).pick [0] rfl)
          · replace hF7 := cneg hT11 hF7
            refine bsplit (decide (r2 = 147)) (fun hT12 => ?_) (fun hT12 => ?_)
            · replace hF7 := cpos hT12 hF7
              obtain ⟨r10, hr10, hF7⟩ := bnd hF7
              refine WL.step (WO.callI (γ := Unit) (u := .agg #[]) (v := .agg #[]) (fun g => .slice none 0 0) (fun g => []) (fun g => True) meth147_start isGo145 (Evs.ifE (k := 147) (of_decide_eq_true hT12) rfl (.pl rfl)) (.nil) rfl (fun wz hw => (object_many_start_ok (hr10) wz ).calls hw) ?_)
              rintro _ -
              refine WL.q (Y.assign (.pl rfl)) rfl ?_
              refine WL.q (Y.assign (.pl rfl)) rfl ?_
              refine WL.nil ?_
              exact W.joinAt3 hK8 [] none 0 (Option.some.inj hF7) (.cons rfl (.cons rfl (.nil))) (.nil) (fun wz hw => (St.nilR (hw.pick [] rfl) (eI .i64) 1 3).pick [0] rfl)
            · replace hF7 := cneg hT12 hF7
              refine bsplit (decide (r2 = 148)) (fun hT13 => ?_) (fun hT13 => ?_)
              · replace hF7 := cpos hT13 hF7
                obtain ⟨r11, hr11, hF7⟩ := bnd hF7
                refine WL.step (WO.callI (γ := Option Addr) (u := .agg #[]) (v := .agg #[]) (fun g => .slice g (([0] : List Int)).length (([0] : List Int)).length) (fun g => [cR (eI .i64) 1 g (([0] : List Int)).length 3 ([0] : List Int)]) (fun g => True) meth148_start isGo142 (Evs.ifE (k := 148) (of_decide_eq_true hT13) rfl (.pl rfl)) (.nil) rfl (fun wz hw => (object_single_start_ok (hr11) wz ).calls hw) ?_)
                rintro A12 -
                refine WL.q (Y.assign (.pl rfl)) rfl ?_
                refine WL.q (Y.assign (.pl rfl)) rfl ?_
                refine WL.nil ?_
                exact W.joinAt3 hK8 ([0] : List Int) A12 ((([0] : List Int)).length) (Option.some.inj hF7) (.cons rfl (.cons rfl (.nil))) (.nil) (fun wz hw => hw.pick [0] rfl)
              · replace hF7 := cneg hT13 hF7
                exact nomatch hF7
    · -- behind
      rintro v5 A3 c4 rfl
      obtain rfl := Option.some.inj hF
      refine W.retV (fn := Try.f69) (vs := [.slice A3 (v5).length c4, .int .i64 0]) Try.results69 ⟨.tmp rfl, ⟨.tmp rfl, trivial⟩⟩ (fun _ _ h => h) (fun wz hw => ?_)
      exact hR _ _ ⟨(A3, c4), trivial, rfl, (hw.pick [0] rfl)⟩

def object_Play_L3 (N : Nat) (l2 : (List Do)) (typ1 : Int) : ((List Int) × Int) → Option (((List Int) × Int) ⊕ (Unit ⊕ (Int × Int)))
  | (s12, v13) =>
    cond (decide (v13 < ((l2).length : Int)))
      (bd (ix l2 v13) fun (x14 : Do) =>
      bd (object_Step N typ1 s12 x14.kind x14.arg) fun (r16 : ((List Int) × Int × Int)) =>
      cond ((!(decide (r16.2.2 = 0))) || (!(decide (r16.2.1 = x14.res))))
        (some (.inr (.inr (v13, 0))))
        (ck (ok64 (v13 + 1)) <|
        some (.inl (r16.1, (v13 + 1)))))
      (some (.inr (.inl ())))

def object_Play (N : Nat) (typ1 : Int) (l2 : (List Do)) : Option (Int × Int) :=
  bd (object_Start N typ1) fun (r7 : ((List Int) × Int)) =>
  cond (!(decide (r7.2 = 0)))
    (some (0, r7.2))
    (bd (α := (Unit ⊕ (Int × Int))) (iter (object_Play_L3 N l2 typ1) N (r7.1, 0)) <|
    Sum.elim (fun _ => 
      some (((l2).length : Int), 0)) (fun p => some p))

theorem object_Play_ok {N : Nat} {typ1 : Int} {l2 : (List Do)} {res : (Int × Int)} (hF : object_Play N typ1 l2 = some res) (w : World) {v6 : Value} (hs5 : SlIn encDo 3 w v6 l2) :
    Pure Try.prog 47 [.int .i64 typ1, v6] w (.tuple #[.int .i64 res.1, .int .i64 res.2]) := by
  obtain ⟨A3, c4, rfl, hcc4, hs5⟩ := hs5.form
  refine W.enter (n := 52) Try.func47 rfl rfl Sub.refl (by simp) (St.start w) fun R hR => ?_
  unfold object_Play at hF
  refine W.seqR fun Q1 hQ1 => ?_
  refine WL.q (Y.assign (.pl rfl)) rfl ?_
  refine WL.q (Y.assign (.pl rfl)) rfl ?_
  refine WL.next hQ1 (.cons (i := 0) rfl (.cons (i := 1) rfl (.nil))) ?_
  refine W.seqR fun Q2 hQ2 => ?_
  refine WL.q (Y.move (.pl rfl)) rfl ?_
  obtain ⟨r7, hr7, hF⟩ := bnd hF
  refine WL.step (WO.callM isGo69 (.cons (.pl rfl) (.nil)) rfl (fun wz hw => object_Start_ok (hr7) wz ) ?_)
  rintro ⟨A8, c9⟩ -
  refine WL.q (Y.move (.pl rfl)) rfl ?_
  refine WL.q (Y.extract (.pl rfl) rfl) rfl ?_
  refine WL.q (Y.extract (.pl rfl) rfl) rfl ?_
  refine WL.q (Y.assign (.pl rfl)) rfl ?_
  refine WL.q (Y.assign (.pl rfl)) rfl ?_
  refine WL.next hQ2 (.cons (i := 0) rfl (.cons (i := 1) rfl (.cons (i := 6) rfl (.cons (i := 7) rfl (.nil))))) ?_
  refine W.seq fun K3 hK3 => ?_
  refine W.seqR fun Q4 hQ4 => ?_
  refine WL.q (Y.move (.pl rfl)) rfl ?_
  refine WL.q (Y.neq (.pl rfl) (.pl rfl)) rfl ?_
  refine WL.next hQ4 (.cons (i := 0) rfl (.cons (i := 1) rfl (.cons (i := 6) rfl (.cons (i := 7) rfl (.cons (i := 19) rfl (.nil)))))) ?_
  refine W.cond (.pl rfl) (fun hC5 => ?_) (fun hC5 => ?_)
  · replace hF := cpos hC5 hF
    refine W.seqR fun Q6 hQ6 => ?_
    refine WL.q (Y.move (.pl rfl)) rfl ?_
    refine WL.q (Y.assign (.pl rfl)) rfl ?_
    refine WL.q (Y.assign (.pl rfl)) rfl ?_
    refine WL.next hQ6 (.cons (i := 4) rfl (.cons (i := 5) rfl (.nil))) ?_
    obtain rfl := Option.some.inj hF
    refine W.retV (fn := Try.f47) (vs := [.int .i64 0, .int .i64 r7.2]) Try.results47 ⟨.tmp rfl, ⟨.tmp rfl, trivial⟩⟩ (fun _ _ h => h) (fun wz hw => ?_)
    exact hR _ _ ⟨rfl, (hw.pick [] rfl)⟩
  · replace hF := cneg hC5 hF
    refine W.skip ?_
    refine W.go hK3 (.cons (i := 0) rfl (.cons (i := 1) rfl (.cons (i := 6) rfl (.nil)))) ?_
    obtain ⟨o7, hF7, hF⟩ := bnd hF
    refine W.join0 (Em := []) (M := []) (I := (.inl ()) = o7) (.cons (i := 1) rfl (.nil)) (fun K8 hK8 => ?_) ?_
    · -- up to
      refine W.seqR fun Q9 hQ9 => ?_
      refine WL.q (Y.move (.pl rfl)) rfl ?_
      refine WL.q (Y.len Try.underlying110 (.pl rfl)) rfl ?_
      refine WL.q (Y.move (.pl rfl)) rfl ?_
      refine WL.next hQ9 (.cons (i := 0) rfl (.cons (i := 1) rfl (.cons (i := 6) rfl (.cons (i := 21) rfl (.cons (i := 22) rfl (.cons (i := 23) rfl (.nil))))))) ?_
      refine W.block ?_
      refine W.loop4 (Em := fun (s12 : (List Int)) (v13 : Int) (A10 : Option Addr) (c11 : Nat) => [(6, .slice A10 (s12).length c11), (23, .int .i64 v13)]) (M := fun s12 v13 A10 c11 => [cR (eI .i64) 1 A10 c11 3 s12]) (I := fun s12 v13 A10 c11 k10 => iter (object_Play_L3 N l2 typ1) k10 (s12, v13) = some o7) r7.1 0 A8 c9 N (hF7) (.cons rfl (.cons rfl (.nil))) (.cons (i := 0) rfl (.cons (i := 1) rfl (.cons (i := 21) rfl (.cons (i := 22) rfl (.nil))))) (fun wz hw => hw.pick [0] rfl) (fun s12 v13 A10 c11 k10 hI K11 hK11 => ?_)
      obtain ⟨k10, t10, rfl, hF10, hN10⟩ := iter_step hI
      refine W.seqR fun Q12 hQ12 => ?_
      refine WL.q (Y.lss (.pl rfl) (.pl rfl)) rfl ?_
      refine WL.next hQ12 (.cons (i := 0) rfl (.cons (i := 1) rfl (.cons (i := 6) rfl (.cons (i := 21) rfl (.cons (i := 22) rfl (.cons (i := 23) rfl (.cons (i := 24) rfl (.nil)))))))) ?_
      refine W.seq fun K13 hK13 => ?_
      refine W.cond (.pl rfl) (fun hC14 => ?_) (fun hC14 => ?_)
      · replace hF10 := cpos hC14 hF10
        refine W.skip ?_
        refine W.go hK13 (.cons (i := 0) rfl (.cons (i := 1) rfl (.cons (i := 6) rfl (.cons (i := 21) rfl (.cons (i := 22) rfl (.cons (i := 23) rfl (.nil))))))) ?_
        refine W.seq fun K15 hK15 => ?_
        refine W.block ?_
        refine W.seqR fun Q16 hQ16 => ?_
        refine WL.q (Y.move (.pl rfl)) rfl ?_
        obtain ⟨x14, hx14, hF10⟩ := bnd hF10
        refine WL.q (Y.slEl Try.underlying110 cells109 hs5 (.pl rfl) (.pl rfl) (ix_lt (hx14))) rfl ?_
        refine WL.q (Y.loadSA (enc := encDo) (ds := (encDo x14)) (j := 0) Try.underlying109 rfl cells109 hs5 (.pl rfl) (hx14) rfl rfl subW) rfl ?_
        refine WL.step (WO.alloc (cs := (encDo (Do.mk 0 0 0)).toArray) zero109 rfl rfl fun b15 => ?_)
        refine WL.q (Y.assign (.pl rfl)) rfl ?_
        refine WL.step (WO.storeBA (ds := (encDo x14)) (cs' := (encDo x14)) cells109 (.pl rfl) (.pl rfl) rfl (oneDo _) (i := 0) rfl (lel (o := 0) (l := 3) (m := 3) (by decide) rfl rfl) (putW rfl) ?_)
        refine WL.next hQ16 (.cons (i := 0) rfl (.cons (i := 1) rfl (.cons (i := 6) rfl (.cons (i := 8) rfl (.cons (i := 9) rfl (.cons (i := 21) rfl (.cons (i := 22) rfl (.cons (i := 23) rfl (.nil))))))))) ?_
        refine W.seqR fun Q17 hQ17 => ?_
        refine WL.q (Y.move (.pl rfl)) rfl ?_
        refine WL.q (Y.move (.pl rfl)) rfl ?_
        refine WL.q (Y.fieldAddr0 (off := 0) (ft := 3) Try.underlying109 rfl cells3 (.pl rfl)) rfl ?_
        refine WL.q (Y.loadB (v := .int .i64 x14.kind) Try.underlying3 rfl (.pl rfl) (i := 0) rfl (rfl)) rfl ?_
        refine WL.q (Y.fieldAddr0 (off := 1) (ft := 3) Try.underlying109 rfl cells3 (.pl rfl)) rfl ?_
        refine WL.q (Y.loadB (v := .int .i64 x14.arg) Try.underlying3 rfl (.pl rfl) (i := 0) rfl (rfl)) rfl ?_
        obtain ⟨r16, hr16, hF10⟩ := bnd hF10
        refine WL.step (WO.callM isGo23 (.cons (.pl rfl) (.cons (.pl rfl) (.cons (.pl rfl) (.cons (.pl rfl) (.nil))))) rfl (fun wz hw => object_Step_ok (hr16) wz (SlIn.ofRow (fun _ => rfl) hw (i := 1) rfl)) ?_)
        rintro ⟨A17, c18⟩ -
        refine WL.q (Y.move (.pl rfl)) rfl ?_
        refine WL.q (Y.extract (.pl rfl) rfl) rfl ?_
        refine WL.q (Y.extract (.pl rfl) rfl) rfl ?_
        refine WL.q (Y.extract (.pl rfl) rfl) rfl ?_
        refine WL.q (Y.assign (.pl rfl)) rfl ?_
        refine WL.q (Y.assign (.pl rfl)) rfl ?_
        refine WL.q (Y.assign (.pl rfl)) rfl ?_
        refine WL.next hQ17 (.cons (i := 0) rfl (.cons (i := 1) rfl (.cons (i := 8) rfl (.cons (i := 9) rfl (.cons (i := 10) rfl (.cons (i := 11) rfl (.cons (i := 12) rfl (.cons (i := 21) rfl (.cons (i := 22) rfl (.cons (i := 23) rfl (.nil))))))))))) ?_
        refine W.seq fun K18 hK18 => ?_
        refine W.seqR fun Q19 hQ19 => ?_
        refine WL.q (Y.move (.pl rfl)) rfl ?_
        refine WL.q (Y.neq (.pl rfl) (.pl rfl)) rfl ?_
        refine WL.q (Y.move (.pl rfl)) rfl ?_
        refine WL.g (.pl rfl rfl rfl) (fun hg => Y.move (.pl rfl)) rfl ?_
        refine WL.g (.pl rfl rfl rfl) (fun hg => Y.fieldAddr0 (off := 2) (ft := 3) Try.underlying109 rfl cells3 (.pl rfl)) rfl ?_
        refine WL.g (.pl rfl rfl rfl) (fun hg => Y.loadB (v := .int .i64 x14.res) Try.underlying3 rfl (.gd (hg) rfl) (i := 1) rfl (rfl)) rfl ?_
        refine WL.g (.pl rfl rfl rfl) (fun hg => Y.neq (.gd (hg) rfl) (.gd (hg) rfl)) rfl ?_
        refine WL.q (Y.or (.pl rfl) (fun h2 => .gd (eqf h2) rfl)) rfl ?_
        refine WL.next hQ19 (.cons (i := 0) rfl (.cons (i := 1) rfl (.cons (i := 8) rfl (.cons (i := 10) rfl (.cons (i := 21) rfl (.cons (i := 22) rfl (.cons (i := 23) rfl (.cons (i := 46) rfl (.nil))))))))) ?_
        refine W.cond (.pl rfl) (fun hC20 => ?_) (fun hC20 => ?_)
        · replace hF10 := cpos hC20 hF10
          refine W.seqR fun Q21 hQ21 => ?_
          refine WL.q (Y.move (.pl rfl)) rfl ?_
          refine WL.q (Y.assign (.pl rfl)) rfl ?_
          refine WL.q (Y.assign (.pl rfl)) rfl ?_
          refine WL.next hQ21 (.cons (i := 4) rfl (.cons (i := 5) rfl (.nil))) ?_
          obtain rfl := Option.some.inj hF10
          obtain rfl := einr hN10
          obtain rfl := Option.some.inj hF
          refine W.retV (fn := Try.f47) (vs := [.int .i64 v13, .int .i64 0]) Try.results47 ⟨.tmp rfl, ⟨.tmp rfl, trivial⟩⟩ (fun _ _ h => h) (fun wz hw => ?_)
          exact hR _ _ ⟨rfl, (hw.pick [] rfl)⟩
        · replace hF10 := cneg hC20 hF10
          refine W.skip ?_
          refine W.go hK18 (.cons (i := 0) rfl (.cons (i := 1) rfl (.cons (i := 10) rfl (.cons (i := 21) rfl (.cons (i := 22) rfl (.cons (i := 23) rfl (.nil))))))) ?_
          refine W.reg ?_
          refine WL.q (Y.move (.pl rfl)) rfl ?_
          refine WL.q (Y.assign (.pl rfl)) rfl ?_
          refine WL.nil ?_
          refine W.go hK15 (.cons (i := 0) rfl (.cons (i := 1) rfl (.cons (i := 6) rfl (.cons (i := 21) rfl (.cons (i := 22) rfl (.cons (i := 23) rfl (.nil))))))) ?_
          refine W.reg ?_
          obtain ⟨hk19, hF10⟩ := ckh hF10
          refine WL.q (Y.add (.pl rfl) (.pl rfl) (ok64_lt (hk19))) rfl ?_
          refine WL.q (Y.move (.pl rfl)) rfl ?_
          refine WL.nil ?_
          obtain rfl := Option.some.inj hF10
          exact W.again4 hK11 r16.1 (v13 + 1) A17 c18 k10 hN10 (Nat.lt_succ_self _) (.cons rfl (.cons rfl (.nil))) (.cons (i := 0) rfl (.cons (i := 1) rfl (.cons (i := 21) rfl (.cons (i := 22) rfl (.nil))))) (fun wz hw => hw.pick [0] rfl)
      · replace hF10 := cneg hC14 hF10
        refine W.exit ?_
        obtain rfl := Option.some.inj hF10
        exact W.joinAt0 hK8  (einr hN10) (.nil) (.cons (i := 1) rfl (.nil)) (fun wz hw => hw.pick [] rfl)
    · -- behind
      rintro  rfl
      refine W.seqR fun Q24 hQ24 => ?_
      refine WL.q (Y.move (.pl rfl)) rfl ?_
      refine WL.q (Y.len Try.underlying110 (.pl rfl)) rfl ?_
      refine WL.q (Y.assign (.pl rfl)) rfl ?_
      refine WL.q (Y.assign (.pl rfl)) rfl ?_
      refine WL.next hQ24 (.cons (i := 4) rfl (.cons (i := 5) rfl (.nil))) ?_
      obtain rfl := Option.some.inj hF
      refine W.retV (fn := Try.f47) (vs := [.int .i64 ((l2).length : Int), .int .i64 0]) Try.results47 ⟨.tmp rfl, ⟨.tmp rfl, trivial⟩⟩ (fun _ _ h => h) (fun wz hw => ?_)
      exact hR _ _ ⟨rfl, (hw.pick [] rfl)⟩

end Go.Proofs.Ytkmmagekepoapaa
