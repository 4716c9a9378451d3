/- Search: what its code computes, and the walks. -/
import Derived.Test.YteklmleiiiodfaaE3
import Derived.Test.YteklmleiiiodfaaShelf
import Derived.Test.YteklmleiiiodfaaStrMap
import Derived.Test.YteklmleiiiodfaaIface
set_option linter.unusedVariables false
set_option linter.unusedSimpArgs false
set_option linter.unusedSectionVars false
set_option maxRecDepth 100000
namespace Go.Proofs.Yteklmleiiiodfaa
open Go.RowKit
structure Rel where
  n : Int
  after : List Int
deriving DecidableEq
def Rel.z : Rel := ⟨0, []⟩
def encRel (x : Rel) : List Value := (Value.int .i64 x.n :: ((encA 12 (eI .u16) 0) x.after ++ []))
theorem lenRel (x : Rel) : (encRel x).length = 13 := rfl
theorem oneRel : ∀ x, ∀ v ∈ encRel x, v.oneCell' = true := fun x => (one_cons rfl (one_app ((oneA oneI) _) one_nil))
structure ObjectSingle where

deriving DecidableEq
def ObjectSingle.z : ObjectSingle := ⟨⟩
def encObjectSingle (x : ObjectSingle) : List Value := []
theorem lenObjectSingle (x : ObjectSingle) : (encObjectSingle x).length = 0 := rfl
theorem oneObjectSingle : ∀ x, ∀ v ∈ encObjectSingle x, v.oneCell' = true := fun x => one_nil
structure Step where
  call : Int
  res : Int
deriving DecidableEq
def Step.z : Step := ⟨0, 0⟩
def encStep (x : Step) : List Value := (Value.int .i64 x.call :: (Value.int .i64 x.res :: []))
theorem lenStep (x : Step) : (encStep x).length = 2 := rfl
theorem eqStep (x y : Step) : eqCells [true, true] (encStep x) (encStep y) = some (decide (x = y)) := by
  cases x; cases y; simp [encStep, eqCells, Step.mk.injEq, Bool.beq_eq_decide_eq]
theorem oneStep : ∀ x, ∀ v ∈ encStep x, v.oneCell' = true := fun x => (one_cons rfl (one_cons rfl one_nil))
structure ObjectSet where
  many : ObjectSingle
deriving DecidableEq
def ObjectSet.z : ObjectSet := ⟨ObjectSingle.z⟩
def encObjectSet (x : ObjectSet) : List Value := (encObjectSingle x.many ++ [])
theorem lenObjectSet (x : ObjectSet) : (encObjectSet x).length = 0 := rfl
theorem oneObjectSet : ∀ x, ∀ v ∈ encObjectSet x, v.oneCell' = true := fun x => (one_app (oneObjectSingle _) one_nil)
structure ObjectRegister where
  single : ObjectSingle
deriving DecidableEq
def ObjectRegister.z : ObjectRegister := ⟨ObjectSingle.z⟩
def encObjectRegister (x : ObjectRegister) : List Value := (encObjectSingle x.single ++ [])
theorem lenObjectRegister (x : ObjectRegister) : (encObjectRegister x).length = 0 := rfl
theorem oneObjectRegister : ∀ x, ∀ v ∈ encObjectRegister x, v.oneCell' = true := fun x => (one_app (oneObjectSingle _) one_nil)
theorem cells53 : Try.prog.cellsOf 53 = 0 + 1 := by kernel_rfl
theorem cells77 : Try.prog.cellsOf 77 = 1 + 1 := by kernel_rfl
theorem cells112 : Try.prog.cellsOf 112 = 0 + 1 := by kernel_rfl
theorem cells113 : Try.prog.cellsOf 113 = 11 + 1 := by kernel_rfl
theorem cells115 : Try.prog.cellsOf 115 = 12 + 1 := by kernel_rfl
theorem cells142 : Try.prog.cellsOf 142 = 0 + 1 := by kernel_rfl
theorem cells181 : Try.prog.cellsOf 181 = 0 + 1 := by kernel_rfl
theorem isGo27 : IsGo Try.prog 27 := ⟨_, Try.func27, by kernel_rfl, rfl⟩
theorem isGo35 : IsGo Try.prog 35 := ⟨_, Try.func35, by kernel_rfl, rfl⟩
theorem isGo59 : IsGo Try.prog 59 := ⟨_, Try.func59, by kernel_rfl, rfl⟩
theorem isGo60 : IsGo Try.prog 60 := ⟨_, Try.func60, by kernel_rfl, rfl⟩
theorem isGo61 : IsGo Try.prog 61 := ⟨_, Try.func61, by kernel_rfl, rfl⟩
theorem isGo74 : IsGo Try.prog 74 := ⟨_, Try.func74, by kernel_rfl, rfl⟩
theorem isGo94 : IsGo Try.prog 94 := ⟨_, Try.func94, by kernel_rfl, rfl⟩
theorem isGo95 : IsGo Try.prog 95 := ⟨_, Try.func95, by kernel_rfl, rfl⟩
theorem isGo109 : IsGo Try.prog 109 := ⟨_, Try.func109, by kernel_rfl, rfl⟩
theorem isGo110 : IsGo Try.prog 110 := ⟨_, Try.func110, by kernel_rfl, rfl⟩
theorem isGo125 : IsGo Try.prog 125 := ⟨_, Try.func125, by kernel_rfl, rfl⟩
theorem isGo126 : IsGo Try.prog 126 := ⟨_, Try.func126, by kernel_rfl, rfl⟩
theorem isGo127 : IsGo Try.prog 127 := ⟨_, Try.func127, by kernel_rfl, rfl⟩
theorem isGo139 : IsGo Try.prog 139 := ⟨_, Try.func139, by kernel_rfl, rfl⟩
theorem isGo188 : IsGo Try.prog 188 := ⟨_, Try.func188, by kernel_rfl, rfl⟩
theorem isGo189 : IsGo Try.prog 189 := ⟨_, Try.func189, by kernel_rfl, rfl⟩
theorem isGo190 : IsGo Try.prog 190 := ⟨_, Try.func190, by kernel_rfl, rfl⟩
theorem isGo191 : IsGo Try.prog 191 := ⟨_, Try.func191, by kernel_rfl, rfl⟩
theorem isGo192 : IsGo Try.prog 192 := ⟨_, Try.func192, by kernel_rfl, rfl⟩
theorem isGo193 : IsGo Try.prog 193 := ⟨_, Try.func193, by kernel_rfl, rfl⟩
theorem isGo194 : IsGo Try.prog 194 := ⟨_, Try.func194, by kernel_rfl, rfl⟩
theorem isGo195 : IsGo Try.prog 195 := ⟨_, Try.func195, by kernel_rfl, rfl⟩
theorem isGo196 : IsGo Try.prog 196 := ⟨_, Try.func196, by kernel_rfl, rfl⟩
theorem isGo197 : IsGo Try.prog 197 := ⟨_, Try.func197, by kernel_rfl, rfl⟩
theorem isGo198 : IsGo Try.prog 198 := ⟨_, Try.func198, by kernel_rfl, rfl⟩
theorem isGo199 : IsGo Try.prog 199 := ⟨_, Try.func199, by kernel_rfl, rfl⟩
theorem isGo200 : IsGo Try.prog 200 := ⟨_, Try.func200, by kernel_rfl, rfl⟩
theorem isGo201 : IsGo Try.prog 201 := ⟨_, Try.func201, by kernel_rfl, rfl⟩
theorem isGo202 : IsGo Try.prog 202 := ⟨_, Try.func202, by kernel_rfl, rfl⟩
theorem isGo203 : IsGo Try.prog 203 := ⟨_, Try.func203, by kernel_rfl, rfl⟩
theorem isGo208 : IsGo Try.prog 208 := ⟨_, Try.func208, by kernel_rfl, rfl⟩
theorem zero4 : ∃ i, Try.prog.info? 4 = some i ∧ i.zero = some (Value.bool false) := ⟨_, rfl, by kernel_rfl⟩
theorem zero51 : ∃ i, Try.prog.info? 51 = some i ∧ i.zero = some (Value.agg #[(Value.int .i64 0), (Value.int .i64 0), (Value.int .i64 0), (Value.int .i64 0), (Value.int .i64 0), (Value.int .i64 0), (Value.int .i64 0)]) := ⟨_, rfl, by kernel_rfl⟩
theorem zero115 : ∃ i, Try.prog.info? 115 = some i ∧ i.zero = some (Value.agg #[(Value.int .i64 0), (Value.int .u16 0), (Value.int .u16 0), (Value.int .u16 0), (Value.int .u16 0), (Value.int .u16 0), (Value.int .u16 0), (Value.int .u16 0), (Value.int .u16 0), (Value.int .u16 0), (Value.int .u16 0), (Value.int .u16 0), (Value.int .u16 0)]) := ⟨_, rfl, by kernel_rfl⟩
theorem zero247 : ∃ i, Try.prog.info? 247 = some i ∧ i.zero = some (Value.agg #[]) := ⟨_, rfl, by kernel_rfl⟩
theorem zero250 : ∃ i, Try.prog.info? 250 = some i ∧ i.zero = some (Value.agg #[]) := ⟨_, rfl, by kernel_rfl⟩
theorem zero251 : ∃ i, Try.prog.info? 251 = some i ∧ i.zero = some (Value.agg #[]) := ⟨_, rfl, by kernel_rfl⟩
theorem zero252 : ∃ i, Try.prog.info? 252 = some i ∧ i.zero = some (Value.agg #[]) := ⟨_, rfl, by kernel_rfl⟩
theorem zero253 : ∃ i, Try.prog.info? 253 = some i ∧ i.zero = some (Value.agg #[]) := ⟨_, rfl, by kernel_rfl⟩
theorem bz5 : ∃ i, Try.prog.info? 5 = some i ∧ i.zero = some (Value.int .u8 0) ∧ i.size = 1 := ⟨_, rfl, by kernel_rfl, by kernel_rfl⟩
theorem bz47 : ∃ i, Try.prog.info? 47 = some i ∧ i.zero = some (Value.slice none 0 0) ∧ i.size = 1 := ⟨_, rfl, by kernel_rfl, by kernel_rfl⟩
theorem bz77 : ∃ i, Try.prog.info? 77 = some i ∧ i.zero = some (Value.agg #[(Value.int .i64 0), (Value.int .i64 0)]) ∧ i.size = 2 := ⟨_, rfl, by kernel_rfl, by kernel_rfl⟩
theorem ap3 : ∃ i z, Try.prog.info? 3 = some i ∧ i.zero = some z ∧ i.size = 1 ∧ i.bytes = 8 ∧ z.cells.size = 1 ∧ 0 < 1 := ⟨_, (Value.int .i64 0), rfl, by kernel_rfl, by kernel_rfl, by kernel_rfl, by kernel_rfl, by decide⟩
theorem ap5 : ∃ i z, Try.prog.info? 5 = some i ∧ i.zero = some z ∧ i.size = 1 ∧ i.bytes = 1 ∧ z.cells.size = 1 ∧ 0 < 1 := ⟨_, (Value.int .u8 0), rfl, by kernel_rfl, by kernel_rfl, by kernel_rfl, by kernel_rfl, by decide⟩
theorem ap47 : ∃ i z, Try.prog.info? 47 = some i ∧ i.zero = some z ∧ i.size = 1 ∧ i.bytes = 24 ∧ z.cells.size = 1 ∧ 0 < 1 := ⟨_, (Value.slice none 0 0), rfl, by kernel_rfl, by kernel_rfl, by kernel_rfl, by kernel_rfl, by decide⟩
theorem ap77 : ∃ i z, Try.prog.info? 77 = some i ∧ i.zero = some z ∧ i.size = 2 ∧ i.bytes = 16 ∧ z.cells.size = 2 ∧ 0 < 2 := ⟨_, (Value.agg #[(Value.int .i64 0), (Value.int .i64 0)]), rfl, by kernel_rfl, by kernel_rfl, by kernel_rfl, by kernel_rfl, by decide⟩
theorem shape77 : Shape Try.prog 77 [(0, 1), (1, 1)] #[(Value.int .i64 0), (Value.int .i64 0)] := ⟨_, _, Value.agg #[(Value.int .i64 0), (Value.int .i64 0)], Try.underlying77, rfl, by kernel_rfl, rfl, by kernel_rfl, by decide⟩
theorem shape115 : Shape Try.prog 115 [(0, 1), (1, 12)] #[(Value.int .i64 0), (Value.int .u16 0), (Value.int .u16 0), (Value.int .u16 0), (Value.int .u16 0), (Value.int .u16 0), (Value.int .u16 0), (Value.int .u16 0), (Value.int .u16 0), (Value.int .u16 0), (Value.int .u16 0), (Value.int .u16 0), (Value.int .u16 0)] := ⟨_, _, Value.agg #[(Value.int .i64 0), (Value.int .u16 0), (Value.int .u16 0), (Value.int .u16 0), (Value.int .u16 0), (Value.int .u16 0), (Value.int .u16 0), (Value.int .u16 0), (Value.int .u16 0), (Value.int .u16 0), (Value.int .u16 0), (Value.int .u16 0), (Value.int .u16 0)], Try.underlying115, rfl, by kernel_rfl, rfl, by kernel_rfl, by decide⟩
theorem shape183 : Shape Try.prog 183 [(0, 1), (1, 1), (2, 13), (15, 1), (16, 1), (17, 1), (18, 1)] #[(Value.slice none 0 0), (Value.slice none 0 0), (Value.int .i64 0), (Value.int .u16 0), (Value.int .u16 0), (Value.int .u16 0), (Value.int .u16 0), (Value.int .u16 0), (Value.int .u16 0), (Value.int .u16 0), (Value.int .u16 0), (Value.int .u16 0), (Value.int .u16 0), (Value.int .u16 0), (Value.int .u16 0), (Value.slice none 0 0), (Value.int .u16 0), (Value.slice none 0 0), (Value.map none)] := ⟨_, _, Value.agg #[(Value.slice none 0 0), (Value.slice none 0 0), (Value.int .i64 0), (Value.int .u16 0), (Value.int .u16 0), (Value.int .u16 0), (Value.int .u16 0), (Value.int .u16 0), (Value.int .u16 0), (Value.int .u16 0), (Value.int .u16 0), (Value.int .u16 0), (Value.int .u16 0), (Value.int .u16 0), (Value.int .u16 0), (Value.slice none 0 0), (Value.int .u16 0), (Value.slice none 0 0), (Value.map none)], Try.underlying183, rfl, by kernel_rfl, rfl, by kernel_rfl, by decide⟩
theorem siz248 : ∃ i, Try.prog.info? 248 = some i ∧ i.size = 0 := ⟨_, rfl, by kernel_rfl⟩
theorem cel248 : Try.prog.cellsOf 248 = 0 := by kernel_rfl
theorem siz250 : ∃ i, Try.prog.info? 250 = some i ∧ i.size = 0 := ⟨_, rfl, by kernel_rfl⟩
theorem cel250 : Try.prog.cellsOf 250 = 0 := by kernel_rfl
theorem siz251 : ∃ i, Try.prog.info? 251 = some i ∧ i.size = 0 := ⟨_, rfl, by kernel_rfl⟩
theorem cel251 : Try.prog.cellsOf 251 = 0 := by kernel_rfl
theorem siz252 : ∃ i, Try.prog.info? 252 = some i ∧ i.size = 0 := ⟨_, rfl, by kernel_rfl⟩
theorem cel252 : Try.prog.cellsOf 252 = 0 := by kernel_rfl
theorem meth247_start : ∀ w, (method (Try.prog.types.size + Made.depth) 247 (.agg #[]) "alibi/object.start").run Try.prog w = .ok (188, .agg #[]) w := fun w => by kernel_rfl
theorem nah247_start : ∀ w, (nilAhead (Try.prog.types.size + Made.depth) 247 (.agg #[]) "alibi/object.start").run Try.prog w = .ok (some false) w := fun w => by kernel_rfl
theorem meth247_step : ∀ w, (method (Try.prog.types.size + Made.depth) 247 (.agg #[]) "alibi/object.step").run Try.prog w = .ok (190, .agg #[]) w := fun w => by kernel_rfl
theorem nah247_step : ∀ w, (nilAhead (Try.prog.types.size + Made.depth) 247 (.agg #[]) "alibi/object.step").run Try.prog w = .ok (some false) w := fun w => by kernel_rfl
theorem meth247_valid : ∀ w, (method (Try.prog.types.size + Made.depth) 247 (.agg #[]) "alibi/object.valid").run Try.prog w = .ok (189, .agg #[]) w := fun w => by kernel_rfl
theorem nah247_valid : ∀ w, (nilAhead (Try.prog.types.size + Made.depth) 247 (.agg #[]) "alibi/object.valid").run Try.prog w = .ok (some false) w := fun w => by kernel_rfl
theorem meth250_start : ∀ w, (method (Try.prog.types.size + Made.depth) 250 (.agg #[]) "alibi/object.start").run Try.prog w = .ok (191, .agg #[]) w := fun w => by kernel_rfl
theorem nah250_start : ∀ w, (nilAhead (Try.prog.types.size + Made.depth) 250 (.agg #[]) "alibi/object.start").run Try.prog w = .ok (some false) w := fun w => by kernel_rfl
theorem meth250_step : ∀ w, (method (Try.prog.types.size + Made.depth) 250 (.agg #[]) "alibi/object.step").run Try.prog w = .ok (194, .agg #[]) w := fun w => by kernel_rfl
theorem nah250_step : ∀ w, (nilAhead (Try.prog.types.size + Made.depth) 250 (.agg #[]) "alibi/object.step").run Try.prog w = .ok (some false) w := fun w => by kernel_rfl
theorem meth250_valid : ∀ w, (method (Try.prog.types.size + Made.depth) 250 (.agg #[]) "alibi/object.valid").run Try.prog w = .ok (192, .agg #[]) w := fun w => by kernel_rfl
theorem nah250_valid : ∀ w, (nilAhead (Try.prog.types.size + Made.depth) 250 (.agg #[]) "alibi/object.valid").run Try.prog w = .ok (some false) w := fun w => by kernel_rfl
theorem meth251_start : ∀ w, (method (Try.prog.types.size + Made.depth) 251 (.agg #[]) "alibi/object.start").run Try.prog w = .ok (191, .agg #[]) w := fun w => by kernel_rfl
theorem nah251_start : ∀ w, (nilAhead (Try.prog.types.size + Made.depth) 251 (.agg #[]) "alibi/object.start").run Try.prog w = .ok (some false) w := fun w => by kernel_rfl
theorem meth251_step : ∀ w, (method (Try.prog.types.size + Made.depth) 251 (.agg #[]) "alibi/object.step").run Try.prog w = .ok (196, .agg #[]) w := fun w => by kernel_rfl
theorem nah251_step : ∀ w, (nilAhead (Try.prog.types.size + Made.depth) 251 (.agg #[]) "alibi/object.step").run Try.prog w = .ok (some false) w := fun w => by kernel_rfl
theorem meth251_valid : ∀ w, (method (Try.prog.types.size + Made.depth) 251 (.agg #[]) "alibi/object.valid").run Try.prog w = .ok (192, .agg #[]) w := fun w => by kernel_rfl
theorem nah251_valid : ∀ w, (nilAhead (Try.prog.types.size + Made.depth) 251 (.agg #[]) "alibi/object.valid").run Try.prog w = .ok (some false) w := fun w => by kernel_rfl
theorem meth252_start : ∀ w, (method (Try.prog.types.size + Made.depth) 252 (.agg #[]) "alibi/object.start").run Try.prog w = .ok (191, .agg #[]) w := fun w => by kernel_rfl
theorem nah252_start : ∀ w, (nilAhead (Try.prog.types.size + Made.depth) 252 (.agg #[]) "alibi/object.start").run Try.prog w = .ok (some false) w := fun w => by kernel_rfl
theorem meth252_step : ∀ w, (method (Try.prog.types.size + Made.depth) 252 (.agg #[]) "alibi/object.step").run Try.prog w = .ok (197, .agg #[]) w := fun w => by kernel_rfl
theorem nah252_step : ∀ w, (nilAhead (Try.prog.types.size + Made.depth) 252 (.agg #[]) "alibi/object.step").run Try.prog w = .ok (some false) w := fun w => by kernel_rfl
theorem meth252_valid : ∀ w, (method (Try.prog.types.size + Made.depth) 252 (.agg #[]) "alibi/object.valid").run Try.prog w = .ok (198, .agg #[]) w := fun w => by kernel_rfl
theorem nah252_valid : ∀ w, (nilAhead (Try.prog.types.size + Made.depth) 252 (.agg #[]) "alibi/object.valid").run Try.prog w = .ok (some false) w := fun w => by kernel_rfl
theorem meth253_start : ∀ w, (method (Try.prog.types.size + Made.depth) 253 (.agg #[]) "alibi/object.start").run Try.prog w = .ok (188, .agg #[]) w := fun w => by kernel_rfl
theorem nah253_start : ∀ w, (nilAhead (Try.prog.types.size + Made.depth) 253 (.agg #[]) "alibi/object.start").run Try.prog w = .ok (some false) w := fun w => by kernel_rfl
theorem meth253_step : ∀ w, (method (Try.prog.types.size + Made.depth) 253 (.agg #[]) "alibi/object.step").run Try.prog w = .ok (208, .agg #[]) w := fun w => by kernel_rfl
theorem nah253_step : ∀ w, (nilAhead (Try.prog.types.size + Made.depth) 253 (.agg #[]) "alibi/object.step").run Try.prog w = .ok (some false) w := fun w => by kernel_rfl
theorem meth253_valid : ∀ w, (method (Try.prog.types.size + Made.depth) 253 (.agg #[]) "alibi/object.valid").run Try.prog w = .ok (189, .agg #[]) w := fun w => by kernel_rfl
theorem nah253_valid : ∀ w, (nilAhead (Try.prog.types.size + Made.depth) 253 (.agg #[]) "alibi/object.valid").run Try.prog w = .ok (some false) w := fun w => by kernel_rfl
def search_Calls (N : Nat) (types1 : (List Int)) (l6 : (List Event)) : Option ((List Call) × Int) :=
  bd (history_Calls N types1 l6) fun (r11 : ((List Call) × Int × Int)) =>
  cond (!(decide (r11.2.2 = 0)))
    (some ([], r11.2.2))
    (cond (decide (9 < ((r11.1).length : Int)))
      (some ([], 2))
      (some (r11.1, 0)))

theorem search_Calls_ok {N : Nat} {types1 : (List Int)} {l6 : (List Event)} {res : ((List Call) × Int)} (hF : search_Calls N types1 l6 = some res) (w : World) {v5 : Value} (hs4 : SlIn (eI .i64) 1 w v5 types1) {v10 : Value} (hs9 : SlIn encEvent 4 w v10 l6) :
    Made Try.prog 59 [v5, v10] w (fun g : (Option Addr × Nat) => .tuple #[.slice g.1 (res.1).length g.2, .int .i64 res.2]) (fun g => [cR encCall 7 g.1 g.2 51 res.1]) (fun g => True) := by
  obtain ⟨A2, c3, rfl, hcc3, hs4⟩ := hs4.form
  obtain ⟨A7, c8, rfl, hcc8, hs9⟩ := hs9.form
  refine W.enter (n := 25) Try.func59 rfl rfl Sub.refl (by simp) (St.start w) fun R hR => ?_
  unfold search_Calls at hF
  -- region 0: search.go:13
  refine W.seqR fun Q1 hQ1 => ?_
  refine WL.q (Y.assign (.pl rfl)) rfl ?_
  refine WL.q (Y.assign (.pl rfl)) rfl ?_
  refine WL.next hQ1 (.cons (i := 0) rfl (.cons (i := 1) rfl (.nil))) ?_
  -- region 1: search.go:14
  refine W.seqR fun Q2 hQ2 => ?_
  refine WL.q (Y.move (.pl rfl)) rfl ?_
  refine WL.q (Y.move (.pl rfl)) rfl ?_
  obtain ⟨r11, hr11, hF⟩ := bnd hF
  refine WL.step (WO.callM isGo27 (.cons (.pl rfl) (.cons (.pl rfl) (.nil))) rfl (fun wz hw => history_Calls_ok (hr11) wz (hs4.mono hw) (hs9.mono hw)) ?_)
  rintro ⟨A12, c13⟩ -
  refine WL.q (Y.move (.pl rfl)) rfl ?_
  refine WL.q (Y.extract (.pl rfl) rfl) rfl ?_
  refine WL.q (Y.extract (.pl rfl) rfl) rfl ?_
  refine WL.q (Y.extract (.pl rfl) rfl) rfl ?_
  refine WL.q (Y.assign (.pl rfl)) rfl ?_
  refine WL.q (Y.assign (.pl rfl)) rfl ?_
  refine WL.q (Y.assign (.pl rfl)) rfl ?_
  refine WL.next hQ2 (.cons (i := 6) rfl (.cons (i := 8) rfl (.nil))) ?_
  refine W.seq fun K3 hK3 => ?_
  refine W.block ?_
  -- region 2: search.go:16
  refine W.seqR fun Q4 hQ4 => ?_
  refine WL.q (Y.move (.pl rfl)) rfl ?_
  refine WL.q (Y.neq (.pl rfl) (.pl rfl)) rfl ?_
  refine WL.q (Y.assign (.pl rfl)) rfl ?_
  refine WL.next hQ4 (.cons (i := 6) rfl (.cons (i := 8) rfl (.cons (i := 16) rfl (.nil)))) ?_
  refine W.cond (.pl rfl) (fun hC5 => ?_) (fun hC5 => ?_)
  · replace hF := cpos hC5 hF
    -- region 3: search.go:17
    refine W.seqR fun Q6 hQ6 => ?_
    refine WL.q (Y.move (.pl rfl)) rfl ?_
    refine WL.q (Y.assign (.pl rfl)) rfl ?_
    refine WL.q (Y.assign (.pl rfl)) rfl ?_
    refine WL.next hQ6 (.cons (i := 4) rfl (.cons (i := 5) rfl (.nil))) ?_
    obtain rfl := Option.some.inj hF
    refine W.retV (fn := Try.f59) (vs := [.slice none 0 0, .int .i64 r11.2.2]) Try.results59 ⟨.tmp rfl, ⟨.tmp rfl, trivial⟩⟩ (fun _ _ h => h) (fun wz hw => ?_)
    exact hR _ _ ⟨(none, 0), trivial, rfl, ((St.nilR (hw.pick [] rfl) encCall 7 51).pick [0] rfl)⟩
  · replace hF := cneg hC5 hF
    -- region 4: search.go:18
    refine W.seqR fun Q7 hQ7 => ?_
    refine WL.q (Y.move (.pl rfl)) rfl ?_
    refine WL.q (Y.len Try.underlying44 (.pl rfl)) rfl ?_
    refine WL.q (Y.gtr (.pl rfl) (.pl rfl)) rfl ?_
    refine WL.q (Y.assign (.pl rfl)) rfl ?_
    refine WL.next hQ7 (.cons (i := 6) rfl (.cons (i := 20) rfl (.nil))) ?_
    refine W.cond (.pl rfl) (fun hC8 => ?_) (fun hC8 => ?_)
    · replace hF := cpos hC8 hF
      -- region 5: search.go:19
      refine W.seqR fun Q9 hQ9 => ?_
      refine WL.q (Y.assign (.pl rfl)) rfl ?_
      refine WL.q (Y.assign (.pl rfl)) rfl ?_
      refine WL.next hQ9 (.cons (i := 4) rfl (.cons (i := 5) rfl (.nil))) ?_
      obtain rfl := Option.some.inj hF
      refine W.retV (fn := Try.f59) (vs := [.slice none 0 0, .int .i64 2]) Try.results59 ⟨.tmp rfl, ⟨.tmp rfl, trivial⟩⟩ (fun _ _ h => h) (fun wz hw => ?_)
      exact hR _ _ ⟨(none, 0), trivial, rfl, ((St.nilR (hw.pick [] rfl) encCall 7 51).pick [0] rfl)⟩
    · replace hF := cneg hC8 hF
      refine W.skip ?_
      refine W.go hK3 (.cons (i := 6) rfl (.nil)) ?_
      -- region 6: search.go:21
      refine W.seqR fun Q10 hQ10 => ?_
      refine WL.q (Y.move (.pl rfl)) rfl ?_
      refine WL.q (Y.assign (.pl rfl)) rfl ?_
      refine WL.q (Y.assign (.pl rfl)) rfl ?_
      refine WL.next hQ10 (.cons (i := 4) rfl (.cons (i := 5) rfl (.nil))) ?_
      obtain rfl := Option.some.inj hF
      refine W.retV (fn := Try.f59) (vs := [.slice A12 (r11.1).length c13, .int .i64 0]) Try.results59 ⟨.tmp rfl, ⟨.tmp rfl, trivial⟩⟩ (fun _ _ h => h) (fun wz hw => ?_)
      exact hR _ _ ⟨(A12, c13), trivial, rfl, (hw.pick [0] rfl)⟩

def history_Ahead_L27 (N : Nat) (l1 : (List Call)) (x12 : Call) (v10 : Int) : ((List Int) × Int) → Option (((List Int) × Int) ⊕ (List Int))
  | (After14, v15) =>
    cond (decide (v15 < ((l1).length : Int)))
      (bd (ix l1 v15) fun (x16 : Call) =>
      cond ((!(decide (x12.to_ = (-1)))) && (decide (x12.to_ < x16.from_)))
        (bd (ax 12 0 After14 v10) fun (x18 : Int) =>
        bd (ax 12 0 After14 v10) fun (x19 : Int) =>
        ck (ok64 (v15 + 1)) <|
        some (.inl ((setA 12 0 After14 v10 (borI .u16 x18 (shlI .u16 1 (IntKind.u64.wrap v15)))), (v15 + 1))))
        (ck (ok64 (v15 + 1)) <|
        some (.inl (After14, (v15 + 1)))))
      (some (.inr After14))

def history_Ahead_L25 (N : Nat) (l1 : (List Call)) : ((List Int) × Int) → Option (((List Int) × Int) ⊕ (List Int))
  | (After9, v10) =>
    cond (decide (v10 < ((l1).length : Int)))
      (bd (α := (List Int)) (bd (ix l1 v10) fun (x12 : Call) =>
        iter (history_Ahead_L27 N l1 x12 v10) N (After9, 0)) <|
      fun (After11 : (List Int)) => 
        ck (ok64 (v10 + 1)) <|
        some (.inl (After11, (v10 + 1))))
      (some (.inr After9))

def history_Ahead (N : Nat) (l1 : (List Call)) : Option (Int × (List Int) × Int) :=
  cond (decide (12 < ((l1).length : Int)))
    (some (0, [], 2))
    (bd (α := (List Int)) (iter (history_Ahead_L25 N l1) N ([], 0)) <|
    fun (After8 : (List Int)) => 
      some (((l1).length : Int), After8, 0))

theorem history_Ahead_ok {N : Nat} {l1 : (List Call)} {res : (Int × (List Int) × Int)} (hF : history_Ahead N l1 = some res) (w : World) {v5 : Value} (hs4 : SlIn encCall 7 w v5 l1) :
    Pure Try.prog 60 [v5] w (.tuple #[.agg (encRel (Rel.mk res.1 res.2.1)).toArray, .int .i64 res.2.2]) := by
  obtain ⟨A2, c3, rfl, hcc3, hs4⟩ := hs4.form
  refine W.enter (n := 53) Try.func60 rfl rfl Sub.refl (by simp) (St.start w) fun R hR => ?_
  unfold history_Ahead at hF
  -- region 0: history.go:175
  refine W.seqR fun Q1 hQ1 => ?_
  refine WL.step (WO.alloc (cs := (encRel (Rel.mk 0 [])).toArray) zero115 rfl rfl fun b6 => ?_)
  refine WL.q (Y.assign (.pl rfl)) rfl ?_
  refine WL.next hQ1 (.cons (i := 0) rfl (.cons (i := 2) rfl (.nil))) ?_
  refine W.seq fun K2 hK2 => ?_
  -- region 1: history.go:176
  refine W.seqR fun Q3 hQ3 => ?_
  refine WL.q (Y.move (.pl rfl)) rfl ?_
  refine WL.q (Y.len Try.underlying44 (.pl rfl)) rfl ?_
  refine WL.q (Y.gtr (.pl rfl) (.pl rfl)) rfl ?_
  refine WL.next hQ3 (.cons (i := 0) rfl (.cons (i := 2) rfl (.cons (i := 11) rfl (.nil)))) ?_
  refine W.cond (.pl rfl) (fun hC4 => ?_) (fun hC4 => ?_)
  · replace hF := cpos hC4 hF
    -- region 2: history.go:177
    refine W.seqR fun Q5 hQ5 => ?_
    refine WL.q (Y.build (cs := (encRel (Rel.mk 0 [])).toArray) shape115 (.nil) (one_parts trivial) rfl) rfl ?_
    refine WL.step (WO.storeBA (ds := (encRel (Rel.mk 0 []))) (cs' := (encRel (Rel.mk 0 []))) cells115 (.pl rfl) (.pl rfl) rfl (oneRel _) (i := 0) rfl (lel (o := 0) (l := 13) (m := 13) (by decide) rfl rfl) (putW rfl) ?_)
    refine WL.q (Y.assign (.pl rfl)) rfl ?_
    refine WL.next hQ5 (.cons (i := 2) rfl (.cons (i := 3) rfl (.nil))) ?_
    obtain rfl := Option.some.inj hF
    refine W.retV (fn := Try.f60) (vs := [.agg (encRel (Rel.mk 0 [])).toArray, .int .i64 2]) Try.results60 ⟨.cellA Try.underlying115 rfl cells115 rfl (i := 0) rfl rfl, ⟨.tmp rfl, trivial⟩⟩ (fun _ _ h => h) (fun wz hw => ?_)
    exact hR _ _ ⟨rfl, (hw.pick [] rfl)⟩
  · replace hF := cneg hC4 hF
    refine W.skip ?_
    refine W.go hK2 (.cons (i := 0) rfl (.cons (i := 2) rfl (.nil))) ?_
    -- region 3: history.go:179
    refine W.seqR fun Q6 hQ6 => ?_
    refine WL.q (Y.move (.pl rfl)) rfl ?_
    refine WL.q (Y.len Try.underlying44 (.pl rfl)) rfl ?_
    refine WL.q (Y.build (cs := (encRel (Rel.mk ((l1).length : Int) [])).toArray) shape115 (.cons (.pl rfl) (.nil)) (one_parts ⟨rfl, trivial⟩) rfl) rfl ?_
    refine WL.step (WO.alloc (cs := (encRel (Rel.mk 0 [])).toArray) zero115 rfl rfl fun b7 => ?_)
    refine WL.step (WO.storeBA (ds := (encRel (Rel.mk ((l1).length : Int) []))) (cs' := (encRel (Rel.mk ((l1).length : Int) []))) cells115 (.pl rfl) (.pl rfl) rfl (oneRel _) (i := 0) rfl (lel (o := 0) (l := 13) (m := 13) (by decide) rfl rfl) (putW rfl) ?_)
    refine WL.next hQ6 (.cons (i := 0) rfl (.cons (i := 2) rfl (.cons (i := 4) rfl (.nil)))) ?_
    obtain ⟨o7, hF7, hF⟩ := bnd hF
    refine W.join1 (Em := fun (After8 : (List Int)) => []) (M := fun After8 => [cBx b6 115 (encRel (Rel.mk 0 [])), cBx b7 115 (encRel (Rel.mk ((l1).length : Int) After8))]) (I := fun After8 => After8 = o7) (.cons (i := 2) rfl (.cons (i := 4) rfl (.nil))) (fun K8 hK8 => ?_) ?_
    · -- up to
      -- region 4: history.go:180
      refine W.seqR fun Q9 hQ9 => ?_
      refine WL.q (Y.move (.pl rfl)) rfl ?_
      refine WL.q (Y.len Try.underlying44 (.pl rfl)) rfl ?_
      refine WL.q (Y.move (.pl rfl)) rfl ?_
      refine WL.next hQ9 (.cons (i := 0) rfl (.cons (i := 2) rfl (.cons (i := 4) rfl (.cons (i := 16) rfl (.cons (i := 17) rfl (.cons (i := 18) rfl (.nil))))))) ?_
      refine W.block ?_
      refine W.loop2 (Em := fun (After9 : (List Int)) (v10 : Int) => [(18, .int .i64 v10)]) (M := fun After9 v10 => [cBx b6 115 (encRel (Rel.mk 0 [])), cBx b7 115 (encRel (Rel.mk ((l1).length : Int) After9))]) (I := fun After9 v10 k10 => iter (history_Ahead_L25 N l1) k10 (After9, v10) = some o7) [] 0 N (hF7) (.cons rfl (.nil)) (.cons (i := 0) rfl (.cons (i := 2) rfl (.cons (i := 4) rfl (.cons (i := 16) rfl (.cons (i := 17) rfl (.nil)))))) (fun wz hw => hw.pick [1, 0] rfl) (fun After9 v10 k10 hI K11 hK11 => ?_)
      obtain ⟨k10, t10, rfl, hF10, hN10⟩ := iter_step hI
      -- region 5: history.go:180
      refine W.seqR fun Q12 hQ12 => ?_
      refine WL.q (Y.lss (.pl rfl) (.pl rfl)) rfl ?_
      refine WL.next hQ12 (.cons (i := 0) rfl (.cons (i := 2) rfl (.cons (i := 4) rfl (.cons (i := 16) rfl (.cons (i := 17) rfl (.cons (i := 18) rfl (.cons (i := 19) rfl (.nil)))))))) ?_
      refine W.seq fun K13 hK13 => ?_
      refine W.cond (.pl rfl) (fun hC14 => ?_) (fun hC14 => ?_)
      · replace hF10 := cpos hC14 hF10
        refine W.skip ?_
        refine W.go hK13 (.cons (i := 0) rfl (.cons (i := 2) rfl (.cons (i := 4) rfl (.cons (i := 16) rfl (.cons (i := 17) rfl (.cons (i := 18) rfl (.nil))))))) ?_
        obtain ⟨o15, hF15, hF10⟩ := bnd hF10
        refine W.join1 (Em := fun (After11 : (List Int)) => []) (M := fun After11 => [cBx b6 115 (encRel (Rel.mk 0 [])), cBx b7 115 (encRel (Rel.mk ((l1).length : Int) After11))]) (I := fun After11 => After11 = o15) (.cons (i := 0) rfl (.cons (i := 2) rfl (.cons (i := 4) rfl (.cons (i := 16) rfl (.cons (i := 17) rfl (.cons (i := 18) rfl (.nil))))))) (fun K16 hK16 => ?_) ?_
        · -- up to
          refine W.block ?_
          -- region 6: history.go:180
          refine W.seqR fun Q17 hQ17 => ?_
          refine WL.q (Y.move (.pl rfl)) rfl ?_
          obtain ⟨x12, hx12, hF15⟩ := bnd hF15
          refine WL.q (Y.slEl Try.underlying44 cells51 hs4 (.pl rfl) (.pl rfl) (ix_lt (hx12))) rfl ?_
          refine WL.q (Y.loadSA (enc := encCall) (ds := (encCall x12)) (j := 0) Try.underlying51 rfl cells51 hs4 (.pl rfl) (hx12) rfl rfl subW) rfl ?_
          refine WL.step (WO.alloc (cs := (encCall (Call.mk 0 0 0 0 0 0 0)).toArray) zero51 rfl rfl fun b13 => ?_)
          refine WL.q (Y.assign (.pl rfl)) rfl ?_
          refine WL.step (WO.storeBA (ds := (encCall x12)) (cs' := (encCall x12)) cells51 (.pl rfl) (.pl rfl) rfl (oneCall _) (i := 0) rfl (lel (o := 0) (l := 7) (m := 7) (by decide) rfl rfl) (putW rfl) ?_)
          refine WL.next hQ17 (.cons (i := 0) rfl (.cons (i := 2) rfl (.cons (i := 4) rfl (.cons (i := 5) rfl (.cons (i := 6) rfl (.cons (i := 16) rfl (.cons (i := 17) rfl (.cons (i := 18) rfl (.nil))))))))) ?_
          -- region 7: history.go:181
          refine W.seqR fun Q18 hQ18 => ?_
          refine WL.q (Y.move (.pl rfl)) rfl ?_
          refine WL.q (Y.len Try.underlying44 (.pl rfl)) rfl ?_
          refine WL.q (Y.move (.pl rfl)) rfl ?_
          refine WL.next hQ18 (.cons (i := 0) rfl (.cons (i := 2) rfl (.cons (i := 4) rfl (.cons (i := 5) rfl (.cons (i := 6) rfl (.cons (i := 16) rfl (.cons (i := 17) rfl (.cons (i := 18) rfl (.cons (i := 23) rfl (.cons (i := 24) rfl (.cons (i := 25) rfl (.nil)))))))))))) ?_
          refine W.block ?_
          refine W.loop2 (Em := fun (After14 : (List Int)) (v15 : Int) => [(25, .int .i64 v15)]) (M := fun After14 v15 => [cBx b6 115 (encRel (Rel.mk 0 [])), cBx b7 115 (encRel (Rel.mk ((l1).length : Int) After14)), cBx b13 51 (encCall x12)]) (I := fun After14 v15 k19 => iter (history_Ahead_L27 N l1 x12 v10) k19 (After14, v15) = some o15) After9 0 N (hF15) (.cons rfl (.nil)) (.cons (i := 0) rfl (.cons (i := 2) rfl (.cons (i := 4) rfl (.cons (i := 5) rfl (.cons (i := 6) rfl (.cons (i := 16) rfl (.cons (i := 17) rfl (.cons (i := 18) rfl (.cons (i := 23) rfl (.cons (i := 24) rfl (.nil))))))))))) (fun wz hw => hw.pick [1, 2, 0] rfl) (fun After14 v15 k19 hI K20 hK20 => ?_)
          obtain ⟨k19, t19, rfl, hF19, hN19⟩ := iter_step hI
          -- region 8: history.go:181
          refine W.seqR fun Q21 hQ21 => ?_
          refine WL.q (Y.lss (.pl rfl) (.pl rfl)) rfl ?_
          refine WL.next hQ21 (.cons (i := 0) rfl (.cons (i := 2) rfl (.cons (i := 4) rfl (.cons (i := 5) rfl (.cons (i := 6) rfl (.cons (i := 16) rfl (.cons (i := 17) rfl (.cons (i := 18) rfl (.cons (i := 23) rfl (.cons (i := 24) rfl (.cons (i := 25) rfl (.cons (i := 26) rfl (.nil))))))))))))) ?_
          refine W.seq fun K22 hK22 => ?_
          refine W.cond (.pl rfl) (fun hC23 => ?_) (fun hC23 => ?_)
          · replace hF19 := cpos hC23 hF19
            refine W.skip ?_
            refine W.go hK22 (.cons (i := 0) rfl (.cons (i := 2) rfl (.cons (i := 4) rfl (.cons (i := 5) rfl (.cons (i := 6) rfl (.cons (i := 16) rfl (.cons (i := 17) rfl (.cons (i := 18) rfl (.cons (i := 23) rfl (.cons (i := 24) rfl (.cons (i := 25) rfl (.nil)))))))))))) ?_
            refine W.seq fun K24 hK24 => ?_
            refine W.block ?_
            -- region 9: history.go:181
            refine W.seqR fun Q25 hQ25 => ?_
            refine WL.q (Y.move (.pl rfl)) rfl ?_
            obtain ⟨x16, hx16, hF19⟩ := bnd hF19
            refine WL.q (Y.slEl Try.underlying44 cells51 hs4 (.pl rfl) (.pl rfl) (ix_lt (hx16))) rfl ?_
            refine WL.q (Y.loadSA (enc := encCall) (ds := (encCall x16)) (j := 0) Try.underlying51 rfl cells51 hs4 (.pl rfl) (hx16) rfl rfl subW) rfl ?_
            refine WL.step (WO.alloc (cs := (encCall (Call.mk 0 0 0 0 0 0 0)).toArray) zero51 rfl rfl fun b17 => ?_)
            refine WL.q (Y.assign (.pl rfl)) rfl ?_
            refine WL.step (WO.storeBA (ds := (encCall x16)) (cs' := (encCall x16)) cells51 (.pl rfl) (.pl rfl) rfl (oneCall _) (i := 0) rfl (lel (o := 0) (l := 7) (m := 7) (by decide) rfl rfl) (putW rfl) ?_)
            refine WL.next hQ25 (.cons (i := 0) rfl (.cons (i := 2) rfl (.cons (i := 4) rfl (.cons (i := 5) rfl (.cons (i := 6) rfl (.cons (i := 7) rfl (.cons (i := 8) rfl (.cons (i := 16) rfl (.cons (i := 17) rfl (.cons (i := 18) rfl (.cons (i := 23) rfl (.cons (i := 24) rfl (.cons (i := 25) rfl (.nil)))))))))))))) ?_
            -- region 10: history.go:182
            refine W.seqR fun Q26 hQ26 => ?_
            refine WL.q (Y.fieldAddr0 (off := 6) (ft := 3) Try.underlying51 rfl cells3 (.pl rfl)) rfl ?_
            refine WL.q (Y.loadB (v := .int .i64 x12.to_) Try.underlying3 rfl (.pl rfl) (i := 3) rfl (rfl)) rfl ?_
            refine WL.q (Y.neq (.pl rfl) (.pl rfl)) rfl ?_
            refine WL.q (Y.move (.pl rfl)) rfl ?_
            refine WL.g (.pl rfl rfl rfl) (fun hg => Y.fieldAddr0 (off := 5) (ft := 3) Try.underlying51 rfl cells3 (.pl rfl)) rfl ?_
            refine WL.g (.pl rfl rfl rfl) (fun hg => Y.loadB (v := .int .i64 x16.from_) Try.underlying3 rfl (.gd (hg) rfl) (i := 0) rfl (rfl)) rfl ?_
            refine WL.g (.pl rfl rfl rfl) (fun hg => Y.fieldAddr0 (off := 6) (ft := 3) Try.underlying51 rfl cells3 (.pl rfl)) rfl ?_
            refine WL.g (.pl rfl rfl rfl) (fun hg => Y.loadB (v := .int .i64 x12.to_) Try.underlying3 rfl (.gd (hg) rfl) (i := 3) rfl (rfl)) rfl ?_
            refine WL.g (.pl rfl rfl rfl) (fun hg => Y.gtr (.gd (hg) rfl) (.gd (hg) rfl)) rfl ?_
            refine WL.q (Y.and (.pl rfl) (fun h2 => .gd (eqt h2) rfl)) rfl ?_
            refine WL.next hQ26 (.cons (i := 0) rfl (.cons (i := 2) rfl (.cons (i := 4) rfl (.cons (i := 5) rfl (.cons (i := 6) rfl (.cons (i := 7) rfl (.cons (i := 16) rfl (.cons (i := 17) rfl (.cons (i := 18) rfl (.cons (i := 23) rfl (.cons (i := 24) rfl (.cons (i := 25) rfl (.cons (i := 39) rfl (.nil)))))))))))))) ?_
            refine W.cond (.pl rfl) (fun hC27 => ?_) (fun hC27 => ?_)
            · replace hF19 := cpos hC27 hF19
              -- region 11: history.go:183
              refine W.reg ?_
              refine WL.q (Y.move (.pl rfl)) rfl ?_
              refine WL.q (Y.fieldAddr0 (off := 1) (ft := 113) Try.underlying115 rfl cells113 (.pl rfl)) rfl ?_
              obtain ⟨x18, hx18, hF19⟩ := bnd hF19
              refine WL.q (Y.arrZ Try.underlying113 cells112 (.pl rfl) (.pl rfl) (ax_lt (hx18))) rfl ?_
              refine WL.q (Y.loadB (v := .int .u16 x18) Try.underlying112 rfl (.pl rfl) (i := 2) rfl (cellsA (pre := (Value.int .i64 ((l1).length : Int) :: [])) (off := 1) (post := []) (a := After14) (enc := (eI .u16)) (d := 0) (n := 12) (sz := 1) (j := 0) (fun _ => rfl) rfl (ax_nat (hx18)) (ax_get (hx18)) rfl)) rfl ?_
              refine WL.q (Y.move (.pl rfl)) rfl ?_
              refine WL.q (Y.conv Try.underlying3 Try.underlying179 (.pl rfl)) rfl ?_
              refine WL.q (Y.shl (.pl rfl) (.pl rfl) (wrapU_nn rfl _)) rfl ?_
              refine WL.q (Y.bor (.pl rfl) (.pl rfl)) rfl ?_
              refine WL.q (Y.fieldAddr0 (off := 1) (ft := 113) Try.underlying115 rfl cells113 (.pl rfl)) rfl ?_
              obtain ⟨x19, hx19, hF19⟩ := bnd hF19
              refine WL.q (Y.arrZ Try.underlying113 cells112 (.pl rfl) (.pl rfl) (ax_lt (hx19))) rfl ?_
              refine WL.step (WO.storeB (cs' := (encRel (Rel.mk ((l1).length : Int) (setA 12 0 After14 v10 (borI .u16 x18 (shlI .u16 1 (IntKind.u64.wrap v15))))))) cells112 (.pl rfl) (.pl rfl) rfl (i := 2) rfl (ltl (m := 13) (offlt (off := 1) (sz := 1) (j := 0) (ax_nat (hx19)) (by decide)) rfl) (cellsSet (pre := (Value.int .i64 ((l1).length : Int) :: [])) (off := 1) (post := []) (a := After14) (enc := (eI .u16)) (d := 0) (n := 12) (sz := 1) (j := 0) (x := x19) (x' := (borI .u16 x18 (shlI .u16 1 (IntKind.u64.wrap v15)))) (fun _ => rfl) rfl (ax_lt (hx19)) (ax_get (hx19)) (by decide) rfl rfl) ?_)
              refine WL.nil ?_
              refine W.go hK24 (.cons (i := 0) rfl (.cons (i := 2) rfl (.cons (i := 4) rfl (.cons (i := 5) rfl (.cons (i := 6) rfl (.cons (i := 16) rfl (.cons (i := 17) rfl (.cons (i := 18) rfl (.cons (i := 23) rfl (.cons (i := 24) rfl (.cons (i := 25) rfl (.nil)))))))))))) ?_
              -- region 12: history.go:181
              refine W.reg ?_
              obtain ⟨hk20, hF19⟩ := ckh hF19
              refine WL.q (Y.add (.pl rfl) (.pl rfl) (ok64_lt (hk20))) rfl ?_
              refine WL.q (Y.move (.pl rfl)) rfl ?_
              refine WL.nil ?_
              obtain rfl := Option.some.inj hF19
              exact W.again2 hK20 (setA 12 0 After14 v10 (borI .u16 x18 (shlI .u16 1 (IntKind.u64.wrap v15)))) (v15 + 1) k19 hN19 (Nat.lt_succ_self _) (.cons rfl (.nil)) (.cons (i := 0) rfl (.cons (i := 2) rfl (.cons (i := 4) rfl (.cons (i := 5) rfl (.cons (i := 6) rfl (.cons (i := 16) rfl (.cons (i := 17) rfl (.cons (i := 18) rfl (.cons (i := 23) rfl (.cons (i := 24) rfl (.nil))))))))))) (fun wz hw => hw.pick [1, 2, 3] rfl)
            · replace hF19 := cneg hC27 hF19
              refine W.skip ?_
              refine W.go hK24 (.cons (i := 0) rfl (.cons (i := 2) rfl (.cons (i := 4) rfl (.cons (i := 5) rfl (.cons (i := 6) rfl (.cons (i := 16) rfl (.cons (i := 17) rfl (.cons (i := 18) rfl (.cons (i := 23) rfl (.cons (i := 24) rfl (.cons (i := 25) rfl (.nil)))))))))))) ?_
              -- region 12: history.go:181
              refine W.reg ?_
              obtain ⟨hk21, hF19⟩ := ckh hF19
              refine WL.q (Y.add (.pl rfl) (.pl rfl) (ok64_lt (hk21))) rfl ?_
              refine WL.q (Y.move (.pl rfl)) rfl ?_
              refine WL.nil ?_
              obtain rfl := Option.some.inj hF19
              exact W.again2 hK20 After14 (v15 + 1) k19 hN19 (Nat.lt_succ_self _) (.cons rfl (.nil)) (.cons (i := 0) rfl (.cons (i := 2) rfl (.cons (i := 4) rfl (.cons (i := 5) rfl (.cons (i := 6) rfl (.cons (i := 16) rfl (.cons (i := 17) rfl (.cons (i := 18) rfl (.cons (i := 23) rfl (.cons (i := 24) rfl (.nil))))))))))) (fun wz hw => hw.pick [1, 2, 3] rfl)
          · replace hF19 := cneg hC23 hF19
            refine W.exit ?_
            obtain rfl := Option.some.inj hF19
            exact W.joinAt1 hK16 After14 (einr hN19) (.nil) (.cons (i := 0) rfl (.cons (i := 2) rfl (.cons (i := 4) rfl (.cons (i := 16) rfl (.cons (i := 17) rfl (.cons (i := 18) rfl (.nil))))))) (fun wz hw => hw.pick [0, 1] rfl)
        · -- behind
          rintro After11 rfl
          -- region 13: history.go:180
          refine W.reg ?_
          obtain ⟨hk22, hF10⟩ := ckh hF10
          refine WL.q (Y.add (.pl rfl) (.pl rfl) (ok64_lt (hk22))) rfl ?_
          refine WL.q (Y.move (.pl rfl)) rfl ?_
          refine WL.nil ?_
          obtain rfl := Option.some.inj hF10
          exact W.again2 hK11 After11 (v10 + 1) k10 hN10 (Nat.lt_succ_self _) (.cons rfl (.nil)) (.cons (i := 0) rfl (.cons (i := 2) rfl (.cons (i := 4) rfl (.cons (i := 16) rfl (.cons (i := 17) rfl (.nil)))))) (fun wz hw => hw.pick [0, 1] rfl)
      · replace hF10 := cneg hC14 hF10
        refine W.exit ?_
        obtain rfl := Option.some.inj hF10
        exact W.joinAt1 hK8 After9 (einr hN10) (.nil) (.cons (i := 2) rfl (.cons (i := 4) rfl (.nil))) (fun wz hw => hw.pick [0, 1] rfl)
    · -- behind
      rintro After8 rfl
      -- region 14: history.go:187
      refine W.seqR fun Q32 hQ32 => ?_
      refine WL.q (Y.loadBA (ds := (encRel (Rel.mk ((l1).length : Int) After8))) Try.underlying115 rfl cells115 (.pl rfl) (i := 1) rfl rfl subW) rfl ?_
      refine WL.step (WO.storeBA (ds := (encRel (Rel.mk ((l1).length : Int) After8))) (cs' := (encRel (Rel.mk ((l1).length : Int) After8))) cells115 (.pl rfl) (.pl rfl) rfl (oneRel _) (i := 0) rfl (lel (o := 0) (l := 13) (m := 13) (by decide) rfl rfl) (putW rfl) ?_)
      refine WL.q (Y.assign (.pl rfl)) rfl ?_
      refine WL.next hQ32 (.cons (i := 2) rfl (.cons (i := 3) rfl (.nil))) ?_
      obtain rfl := Option.some.inj hF
      refine W.retV (fn := Try.f60) (vs := [.agg (encRel (Rel.mk ((l1).length : Int) After8)).toArray, .int .i64 0]) Try.results60 ⟨.cellA Try.underlying115 rfl cells115 rfl (i := 0) rfl rfl, ⟨.tmp rfl, trivial⟩⟩ (fun _ _ h => h) (fun wz hw => ?_)
      exact hR _ _ ⟨rfl, (hw.pick [] rfl)⟩

def object_of (N : Nat) (typ1 : Int) : Option Int :=
  cond (decide (typ1 = 1))
    (some 247)
    (cond (decide (typ1 = 2))
      (some 250)
      (cond (decide (typ1 = 3))
        (some 251)
        (cond (decide (typ1 = 4))
          (some 252)
          (cond (decide (typ1 = 5))
            (some 253)
            (some 0)))))

theorem object_of_ok {N : Nat} {typ1 : Int} {res : Int} (hF : object_of N typ1 = some res) (w : World) :
    Pure Try.prog 109 [.int .i64 typ1] w ((ifV res)) := by
  refine W.enter (n := 24) Try.func109 rfl rfl Sub.refl (by simp) (St.start w) fun R hR => ?_
  unfold object_of at hF
  -- region 0: object.go:112
  refine W.seqR fun Q1 hQ1 => ?_
  refine WL.q (Y.assign (.pl rfl)) rfl ?_
  refine WL.next hQ1 (.cons (i := 0) rfl (.nil)) ?_
  refine W.seq fun K2 hK2 => ?_
  -- region 1: object.go:113
  refine W.seqR fun Q3 hQ3 => ?_
  refine WL.q (Y.move (.pl rfl)) rfl ?_
  refine WL.next hQ3 (.cons (i := 3) rfl (.nil)) ?_
  refine W.block ?_
  -- region 2: object.go:114
  refine W.seqR fun Q4 hQ4 => ?_
  refine WL.q (Y.eql (.pl rfl) (.pl rfl)) rfl ?_
  refine WL.q (Y.assign (.pl rfl)) rfl ?_
  refine WL.next hQ4 (.cons (i := 3) rfl (.cons (i := 4) rfl (.nil))) ?_
  refine W.cond (.pl rfl) (fun hC5 => ?_) (fun hC5 => ?_)
  · replace hF := cpos hC5 hF
    -- region 3: object.go:115
    refine W.seqR fun Q6 hQ6 => ?_
    refine WL.q (Y.build0 Try.underlying247 zero247 (by kernel_rfl)) rfl ?_
    refine WL.q (Y.mkI Try.underlying247 rfl (.pl rfl)) rfl ?_
    refine WL.q (Y.assign (.pl rfl)) rfl ?_
    refine WL.next hQ6 (.cons (i := 2) rfl (.nil)) ?_
    obtain rfl := Option.some.inj hF
    refine W.retV (fn := Try.f109) (vs := [(ifV 247)]) Try.results109 ⟨.tmp rfl, trivial⟩ (fun _ _ h => h) (fun wz hw => ?_)
    exact hR _ _ ⟨rfl, (hw.pick [] rfl)⟩
  · replace hF := cneg hC5 hF
    -- region 4: object.go:116
    refine W.seqR fun Q7 hQ7 => ?_
    refine WL.q (Y.eql (.pl rfl) (.pl rfl)) rfl ?_
    refine WL.q (Y.assign (.pl rfl)) rfl ?_
    refine WL.next hQ7 (.cons (i := 3) rfl (.cons (i := 8) rfl (.nil))) ?_
    refine W.cond (.pl rfl) (fun hC8 => ?_) (fun hC8 => ?_)
    · replace hF := cpos hC8 hF
      -- region 5: object.go:117
      refine W.seqR fun Q9 hQ9 => ?_
      refine WL.q (Y.build0 Try.underlying250 zero250 (by kernel_rfl)) rfl ?_
      refine WL.q (Y.mkI Try.underlying250 rfl (.pl rfl)) rfl ?_
      refine WL.q (Y.assign (.pl rfl)) rfl ?_
      refine WL.next hQ9 (.cons (i := 2) rfl (.nil)) ?_
      obtain rfl := Option.some.inj hF
      refine W.retV (fn := Try.f109) (vs := [(ifV 250)]) Try.results109 ⟨.tmp rfl, trivial⟩ (fun _ _ h => h) (fun wz hw => ?_)
      exact hR _ _ ⟨rfl, (hw.pick [] rfl)⟩
    · replace hF := cneg hC8 hF
      -- region 6: object.go:118
      refine W.seqR fun Q10 hQ10 => ?_
      refine WL.q (Y.eql (.pl rfl) (.pl rfl)) rfl ?_
      refine WL.q (Y.assign (.pl rfl)) rfl ?_
      refine WL.next hQ10 (.cons (i := 3) rfl (.cons (i := 12) rfl (.nil))) ?_
      refine W.cond (.pl rfl) (fun hC11 => ?_) (fun hC11 => ?_)
      · replace hF := cpos hC11 hF
        -- region 7: object.go:119
        refine W.seqR fun Q12 hQ12 => ?_
        refine WL.q (Y.build0 Try.underlying251 zero251 (by kernel_rfl)) rfl ?_
        refine WL.q (Y.mkI Try.underlying251 rfl (.pl rfl)) rfl ?_
        refine WL.q (Y.assign (.pl rfl)) rfl ?_
        refine WL.next hQ12 (.cons (i := 2) rfl (.nil)) ?_
        obtain rfl := Option.some.inj hF
        refine W.retV (fn := Try.f109) (vs := [(ifV 251)]) Try.results109 ⟨.tmp rfl, trivial⟩ (fun _ _ h => h) (fun wz hw => ?_)
        exact hR _ _ ⟨rfl, (hw.pick [] rfl)⟩
      · replace hF := cneg hC11 hF
        -- region 8: object.go:120
        refine W.seqR fun Q13 hQ13 => ?_
        refine WL.q (Y.eql (.pl rfl) (.pl rfl)) rfl ?_
        refine WL.q (Y.assign (.pl rfl)) rfl ?_
        refine WL.next hQ13 (.cons (i := 3) rfl (.cons (i := 16) rfl (.nil))) ?_
        refine W.cond (.pl rfl) (fun hC14 => ?_) (fun hC14 => ?_)
        · replace hF := cpos hC14 hF
          -- region 9: object.go:121
          refine W.seqR fun Q15 hQ15 => ?_
          refine WL.q (Y.build0 Try.underlying252 zero252 (by kernel_rfl)) rfl ?_
          refine WL.q (Y.mkI Try.underlying252 rfl (.pl rfl)) rfl ?_
          refine WL.q (Y.assign (.pl rfl)) rfl ?_
          refine WL.next hQ15 (.cons (i := 2) rfl (.nil)) ?_
          obtain rfl := Option.some.inj hF
          refine W.retV (fn := Try.f109) (vs := [(ifV 252)]) Try.results109 ⟨.tmp rfl, trivial⟩ (fun _ _ h => h) (fun wz hw => ?_)
          exact hR _ _ ⟨rfl, (hw.pick [] rfl)⟩
        · replace hF := cneg hC14 hF
          -- region 10: object.go:122
          refine W.seqR fun Q16 hQ16 => ?_
          refine WL.q (Y.eql (.pl rfl) (.pl rfl)) rfl ?_
          refine WL.q (Y.assign (.pl rfl)) rfl ?_
          refine WL.next hQ16 (.cons (i := 20) rfl (.nil)) ?_
          refine W.cond (.pl rfl) (fun hC17 => ?_) (fun hC17 => ?_)
          · replace hF := cpos hC17 hF
            -- region 11: object.go:123
            refine W.seqR fun Q18 hQ18 => ?_
            refine WL.q (Y.build0 Try.underlying253 zero253 (by kernel_rfl)) rfl ?_
            refine WL.q (Y.mkI Try.underlying253 rfl (.pl rfl)) rfl ?_
            refine WL.q (Y.assign (.pl rfl)) rfl ?_
            refine WL.next hQ18 (.cons (i := 2) rfl (.nil)) ?_
            obtain rfl := Option.some.inj hF
            refine W.retV (fn := Try.f109) (vs := [(ifV 253)]) Try.results109 ⟨.tmp rfl, trivial⟩ (fun _ _ h => h) (fun wz hw => ?_)
            exact hR _ _ ⟨rfl, (hw.pick [] rfl)⟩
          · replace hF := cneg hC17 hF
            refine W.skip ?_
            refine W.go hK2 (.nil) ?_
            -- region 12: object.go:125
            refine W.seqR fun Q19 hQ19 => ?_
            refine WL.q (Y.assign (.pl rfl)) rfl ?_
            refine WL.next hQ19 (.cons (i := 2) rfl (.nil)) ?_
            obtain rfl := Option.some.inj hF
            refine W.retV (fn := Try.f109) (vs := [(ifV 0)]) Try.results109 ⟨.tmp rfl, trivial⟩ (fun _ _ h => h) (fun wz hw => ?_)
            exact hR _ _ ⟨rfl, (hw.pick [] rfl)⟩

def object_single_start (N : Nat) (a1 : ObjectSingle) : Option Unit :=
  some ()

theorem object_single_start_ok {N : Nat} {a1 : ObjectSingle} {res : Unit} (hF : object_single_start N a1 = some res) (w : World) :
    Made Try.prog 188 [.agg (encObjectSingle a1).toArray] w (fun g : Option Addr => .slice g (([0] : List Int)).length (([0] : List Int)).length) (fun g => [cR (eI .i64) 1 g (([0] : List Int)).length 3 ([0] : List Int)]) (fun g => True) := by
  refine W.enter (n := 4) Try.func188 rfl rfl Sub.refl (by simp) (St.start w) fun R hR => ?_
  unfold object_single_start at hF
  -- region 0: object.go:21
  refine W.seqR fun Q1 hQ1 => ?_
  refine WL.step (WO.boxA (.pl rfl) rfl fun b2 => ?_)
  refine WL.q (Y.assign (.pl rfl)) rfl ?_
  refine WL.next hQ1 (.nil) ?_
  -- region 1: object.go:21
  refine W.seqR fun Q2 hQ2 => ?_
  refine WL.step (WO.bsliceC (enc := (eI .i64)) (ys := ([0] : List Int)) Try.underlying47 bz3 (.cons (.pl rfl) (.nil)) rfl (fun _ => rfl) rfl rfl (by decide) (by decide) rfl fun b3 => ?_)
  refine WL.q (Y.assign (.pl rfl)) rfl ?_
  refine WL.next hQ2 (.cons (i := 2) rfl (.nil)) ?_
  obtain rfl := Option.some.inj hF
  refine W.retV (fn := Try.f188) (vs := [.slice (some ⟨b3, 0, none⟩) (([0] : List Int)).length (([0] : List Int)).length]) Try.results188 ⟨.tmp rfl, trivial⟩ (fun _ _ h => h) (fun wz hw => ?_)
  exact hR _ _ ⟨(some ⟨b3, 0, none⟩), trivial, rfl, (hw.pick [0] rfl)⟩

def object_many_start (N : Nat) (a1 : ObjectSingle) : Option Unit :=
  some ()

theorem object_many_start_ok {N : Nat} {a1 : ObjectSingle} {res : Unit} (hF : object_many_start N a1 = some res) (w : World) :
    Pure Try.prog 191 [.agg (encObjectSingle a1).toArray] w (.slice none 0 0) := by
  refine W.enter (n := 3) Try.func191 rfl rfl Sub.refl (by simp) (St.start w) fun R hR => ?_
  unfold object_many_start at hF
  -- region 0: object.go:46
  refine W.seqR fun Q1 hQ1 => ?_
  refine WL.step (WO.boxA (.pl rfl) rfl fun b2 => ?_)
  refine WL.q (Y.assign (.pl rfl)) rfl ?_
  refine WL.next hQ1 (.nil) ?_
  -- region 1: object.go:46
  refine W.seqR fun Q2 hQ2 => ?_
  refine WL.q (Y.assign (.pl rfl)) rfl ?_
  refine WL.next hQ2 (.cons (i := 2) rfl (.nil)) ?_
  obtain rfl := Option.some.inj hF
  refine W.retV (fn := Try.f191) (vs := [.slice none 0 0]) Try.results191 ⟨.tmp rfl, trivial⟩ (fun _ _ h => h) (fun wz hw => ?_)
  exact hR _ _ ⟨rfl, (hw.pick [] rfl)⟩

def object_Start (N : Nat) (typ1 : Int) : Option ((List Int) × Int) :=
  bd (object_of N typ1) fun (r2 : Int) =>
  cond (decide (r2 = 0))
    (some ([], 1))
    (bd (α := (List Int)) (cond (decide (r2 = 247))
        (bd (object_single_start N (ObjectSingle.mk )) fun (r6 : Unit) =>
        some ([0] : List Int))
        (cond (decide (r2 = 250))
          (bd (object_many_start N (ObjectSingle.mk )) fun (r8 : Unit) =>
          some [])
          (cond (decide (r2 = 251))
            (bd (object_many_start N (ObjectSingle.mk )) fun (r9 : Unit) =>
            some [])
            (cond (decide (r2 = 252))
              (bd (object_many_start N (ObjectSingle.mk )) fun (r10 : Unit) =>
              some [])
              (cond (decide (r2 = 253))
                (bd (object_single_start N (ObjectSingle.mk )) fun (r11 : Unit) =>
                some ([0] : List Int))
                (none)))))) <|
    fun (v5 : (List Int)) => 
      some (v5, 0))

theorem object_Start_ok {N : Nat} {typ1 : Int} {res : ((List Int) × Int)} (hF : object_Start N typ1 = some res) (w : World) :
    Made Try.prog 74 [.int .i64 typ1] w (fun g : (Option Addr × Nat) => .tuple #[.slice g.1 (res.1).length g.2, .int .i64 res.2]) (fun g => [cR (eI .i64) 1 g.1 g.2 3 res.1]) (fun g => True) := by
  refine W.enter (n := 11) Try.func74 rfl rfl Sub.refl (by simp) (St.start w) fun R hR => ?_
  unfold object_Start at hF
  -- region 0: object.go:129
  refine W.seqR fun Q1 hQ1 => ?_
  refine WL.q (Y.assign (.pl rfl)) rfl ?_
  refine WL.q (Y.assign (.pl rfl)) rfl ?_
  refine WL.next hQ1 (.cons (i := 0) rfl (.nil)) ?_
  -- region 1: object.go:130
  refine W.seqR fun Q2 hQ2 => ?_
  refine WL.q (Y.move (.pl rfl)) rfl ?_
  obtain ⟨r2, hr2, hF⟩ := bnd hF
  refine WL.step (WO.callP isGo109 (.cons (.pl rfl) (.nil)) rfl (fun wz hw => object_of_ok (hr2) wz ) ?_)
  refine WL.q (Y.assign (.pl rfl)) rfl ?_
  refine WL.next hQ2 (.cons (i := 4) rfl (.nil)) ?_
  refine W.seq fun K3 hK3 => ?_
  -- region 2: object.go:131
  refine W.seqR fun Q4 hQ4 => ?_
  refine WL.q (Y.move (.pl rfl)) rfl ?_
  refine WL.q (Y.eqNilI Try.underlying208 (.pl rfl)) rfl ?_
  refine WL.next hQ4 (.cons (i := 4) rfl (.cons (i := 8) rfl (.nil))) ?_
  refine W.cond (.pl rfl) (fun hC5 => ?_) (fun hC5 => ?_)
  · replace hF := cpos hC5 hF
    -- region 3: object.go:132
    refine W.seqR fun Q6 hQ6 => ?_
    refine WL.q (Y.assign (.pl rfl)) rfl ?_
    refine WL.q (Y.assign (.pl rfl)) rfl ?_
    refine WL.next hQ6 (.cons (i := 2) rfl (.cons (i := 3) rfl (.nil))) ?_
    obtain rfl := Option.some.inj hF
    refine W.retV (fn := Try.f74) (vs := [.slice none 0 0, .int .i64 1]) Try.results74 ⟨.tmp rfl, ⟨.tmp rfl, trivial⟩⟩ (fun _ _ h => h) (fun wz hw => ?_)
    exact hR _ _ ⟨(none, 0), trivial, rfl, ((St.nilR (hw.pick [] rfl) (eI .i64) 1 3).pick [0] rfl)⟩
  · replace hF := cneg hC5 hF
    refine W.skip ?_
    refine W.go hK3 (.cons (i := 4) rfl (.nil)) ?_
    obtain ⟨o7, hF7, hF⟩ := bnd hF
    refine W.join3 (Em := fun (v5 : (List Int)) (A3 : Option Addr) (c4 : Nat) => [(2, .slice A3 (v5).length c4), (3, .int .i64 0)]) (M := fun v5 A3 c4 => [cR (eI .i64) 1 A3 c4 3 v5]) (I := fun v5 A3 c4 => v5 = o7) (.nil) (fun K8 hK8 => ?_) ?_
    · -- up to
      -- region 4: object.go:134
      refine W.reg ?_
      refine WL.q (Y.move (.pl rfl)) rfl ?_
      refine bsplit (decide (r2 = 247)) (fun hT9 => ?_) (fun hT9 => ?_)
      · replace hF7 := cpos hT9 hF7
        obtain ⟨r6, hr6, hF7⟩ := bnd hF7
        refine WL.step (WO.callI (γ := Option Addr) (u := .agg #[]) (v := .agg #[]) (fun g => .slice g (([0] : List Int)).length (([0] : List Int)).length) (fun g => [cR (eI .i64) 1 g (([0] : List Int)).length 3 ([0] : List Int)]) (fun g => True) meth247_start isGo188 (Evs.ifE (k := 247) (of_decide_eq_true hT9) rfl (.pl rfl)) (.nil) rfl (fun wz hw => (object_single_start_ok (hr6) wz ).calls hw) ?_)
        rintro A7 -
        refine WL.q (Y.assign (.pl rfl)) rfl ?_
        refine WL.q (Y.assign (.pl rfl)) rfl ?_
        refine WL.nil ?_
        exact W.joinAt3 hK8 ([0] : List Int) A7 ((([0] : List Int)).length) (Option.some.inj hF7) (.cons rfl (.cons rfl (.nil))) (.nil) (fun wz hw => hw.pick [0] rfl)
      · replace hF7 := cneg hT9 hF7
        refine bsplit (decide (r2 = 250)) (fun hT10 => ?_) (fun hT10 => ?_)
        · replace hF7 := cpos hT10 hF7
          obtain ⟨r8, hr8, hF7⟩ := bnd hF7
          refine WL.step (WO.callI (γ := Unit) (u := .agg #[]) (v := .agg #[]) (fun g => .slice none 0 0) (fun g => []) (fun g => True) meth250_start isGo191 (Evs.ifE (k := 250) (of_decide_eq_true hT10) rfl (.pl rfl)) (.nil) rfl (fun wz hw => (object_many_start_ok (hr8) wz ).calls hw) ?_)
          rintro _ -
          refine WL.q (Y.assign (.pl rfl)) rfl ?_
          refine WL.q (Y.assign (.pl rfl)) rfl ?_
          refine WL.nil ?_
          exact W.joinAt3 hK8 [] none 0 (Option.some.inj hF7) (.cons rfl (.cons rfl (.nil))) (.nil) (fun wz hw => (St.nilR (hw.pick [] rfl) (eI .i64) 1 3).pick [0] rfl)
        · replace hF7 := cneg hT10 hF7
          refine bsplit (decide (r2 = 251)) (fun hT11 => ?_) (fun hT11 => ?_)
          · replace hF7 := cpos hT11 hF7
            obtain ⟨r9, hr9, hF7⟩ := bnd hF7
            refine WL.step (WO.callI (γ := Unit) (u := .agg #[]) (v := .agg #[]) (fun g => .slice none 0 0) (fun g => []) (fun g => True) meth251_start isGo191 (Evs.ifE (k := 251) (of_decide_eq_true hT11) rfl (.pl rfl)) (.nil) rfl (fun wz hw => (object_many_start_ok (hr9) wz ).calls hw) ?_)
            rintro _ -
            refine WL.q (Y.assign (.pl rfl)) rfl ?_
            refine WL.q (Y.assign (.pl rfl)) rfl ?_
            refine WL.nil ?_
            exact W.joinAt3 hK8 [] none 0 (Option.some.inj hF7) (.cons rfl (.cons rfl (.nil))) (.nil) (fun wz hw => (St.nilR (hw.pick [] rfl) (eI .i64) 1 3).pick [0] rfl)
          · replace hF7 := cneg hT11 hF7
            refine bsplit (decide (r2 = 252)) (fun hT12 => ?_) (fun hT12 => ?_)
            · replace hF7 := cpos hT12 hF7
              obtain ⟨r10, hr10, hF7⟩ := bnd hF7
              refine WL.step (WO.callI (γ := Unit) (u := .agg #[]) (v := .agg #[]) (fun g => .slice none 0 0) (fun g => []) (fun g => True) meth252_start isGo191 (Evs.ifE (k := 252) (of_decide_eq_true hT12) rfl (.pl rfl)) (.nil) rfl (fun wz hw => (object_many_start_ok (hr10) wz ).calls hw) ?_)
              rintro _ -
              refine WL.q (Y.assign (.pl rfl)) rfl ?_
              refine WL.q (Y.assign (.pl rfl)) rfl ?_
              refine WL.nil ?_
              exact W.joinAt3 hK8 [] none 0 (Option.some.inj hF7) (.cons rfl (.cons rfl (.nil))) (.nil) (fun wz hw => (St.nilR (hw.pick [] rfl) (eI .i64) 1 3).pick [0] rfl)
            · replace hF7 := cneg hT12 hF7
              refine bsplit (decide (r2 = 253)) (fun hT13 => ?_) (fun hT13 => ?_)
              · replace hF7 := cpos hT13 hF7
                obtain ⟨r11, hr11, hF7⟩ := bnd hF7
                refine WL.step (WO.callI (γ := Option Addr) (u := .agg #[]) (v := .agg #[]) (fun g => .slice g (([0] : List Int)).length (([0] : List Int)).length) (fun g => [cR (eI .i64) 1 g (([0] : List Int)).length 3 ([0] : List Int)]) (fun g => True) meth253_start isGo188 (Evs.ifE (k := 253) (of_decide_eq_true hT13) rfl (.pl rfl)) (.nil) rfl (fun wz hw => (object_single_start_ok (hr11) wz ).calls hw) ?_)
                rintro A12 -
                refine WL.q (Y.assign (.pl rfl)) rfl ?_
                refine WL.q (Y.assign (.pl rfl)) rfl ?_
                refine WL.nil ?_
                exact W.joinAt3 hK8 ([0] : List Int) A12 ((([0] : List Int)).length) (Option.some.inj hF7) (.cons rfl (.cons rfl (.nil))) (.nil) (fun wz hw => hw.pick [0] rfl)
              · replace hF7 := cneg hT13 hF7
                exact nomatch hF7
    · -- behind
      rintro v5 A3 c4 rfl
      obtain rfl := Option.some.inj hF
      refine W.retV (fn := Try.f74) (vs := [.slice A3 (v5).length c4, .int .i64 0]) Try.results74 ⟨.tmp rfl, ⟨.tmp rfl, trivial⟩⟩ (fun _ _ h => h) (fun wz hw => ?_)
      exact hR _ _ ⟨(A3, c4), trivial, rfl, (hw.pick [0] rfl)⟩

def search_finder_complete_L3 (N : Nat) (calls6 : (List Call)) (placed15 : Int) : Int → Option (Int ⊕ (Unit ⊕ Bool))
  | v21 =>
    cond (decide (v21 < ((calls6).length : Int)))
      (bd (ix calls6 v21) fun (x22 : Call) =>
      cond ((!(decide (x22.to_ = (-1)))) && (decide ((bandI .u16 (shrI .u16 placed15 (IntKind.u64.wrap v21)) 1) = 0)))
        (some (.inr (.inr false)))
        (ck (ok64 (v21 + 1)) <|
        some (.inl (v21 + 1))))
      (some (.inr (.inl ())))

def search_finder_complete (N : Nat) (types2 : (List Int)) (calls6 : (List Call)) (ahead10 : Rel) (states13 : (List (List Int))) (placed15 : Int) (out18 : (List Step)) (failed20 : (List (ByteArray × Bool))) : Option Bool :=
  bd (α := (Unit ⊕ Bool)) (iter (search_finder_complete_L3 N calls6 placed15) N 0) <|
  Sum.elim (fun _ => 
    some true) (fun p => some p)

theorem search_finder_complete_ok {N : Nat} {types2 : (List Int)} {calls6 : (List Call)} {ahead10 : Rel} {states13 : (List (List Int))} {placed15 : Int} {out18 : (List Step)} {failed20 : (List (ByteArray × Bool))} {b1 : Nat} {A3 : Option Addr} {c4 : Nat} {A7 : Option Addr} {c8 : Nat} {A11 : Option Addr} {c12 : Nat} {hd14 : List Hd} {A16 : Option Addr} {c17 : Nat} {b19 : Nat} {res : Bool} (hF : search_finder_complete N types2 calls6 ahead10 states13 placed15 out18 failed20 = some res) {w0 w : World} {T : List Chunk} (hw : St w0.heap.size w0 ([cBx b1 183 (Value.slice A3 (types2).length c4 :: (Value.slice A7 (calls6).length c8 :: ((encRel ahead10) ++ (Value.slice A11 (states13).length c12 :: (Value.int .u16 placed15 :: (Value.slice A16 (out18).length c17 :: (Value.map (some b19) :: []))))))), cN encSl (innSl (eI .i64) 1 3) 1 A11 c12 47 hd14 states13, cR encStep 2 A16 c17 77 out18, cMS Value.bool (some b19) failed20] ++ T) w) (hs5 : SlIn (eI .i64) 1 w0 (.slice A3 (types2).length c4) types2) (hs9 : SlIn encCall 7 w0 (.slice A7 (calls6).length c8) calls6) :
    Calls Try.prog 125 (List.toArray [.pointer (some ⟨b1, 0, none⟩)]) w (fun e w' => ∃ g : Unit, (True) ∧ e = .returned (.bool res) ∧ St w0.heap.size w0 ([cBx b1 183 (Value.slice A3 (types2).length c4 :: (Value.slice A7 (calls6).length c8 :: ((encRel ahead10) ++ (Value.slice A11 (states13).length c12 :: (Value.int .u16 placed15 :: (Value.slice A16 (out18).length c17 :: (Value.map (some b19) :: []))))))), cN encSl (innSl (eI .i64) 1 3) 1 A11 c12 47 hd14 states13, cR encStep 2 A16 c17 77 out18, cMS Value.bool (some b19) failed20] ++ T) w') := by
  refine W.enter (n := 30) Try.func125 rfl rfl Sub.refl (by simp) hw fun R hR => ?_
  unfold search_finder_complete at hF
  -- region 0: search.go:76
  refine W.seqR fun Q1 hQ1 => ?_
  refine WL.q (Y.assign (.pl rfl)) rfl ?_
  refine WL.next hQ1 (.cons (i := 0) rfl (.nil)) ?_
  obtain ⟨o2, hF2, hF⟩ := bnd hF
  refine W.join0 (Em := []) (M := ([cBx b1 183 (Value.slice A3 (types2).length c4 :: (Value.slice A7 (calls6).length c8 :: ((encRel ahead10) ++ (Value.slice A11 (states13).length c12 :: (Value.int .u16 placed15 :: (Value.slice A16 (out18).length c17 :: (Value.map (some b19) :: []))))))), cN encSl (innSl (eI .i64) 1 3) 1 A11 c12 47 hd14 states13, cR encStep 2 A16 c17 77 out18, cMS Value.bool (some b19) failed20] ++ T)) (I := (.inl ()) = o2) (.nil) (fun K3 hK3 => ?_) ?_
  · -- up to
    -- region 1: search.go:77
    refine W.seqR fun Q4 hQ4 => ?_
    refine WL.q (Y.move (.pl rfl)) rfl ?_
    refine WL.q (Y.nilCheck (.pl rfl)) rfl ?_
    refine WL.q (Y.fieldAddr0 (off := 1) (ft := 44) Try.underlying183 rfl cells44 (.pl rfl)) rfl ?_
    refine WL.q (Y.loadB (v := .slice A7 (calls6).length c8) Try.underlying44 rfl (.pl rfl) (i := 0) rfl (rfl)) rfl ?_
    refine WL.q (Y.len Try.underlying44 (.pl rfl)) rfl ?_
    refine WL.q (Y.move (.pl rfl)) rfl ?_
    refine WL.next hQ4 (.cons (i := 0) rfl (.cons (i := 8) rfl (.cons (i := 9) rfl (.cons (i := 10) rfl (.nil))))) ?_
    refine W.block ?_
    refine W.loop1 (Em := fun (v21 : Int) => [(10, .int .i64 v21)]) (M := fun v21 => ([cBx b1 183 (Value.slice A3 (types2).length c4 :: (Value.slice A7 (calls6).length c8 :: ((encRel ahead10) ++ (Value.slice A11 (states13).length c12 :: (Value.int .u16 placed15 :: (Value.slice A16 (out18).length c17 :: (Value.map (some b19) :: []))))))), cN encSl (innSl (eI .i64) 1 3) 1 A11 c12 47 hd14 states13, cR encStep 2 A16 c17 77 out18, cMS Value.bool (some b19) failed20] ++ T)) (I := fun v21 k5 => iter (search_finder_complete_L3 N calls6 placed15) k5 v21 = some o2) 0 N (hF2) (.cons rfl (.nil)) (.cons (i := 0) rfl (.cons (i := 8) rfl (.cons (i := 9) rfl (.nil)))) (fun wz hw => hw.pickK 4 [0, 1, 2, 3] rfl) (fun v21 k5 hI K6 hK6 => ?_)
    obtain ⟨k5, t5, rfl, hF5, hN5⟩ := iter_step hI
    -- region 2: search.go:77
    refine W.seqR fun Q7 hQ7 => ?_
    refine WL.q (Y.lss (.pl rfl) (.pl rfl)) rfl ?_
    refine WL.next hQ7 (.cons (i := 0) rfl (.cons (i := 8) rfl (.cons (i := 9) rfl (.cons (i := 10) rfl (.cons (i := 11) rfl (.nil)))))) ?_
    refine W.seq fun K8 hK8 => ?_
    refine W.cond (.pl rfl) (fun hC9 => ?_) (fun hC9 => ?_)
    · replace hF5 := cpos hC9 hF5
      refine W.skip ?_
      refine W.go hK8 (.cons (i := 0) rfl (.cons (i := 8) rfl (.cons (i := 9) rfl (.cons (i := 10) rfl (.nil))))) ?_
      refine W.seq fun K10 hK10 => ?_
      refine W.block ?_
      -- region 3: search.go:77
      refine W.seqR fun Q11 hQ11 => ?_
      refine WL.q (Y.move (.pl rfl)) rfl ?_
      obtain ⟨x22, hx22, hF5⟩ := bnd hF5
      refine WL.q (Y.slEl Try.underlying44 cells51 hs9 (.pl rfl) (.pl rfl) (ix_lt (hx22))) rfl ?_
      refine WL.q (Y.loadSA (enc := encCall) (ds := (encCall x22)) (j := 0) Try.underlying51 rfl cells51 hs9 (.pl rfl) (hx22) rfl rfl subW) rfl ?_
      refine WL.step (WO.alloc (cs := (encCall (Call.mk 0 0 0 0 0 0 0)).toArray) zero51 rfl rfl fun b23 => ?_)
      refine WL.q (Y.assign (.pl rfl)) rfl ?_
      refine WL.step (WO.storeBA (ds := (encCall x22)) (cs' := (encCall x22)) cells51 (.pl rfl) (.pl rfl) rfl (oneCall _) (i := 0) rfl (lel (o := 0) (l := 7) (m := 7) (by decide) rfl rfl) (putW rfl) ?_)
      refine WL.next hQ11 (.cons (i := 0) rfl (.cons (i := 3) rfl (.cons (i := 4) rfl (.cons (i := 8) rfl (.cons (i := 9) rfl (.cons (i := 10) rfl (.nil))))))) ?_
      -- region 4: search.go:78
      refine W.seqR fun Q12 hQ12 => ?_
      refine WL.q (Y.fieldAddr0 (off := 6) (ft := 3) Try.underlying51 rfl cells3 (.pl rfl)) rfl ?_
      refine WL.q (Y.loadB (v := .int .i64 x22.to_) Try.underlying3 rfl (.pl rfl) (i := 0) rfl (rfl)) rfl ?_
      refine WL.q (Y.neq (.pl rfl) (.pl rfl)) rfl ?_
      refine WL.q (Y.move (.pl rfl)) rfl ?_
      refine WL.g (.pl rfl rfl rfl) (fun hg => Y.move (.pl rfl)) rfl ?_
      refine WL.g (.pl rfl rfl rfl) (fun hg => Y.nilCheck (.gd (hg) rfl)) rfl ?_
      refine WL.g (.pl rfl rfl rfl) (fun hg => Y.fieldAddr0 (off := 16) (ft := 112) Try.underlying183 rfl cells112 (.gd (hg) rfl)) rfl ?_
      refine WL.g (.pl rfl rfl rfl) (fun hg => Y.loadB (v := .int .u16 placed15) Try.underlying112 rfl (.gd (hg) rfl) (i := 1) rfl (rfl)) rfl ?_
      refine WL.g (.pl rfl rfl rfl) (fun hg => Y.move (.pl rfl)) rfl ?_
      refine WL.g (.pl rfl rfl rfl) (fun hg => Y.conv Try.underlying3 Try.underlying179 (.gd (hg) rfl)) rfl ?_
      refine WL.g (.pl rfl rfl rfl) (fun hg => Y.shr (.gd (hg) rfl) (.gd (hg) rfl) (wrapU_nn rfl _)) rfl ?_
      refine WL.g (.pl rfl rfl rfl) (fun hg => Y.band (.gd (hg) rfl) (.pl rfl)) rfl ?_
      refine WL.g (.pl rfl rfl rfl) (fun hg => Y.eql (.gd (hg) rfl) (.pl rfl)) rfl ?_
      refine WL.q (Y.and (.pl rfl) (fun h2 => .gd (eqt h2) rfl)) rfl ?_
      refine WL.next hQ12 (.cons (i := 0) rfl (.cons (i := 8) rfl (.cons (i := 9) rfl (.cons (i := 10) rfl (.cons (i := 28) rfl (.nil)))))) ?_
      refine W.cond (.pl rfl) (fun hC13 => ?_) (fun hC13 => ?_)
      · replace hF5 := cpos hC13 hF5
        -- region 5: search.go:79
        refine W.seqR fun Q14 hQ14 => ?_
        refine WL.q (Y.assign (.pl rfl)) rfl ?_
        refine WL.next hQ14 (.cons (i := 2) rfl (.nil)) ?_
        obtain rfl := Option.some.inj hF5
        obtain rfl := einr hN5
        obtain rfl := Option.some.inj hF
        refine W.retV (fn := Try.f125) (vs := [.bool false]) Try.results125 ⟨.tmp rfl, trivial⟩ (fun _ _ h => h) (fun wz hw => ?_)
        exact hR _ _ ⟨(), trivial, rfl, (hw.pickK 5 [1, 2, 3, 4] rfl)⟩
      · replace hF5 := cneg hC13 hF5
        refine W.skip ?_
        refine W.go hK10 (.cons (i := 0) rfl (.cons (i := 8) rfl (.cons (i := 9) rfl (.cons (i := 10) rfl (.nil))))) ?_
        -- region 6: search.go:77
        refine W.reg ?_
        obtain ⟨hk24, hF5⟩ := ckh hF5
        refine WL.q (Y.add (.pl rfl) (.pl rfl) (ok64_lt (hk24))) rfl ?_
        refine WL.q (Y.move (.pl rfl)) rfl ?_
        refine WL.nil ?_
        obtain rfl := Option.some.inj hF5
        exact W.again1 hK6 (v21 + 1) k5 hN5 (Nat.lt_succ_self _) (.cons rfl (.nil)) (.cons (i := 0) rfl (.cons (i := 8) rfl (.cons (i := 9) rfl (.nil)))) (fun wz hw => hw.pickK 5 [1, 2, 3, 4] rfl)
    · replace hF5 := cneg hC9 hF5
      refine W.exit ?_
      obtain rfl := Option.some.inj hF5
      exact W.joinAt0 hK3  (einr hN5) (.nil) (.nil) (fun wz hw => hw.pickK 4 [0, 1, 2, 3] rfl)
  · -- behind
    rintro  rfl
    -- region 7: search.go:82
    refine W.seqR fun Q16 hQ16 => ?_
    refine WL.q (Y.assign (.pl rfl)) rfl ?_
    refine WL.next hQ16 (.cons (i := 2) rfl (.nil)) ?_
    obtain rfl := Option.some.inj hF
    refine W.retV (fn := Try.f125) (vs := [.bool true]) Try.results125 ⟨.tmp rfl, trivial⟩ (fun _ _ h => h) (fun wz hw => ?_)
    exact hR _ _ ⟨(), trivial, rfl, (hw.pickK 4 [0, 1, 2, 3] rfl)⟩

def search_finder_key_L27 (N : Nat) (x32 : (List Int)) : ((List Int) × Int) → Option (((List Int) × Int) ⊕ (List Int))
  | (b39, v40) =>
    cond (decide (v40 < ((x32).length : Int)))
      (bd (ix x32 v40) fun (x41 : Int) =>
      ck (limB 1 ((b39).length + (([(IntKind.u8.wrap x41), (IntKind.u8.wrap (shrI .i64 x41 8))] : List Int)).length)) <|
      ck (ok64 (v40 + 1)) <|
      some (.inl ((b39 ++ ([(IntKind.u8.wrap x41), (IntKind.u8.wrap (shrI .i64 x41 8))] : List Int)), (v40 + 1))))
      (some (.inr b39))

def search_finder_key_L25 (N : Nat) (states13 : (List (List Int))) : ((List Int) × Int) → Option (((List Int) × Int) ⊕ (List Int))
  | (b27, v28) =>
    cond (decide (v28 < ((states13).length : Int)))
      (bd (α := (List Int)) (bd (ix states13 v28) fun (x32 : (List Int)) =>
        ck (limB 1 ((b27).length + (([(IntKind.u8.wrap ((x32).length : Int))] : List Int)).length)) <|
        iter (search_finder_key_L27 N x32) N ((b27 ++ ([(IntKind.u8.wrap ((x32).length : Int))] : List Int)), 0)) <|
      fun (b31 : (List Int)) => 
        ck (ok64 (v28 + 1)) <|
        some (.inl (b31, (v28 + 1))))
      (some (.inr b27))

def search_finder_key (N : Nat) (types2 : (List Int)) (calls6 : (List Call)) (ahead10 : Rel) (states13 : (List (List Int))) (placed15 : Int) (out18 : (List Step)) (failed20 : (List (ByteArray × Bool))) : Option ByteArray :=
  bd (α := (List Int)) (iter (search_finder_key_L25 N states13) N (([(IntKind.u8.wrap placed15), (IntKind.u8.wrap (shrI .u16 placed15 8))] : List Int), 0)) <|
  fun (b24 : (List Int)) => 
    some (bstr b24)

theorem search_finder_key_ok {N : Nat} {types2 : (List Int)} {calls6 : (List Call)} {ahead10 : Rel} {states13 : (List (List Int))} {placed15 : Int} {out18 : (List Step)} {failed20 : (List (ByteArray × Bool))} {b1 : Nat} {A3 : Option Addr} {c4 : Nat} {A7 : Option Addr} {c8 : Nat} {A11 : Option Addr} {c12 : Nat} {hd14 : List Hd} {A16 : Option Addr} {c17 : Nat} {b19 : Nat} {res : ByteArray} (hF : search_finder_key N types2 calls6 ahead10 states13 placed15 out18 failed20 = some res) {w0 w : World} {T : List Chunk} (hw : St w0.heap.size w0 ([cBx b1 183 (Value.slice A3 (types2).length c4 :: (Value.slice A7 (calls6).length c8 :: ((encRel ahead10) ++ (Value.slice A11 (states13).length c12 :: (Value.int .u16 placed15 :: (Value.slice A16 (out18).length c17 :: (Value.map (some b19) :: []))))))), cN encSl (innSl (eI .i64) 1 3) 1 A11 c12 47 hd14 states13, cR encStep 2 A16 c17 77 out18, cMS Value.bool (some b19) failed20] ++ T) w) (hs5 : SlIn (eI .i64) 1 w0 (.slice A3 (types2).length c4) types2) (hs9 : SlIn encCall 7 w0 (.slice A7 (calls6).length c8) calls6) :
    Calls Try.prog 126 (List.toArray [.pointer (some ⟨b1, 0, none⟩)]) w (fun e w' => ∃ g : Unit, (True) ∧ e = .returned (.string res) ∧ St w0.heap.size w0 ([cBx b1 183 (Value.slice A3 (types2).length c4 :: (Value.slice A7 (calls6).length c8 :: ((encRel ahead10) ++ (Value.slice A11 (states13).length c12 :: (Value.int .u16 placed15 :: (Value.slice A16 (out18).length c17 :: (Value.map (some b19) :: []))))))), cN encSl (innSl (eI .i64) 1 3) 1 A11 c12 47 hd14 states13, cR encStep 2 A16 c17 77 out18, cMS Value.bool (some b19) failed20] ++ T) w') := by
  refine W.enter (n := 53) Try.func126 rfl rfl Sub.refl (by simp) hw fun R hR => ?_
  unfold search_finder_key at hF
  -- region 0: search.go:64
  refine W.seqR fun Q1 hQ1 => ?_
  refine WL.q (Y.assign (.pl rfl)) rfl ?_
  refine WL.next hQ1 (.cons (i := 0) rfl (.nil)) ?_
  -- region 1: search.go:65
  refine W.seqT 11 (by kernel_rfl) (by kernel_rfl) fun Q2 hQ2 => ?_
  refine WS.q (Y.move (.pl rfl)) rfl ?_
  refine WS.q (Y.nilCheck (.pl rfl)) rfl ?_
  refine WS.q (Y.fieldAddr0 (off := 16) (ft := 112) Try.underlying183 rfl cells112 (.pl rfl)) rfl ?_
  refine WS.q (Y.loadB (v := .int .u16 placed15) Try.underlying112 rfl (.pl rfl) (i := 0) rfl (rfl)) rfl ?_
  refine WS.q (Y.conv Try.underlying112 Try.underlying5 (.pl rfl)) rfl ?_
  refine WS.q (Y.move (.pl rfl)) rfl ?_
  refine WS.q (Y.nilCheck (.pl rfl)) rfl ?_
  refine WS.q (Y.fieldAddr0 (off := 16) (ft := 112) Try.underlying183 rfl cells112 (.pl rfl)) rfl ?_
  refine WS.q (Y.loadB (v := .int .u16 placed15) Try.underlying112 rfl (.pl rfl) (i := 0) rfl (rfl)) rfl ?_
  refine WS.q (Y.shr (.pl rfl) (.pl rfl) (by decide)) rfl ?_
  refine WS.q (Y.conv Try.underlying112 Try.underlying5 (.pl rfl)) rfl ?_
  refine WS.tail ?_
  refine WL.step (WO.bsliceC (enc := (eI .u8)) (ys := ([(IntKind.u8.wrap placed15), (IntKind.u8.wrap (shrI .u16 placed15 8))] : List Int)) Try.underlying258 bz5 (.cons (.pl rfl) (.cons (.pl rfl) (.nil))) rfl (fun _ => rfl) rfl rfl (by decide) (by decide) rfl fun b21 => ?_)
  refine WL.q (Y.assign (.pl rfl)) rfl ?_
  refine WL.next hQ2 (.cons (i := 0) rfl (.cons (i := 3) rfl (.nil))) ?_
  obtain ⟨o3, hF3, hF⟩ := bnd hF
  refine W.join3 (Em := fun (b24 : (List Int)) (A22 : Option Addr) (c23 : Nat) => [(3, .slice A22 (b24).length c23)]) (M := fun b24 A22 c23 => ([cBx b1 183 (Value.slice A3 (types2).length c4 :: (Value.slice A7 (calls6).length c8 :: ((encRel ahead10) ++ (Value.slice A11 (states13).length c12 :: (Value.int .u16 placed15 :: (Value.slice A16 (out18).length c17 :: (Value.map (some b19) :: []))))))), cN encSl (innSl (eI .i64) 1 3) 1 A11 c12 47 hd14 states13, cR encStep 2 A16 c17 77 out18, cMS Value.bool (some b19) failed20, cR (eI .u8) 1 A22 c23 5 b24] ++ T)) (I := fun b24 A22 c23 => b24 = o3) (.nil) (fun K4 hK4 => ?_) ?_
  · -- up to
    -- region 2: search.go:66
    refine W.seqR fun Q5 hQ5 => ?_
    refine WL.q (Y.move (.pl rfl)) rfl ?_
    refine WL.q (Y.nilCheck (.pl rfl)) rfl ?_
    refine WL.q (Y.fieldAddr0 (off := 15) (ft := 142) Try.underlying183 rfl cells142 (.pl rfl)) rfl ?_
    refine WL.q (Y.loadB (v := .slice A11 (states13).length c12) Try.underlying142 rfl (.pl rfl) (i := 1) rfl (rfl)) rfl ?_
    refine WL.q (Y.len Try.underlying142 (.pl rfl)) rfl ?_
    refine WL.q (Y.move (.pl rfl)) rfl ?_
    refine WL.next hQ5 (.cons (i := 3) rfl (.cons (i := 23) rfl (.cons (i := 24) rfl (.cons (i := 25) rfl (.nil))))) ?_
    refine W.block ?_
    refine W.loop4 (Em := fun (b27 : (List Int)) (v28 : Int) (A25 : Option Addr) (c26 : Nat) => [(3, .slice A25 (b27).length c26), (25, .int .i64 v28)]) (M := fun b27 v28 A25 c26 => ([cBx b1 183 (Value.slice A3 (types2).length c4 :: (Value.slice A7 (calls6).length c8 :: ((encRel ahead10) ++ (Value.slice A11 (states13).length c12 :: (Value.int .u16 placed15 :: (Value.slice A16 (out18).length c17 :: (Value.map (some b19) :: []))))))), cN encSl (innSl (eI .i64) 1 3) 1 A11 c12 47 hd14 states13, cR encStep 2 A16 c17 77 out18, cMS Value.bool (some b19) failed20, cR (eI .u8) 1 A25 c26 5 b27] ++ T)) (I := fun b27 v28 A25 c26 k6 => iter (search_finder_key_L25 N states13) k6 (b27, v28) = some o3) ([(IntKind.u8.wrap placed15), (IntKind.u8.wrap (shrI .u16 placed15 8))] : List Int) 0 (some ⟨b21, 0, none⟩) ((([(IntKind.u8.wrap placed15), (IntKind.u8.wrap (shrI .u16 placed15 8))] : List Int)).length) N (hF3) (.cons rfl (.cons rfl (.nil))) (.cons (i := 23) rfl (.cons (i := 24) rfl (.nil))) (fun wz hw => hw.pickK 5 [1, 2, 3, 4, 0] rfl) (fun b27 v28 A25 c26 k6 hI K7 hK7 => ?_)
    obtain ⟨k6, t6, rfl, hF6, hN6⟩ := iter_step hI
    -- region 3: search.go:66
    refine W.seqR fun Q8 hQ8 => ?_
    refine WL.q (Y.lss (.pl rfl) (.pl rfl)) rfl ?_
    refine WL.next hQ8 (.cons (i := 3) rfl (.cons (i := 23) rfl (.cons (i := 24) rfl (.cons (i := 25) rfl (.cons (i := 26) rfl (.nil)))))) ?_
    refine W.seq fun K9 hK9 => ?_
    refine W.cond (.pl rfl) (fun hC10 => ?_) (fun hC10 => ?_)
    · replace hF6 := cpos hC10 hF6
      refine W.skip ?_
      refine W.go hK9 (.cons (i := 3) rfl (.cons (i := 23) rfl (.cons (i := 24) rfl (.cons (i := 25) rfl (.nil))))) ?_
      obtain ⟨o11, hF11, hF6⟩ := bnd hF6
      refine W.join3 (Em := fun (b31 : (List Int)) (A29 : Option Addr) (c30 : Nat) => [(3, .slice A29 (b31).length c30)]) (M := fun b31 A29 c30 => ([cBx b1 183 (Value.slice A3 (types2).length c4 :: (Value.slice A7 (calls6).length c8 :: ((encRel ahead10) ++ (Value.slice A11 (states13).length c12 :: (Value.int .u16 placed15 :: (Value.slice A16 (out18).length c17 :: (Value.map (some b19) :: []))))))), cN encSl (innSl (eI .i64) 1 3) 1 A11 c12 47 hd14 states13, cR encStep 2 A16 c17 77 out18, cMS Value.bool (some b19) failed20, cR (eI .u8) 1 A29 c30 5 b31] ++ T)) (I := fun b31 A29 c30 => b31 = o11) (.cons (i := 23) rfl (.cons (i := 24) rfl (.cons (i := 25) rfl (.nil)))) (fun K12 hK12 => ?_) ?_
      · -- up to
        refine W.block ?_
        -- region 4: search.go:66
        refine W.seqR fun Q13 hQ13 => ?_
        obtain ⟨x32, hx32, hF11⟩ := bnd hF11
        refine WL.q (Y.nEl Try.underlying142 cells47 (i := 1) rfl (.pl rfl) rfl (.pl rfl) (ix_lt (hx32))) rfl ?_
        refine WL.q (Y.loadN (enc := encSl) (h0 := ((none, 0) : Hd)) (v := .slice (hd14.getD v28.toNat ((none, 0) : Hd)).1 (x32).length (hd14.getD v28.toNat ((none, 0) : Hd)).2) (a := x32) (idx := v28) (j := 0) Try.underlying47 rfl lenSl (i := 1) rfl (.pl rfl) (ix_get (hx32)) rfl rfl) rfl ?_
        refine WL.q (Y.assign (.pl rfl)) rfl ?_
        refine WL.next hQ13 (.cons (i := 3) rfl (.cons (i := 5) rfl (.cons (i := 23) rfl (.cons (i := 24) rfl (.cons (i := 25) rfl (.nil)))))) ?_
        -- region 5: search.go:67
        refine W.seqR fun Q14 hQ14 => ?_
        refine WL.q (Y.move (.pl rfl)) rfl ?_
        refine WL.q (Y.move (.pl rfl)) rfl ?_
        refine WL.q (Y.len Try.underlying47 (.pl rfl)) rfl ?_
        refine WL.q (Y.conv Try.underlying3 Try.underlying5 (.pl rfl)) rfl ?_
        refine WL.step (WO.bsliceC (enc := (eI .u8)) (ys := ([(IntKind.u8.wrap ((x32).length : Int))] : List Int)) Try.underlying258 bz5 (.cons (.pl rfl) (.nil)) rfl (fun _ => rfl) rfl rfl (by decide) (by decide) rfl fun b33 => ?_)
        obtain ⟨hk36, hF11⟩ := ckh hF11
        refine WL.step (WO.appendC (enc := (eI .u8)) Try.underlying258 ap5 (fun _ => rfl) oneI (.pl rfl) rfl (.pl rfl) (i := 5) rfl (m2 := 0) rfl (hk36) rfl fun A34 c35 => ?_)
        refine WL.q (Y.assign (.pl rfl)) rfl ?_
        refine WL.next hQ14 (.cons (i := 3) rfl (.cons (i := 5) rfl (.cons (i := 23) rfl (.cons (i := 24) rfl (.cons (i := 25) rfl (.nil)))))) ?_
        -- region 6: search.go:68
        refine W.seqR fun Q15 hQ15 => ?_
        refine WL.q (Y.move (.pl rfl)) rfl ?_
        refine WL.q (Y.len Try.underlying47 (.pl rfl)) rfl ?_
        refine WL.q (Y.move (.pl rfl)) rfl ?_
        refine WL.next hQ15 (.cons (i := 3) rfl (.cons (i := 23) rfl (.cons (i := 24) rfl (.cons (i := 25) rfl (.cons (i := 35) rfl (.cons (i := 36) rfl (.cons (i := 37) rfl (.nil)))))))) ?_
        refine W.block ?_
        refine W.loop4 (Em := fun (b39 : (List Int)) (v40 : Int) (A37 : Option Addr) (c38 : Nat) => [(3, .slice A37 (b39).length c38), (37, .int .i64 v40)]) (M := fun b39 v40 A37 c38 => ([cBx b1 183 (Value.slice A3 (types2).length c4 :: (Value.slice A7 (calls6).length c8 :: ((encRel ahead10) ++ (Value.slice A11 (states13).length c12 :: (Value.int .u16 placed15 :: (Value.slice A16 (out18).length c17 :: (Value.map (some b19) :: []))))))), cN encSl (innSl (eI .i64) 1 3) 1 A11 c12 47 hd14 states13, cR encStep 2 A16 c17 77 out18, cMS Value.bool (some b19) failed20, cR (eI .u8) 1 A37 c38 5 b39] ++ T)) (I := fun b39 v40 A37 c38 k16 => iter (search_finder_key_L27 N x32) k16 (b39, v40) = some o11) (b27 ++ ([(IntKind.u8.wrap ((x32).length : Int))] : List Int)) 0 A34 c35 N (hF11) (.cons rfl (.cons rfl (.nil))) (.cons (i := 23) rfl (.cons (i := 24) rfl (.cons (i := 25) rfl (.cons (i := 35) rfl (.cons (i := 36) rfl (.nil)))))) (fun wz hw => hw.pickK 6 [1, 2, 3, 4, 5] rfl) (fun b39 v40 A37 c38 k16 hI K17 hK17 => ?_)
        obtain ⟨k16, t16, rfl, hF16, hN16⟩ := iter_step hI
        -- region 7: search.go:68
        refine W.seqR fun Q18 hQ18 => ?_
        refine WL.q (Y.lss (.pl rfl) (.pl rfl)) rfl ?_
        refine WL.next hQ18 (.cons (i := 3) rfl (.cons (i := 23) rfl (.cons (i := 24) rfl (.cons (i := 25) rfl (.cons (i := 35) rfl (.cons (i := 36) rfl (.cons (i := 37) rfl (.cons (i := 38) rfl (.nil))))))))) ?_
        refine W.seq fun K19 hK19 => ?_
        refine W.cond (.pl rfl) (fun hC20 => ?_) (fun hC20 => ?_)
        · replace hF16 := cpos hC20 hF16
          refine W.skip ?_
          refine W.go hK19 (.cons (i := 3) rfl (.cons (i := 23) rfl (.cons (i := 24) rfl (.cons (i := 25) rfl (.cons (i := 35) rfl (.cons (i := 36) rfl (.cons (i := 37) rfl (.nil)))))))) ?_
          refine W.seq fun K21 hK21 => ?_
          refine W.block ?_
          -- region 8: search.go:68
          refine W.seqR fun Q22 hQ22 => ?_
          obtain ⟨x41, hx41, hF16⟩ := bnd hF16
          refine WL.q (Y.wEl (enc := (eI .i64)) (sz := 1) Try.underlying47 cells3 (fun wz hw => (SlIn.inN (enc2 := (eI .i64)) (sz2 := 1) (E2 := 3) (h0 := ((none, 0) : Hd)) (fun _ => rfl) hw (i := 1) rfl (hx32) (.head _))) (.pl rfl) (.pl rfl) (ix_lt (hx41))) rfl ?_
          refine WL.q (Y.loadW (enc := (eI .i64)) (v := .int .i64 x41) (j := 0) Try.underlying3 rfl (fun wz hw => (SlIn.inN (enc2 := (eI .i64)) (sz2 := 1) (E2 := 3) (h0 := ((none, 0) : Hd)) (fun _ => rfl) hw (i := 1) rfl (hx32) (.head _))) (.pl rfl) (hx41) rfl rfl) rfl ?_
          refine WL.q (Y.assign (.pl rfl)) rfl ?_
          refine WL.next hQ22 (.cons (i := 3) rfl (.cons (i := 7) rfl (.cons (i := 23) rfl (.cons (i := 24) rfl (.cons (i := 25) rfl (.cons (i := 35) rfl (.cons (i := 36) rfl (.cons (i := 37) rfl (.nil))))))))) ?_
          -- region 9: search.go:69
          refine W.reg ?_
          refine WL.q (Y.move (.pl rfl)) rfl ?_
          refine WL.q (Y.move (.pl rfl)) rfl ?_
          refine WL.q (Y.conv Try.underlying3 Try.underlying5 (.pl rfl)) rfl ?_
          refine WL.q (Y.move (.pl rfl)) rfl ?_
          refine WL.q (Y.shr (.pl rfl) (.pl rfl) (by decide)) rfl ?_
          refine WL.q (Y.conv Try.underlying3 Try.underlying5 (.pl rfl)) rfl ?_
          refine WL.step (WO.bsliceC (enc := (eI .u8)) (ys := ([(IntKind.u8.wrap x41), (IntKind.u8.wrap (shrI .i64 x41 8))] : List Int)) Try.underlying258 bz5 (.cons (.pl rfl) (.cons (.pl rfl) (.nil))) rfl (fun _ => rfl) rfl rfl (by decide) (by decide) rfl fun b42 => ?_)
          obtain ⟨hk45, hF16⟩ := ckh hF16
          refine WL.step (WO.appendC (enc := (eI .u8)) Try.underlying258 ap5 (fun _ => rfl) oneI (.pl rfl) rfl (.pl rfl) (i := 5) rfl (m2 := 0) rfl (hk45) rfl fun A43 c44 => ?_)
          refine WL.q (Y.assign (.pl rfl)) rfl ?_
          refine WL.nil ?_
          refine W.go hK21 (.cons (i := 3) rfl (.cons (i := 23) rfl (.cons (i := 24) rfl (.cons (i := 25) rfl (.cons (i := 35) rfl (.cons (i := 36) rfl (.cons (i := 37) rfl (.nil)))))))) ?_
          -- region 10: search.go:68
          refine W.reg ?_
          obtain ⟨hk46, hF16⟩ := ckh hF16
          refine WL.q (Y.add (.pl rfl) (.pl rfl) (ok64_lt (hk46))) rfl ?_
          refine WL.q (Y.move (.pl rfl)) rfl ?_
          refine WL.nil ?_
          obtain rfl := Option.some.inj hF16
          exact W.again4 hK17 (b39 ++ ([(IntKind.u8.wrap x41), (IntKind.u8.wrap (shrI .i64 x41 8))] : List Int)) (v40 + 1) A43 c44 k16 hN16 (Nat.lt_succ_self _) (.cons rfl (.cons rfl (.nil))) (.cons (i := 23) rfl (.cons (i := 24) rfl (.cons (i := 25) rfl (.cons (i := 35) rfl (.cons (i := 36) rfl (.nil)))))) (fun wz hw => hw.pickK 6 [1, 2, 3, 4, 5] rfl)
        · replace hF16 := cneg hC20 hF16
          refine W.exit ?_
          obtain rfl := Option.some.inj hF16
          exact W.joinAt3 hK12 b39 A37 c38 (einr hN16) (.cons rfl (.nil)) (.cons (i := 23) rfl (.cons (i := 24) rfl (.cons (i := 25) rfl (.nil)))) (fun wz hw => hw.pickK 5 [0, 1, 2, 3, 4] rfl)
      · -- behind
        rintro b31 A29 c30 rfl
        -- region 11: search.go:66
        refine W.reg ?_
        obtain ⟨hk47, hF6⟩ := ckh hF6
        refine WL.q (Y.add (.pl rfl) (.pl rfl) (ok64_lt (hk47))) rfl ?_
        refine WL.q (Y.move (.pl rfl)) rfl ?_
        refine WL.nil ?_
        obtain rfl := Option.some.inj hF6
        exact W.again4 hK7 b31 (v28 + 1) A29 c30 k6 hN6 (Nat.lt_succ_self _) (.cons rfl (.cons rfl (.nil))) (.cons (i := 23) rfl (.cons (i := 24) rfl (.nil))) (fun wz hw => hw.pickK 5 [0, 1, 2, 3, 4] rfl)
    · replace hF6 := cneg hC10 hF6
      refine W.exit ?_
      obtain rfl := Option.some.inj hF6
      exact W.joinAt3 hK4 b27 A25 c26 (einr hN6) (.cons rfl (.nil)) (.nil) (fun wz hw => hw.pickK 5 [0, 1, 2, 3, 4] rfl)
  · -- behind
    rintro b24 A22 c23 rfl
    -- region 12: search.go:72
    refine W.seqR fun Q26 hQ26 => ?_
    refine WL.q (Y.move (.pl rfl)) rfl ?_
    refine WL.q (Y.bstr (xs := b24) Try.underlying258 Try.underlying5 Try.underlying9 (.pl rfl) rfl (i := 4) rfl) rfl ?_
    refine WL.q (Y.assign (.pl rfl)) rfl ?_
    refine WL.next hQ26 (.cons (i := 2) rfl (.nil)) ?_
    obtain rfl := Option.some.inj hF
    refine W.retV (fn := Try.f126) (vs := [.string (bstr b24)]) Try.results126 ⟨.tmp rfl, trivial⟩ (fun _ _ h => h) (fun wz hw => ?_)
    exact hR _ _ ⟨(), trivial, rfl, (hw.pickK 5 [0, 1, 2, 3] rfl)⟩

def object_single_valid (N : Nat) (a1 : ObjectSingle) (s2 : (List Int)) : Option Bool :=
  bd ((cond ((decide (((s2).length : Int) = 1)) == true) (ix s2 0) (some 0))) fun (x8 : Int) =>
  bd ((cond (((decide (((s2).length : Int) = 1)) && (decide (0 ≤ x8))) == true) (ix s2 0) (some 0))) fun (x9 : Int) =>
  some (((decide (((s2).length : Int) = 1)) && (decide (0 ≤ x8))) && (decide (x9 ≤ 1000)))

theorem object_single_valid_ok {N : Nat} {a1 : ObjectSingle} {s2 : (List Int)} {res : Bool} (hF : object_single_valid N a1 s2 = some res) (w : World) {v6 : Value} (hs5 : SlIn (eI .i64) 1 w v6 s2) :
    Pure Try.prog 189 [.agg (encObjectSingle a1).toArray, v6] w (.bool res) := by
  obtain ⟨A3, c4, rfl, hcc4, hs5⟩ := hs5.form
  refine W.enter (n := 20) Try.func189 rfl rfl Sub.refl (by simp) (St.start w) fun R hR => ?_
  unfold object_single_valid at hF
  -- region 0: object.go:23
  refine W.seqR fun Q1 hQ1 => ?_
  refine WL.step (WO.boxA (.pl rfl) rfl fun b7 => ?_)
  refine WL.q (Y.assign (.pl rfl)) rfl ?_
  refine WL.next hQ1 (.cons (i := 1) rfl (.nil)) ?_
  -- region 1: object.go:23
  refine W.seqR fun Q2 hQ2 => ?_
  refine WL.q (Y.move (.pl rfl)) rfl ?_
  refine WL.q (Y.len Try.underlying47 (.pl rfl)) rfl ?_
  refine WL.q (Y.eql (.pl rfl) (.pl rfl)) rfl ?_
  refine WL.q (Y.move (.pl rfl)) rfl ?_
  refine WL.g (.pl rfl rfl rfl) (fun hg => Y.move (.pl rfl)) rfl ?_
  obtain ⟨x8, hx8, hF⟩ := bnd hF
  refine WL.g (.pl rfl rfl rfl) (fun hg => Y.slEl Try.underlying47 cells3 hs5 (.gd (hg) rfl) (.pl rfl) (ix_lt (gpos hg hx8))) rfl ?_
  refine WL.g (.pl rfl rfl rfl) (fun hg => Y.loadS (enc := (eI .i64)) (v := .int .i64 x8) (j := 0) Try.underlying3 rfl hs5 (.gd (hg) rfl) (gpos hg hx8) rfl rfl) rfl ?_
  refine WL.g (.pl rfl rfl rfl) (fun hg => Y.geq (.gd (hg) rfl) (.pl rfl)) rfl ?_
  refine WL.q (Y.and (.pl rfl) (fun h2 => .gd (eqt h2) rfl)) rfl ?_
  refine WL.q (Y.move (.pl rfl)) rfl ?_
  refine WL.g (.pl rfl rfl rfl) (fun hg => Y.move (.pl rfl)) rfl ?_
  obtain ⟨x9, hx9, hF⟩ := bnd hF
  refine WL.g (.pl rfl rfl rfl) (fun hg => Y.slEl Try.underlying47 cells3 hs5 (.gd (hg) rfl) (.pl rfl) (ix_lt (gpos hg hx9))) rfl ?_
  refine WL.g (.pl rfl rfl rfl) (fun hg => Y.loadS (enc := (eI .i64)) (v := .int .i64 x9) (j := 0) Try.underlying3 rfl hs5 (.gd (hg) rfl) (gpos hg hx9) rfl rfl) rfl ?_
  refine WL.g (.pl rfl rfl rfl) (fun hg => Y.leq (.gd (hg) rfl) (.pl rfl)) rfl ?_
  refine WL.q (Y.and (.pl rfl) (fun h2 => .gd (eqt h2) rfl)) rfl ?_
  refine WL.q (Y.assign (.pl rfl)) rfl ?_
  refine WL.next hQ2 (.cons (i := 4) rfl (.nil)) ?_
  obtain rfl := Option.some.inj hF
  refine W.retV (fn := Try.f189) (vs := [.bool (((decide (((s2).length : Int) = 1)) && (decide (0 ≤ x8))) && (decide (x9 ≤ 1000)))]) Try.results189 ⟨.tmp rfl, trivial⟩ (fun _ _ h => h) (fun wz hw => ?_)
  exact hR _ _ ⟨rfl, (hw.pick [] rfl)⟩

def object_many_valid_1 (N : Nat) (n1 : Int) : Option Unit :=
  some ()

theorem object_many_valid_1_ok {N : Nat} {n1 : Int} {res : Unit} (hF : object_many_valid_1 N n1 = some res) (w : World) :
    Pure Try.prog 193 [.int .i64 n1] w (.bool ((decide (n1 < 1)) || (decide (1000 < n1)))) := by
  refine W.enter (n := 9) Try.func193 rfl rfl Sub.refl (by simp) (St.start w) fun R hR => ?_
  unfold object_many_valid_1 at hF
  -- region 0: object.go:49
  refine W.seqR fun Q1 hQ1 => ?_
  refine WL.q (Y.assign (.pl rfl)) rfl ?_
  refine WL.next hQ1 (.cons (i := 0) rfl (.nil)) ?_
  -- region 1: object.go:49
  refine W.seqR fun Q2 hQ2 => ?_
  refine WL.q (Y.move (.pl rfl)) rfl ?_
  refine WL.q (Y.lss (.pl rfl) (.pl rfl)) rfl ?_
  refine WL.q (Y.move (.pl rfl)) rfl ?_
  refine WL.g (.pl rfl rfl rfl) (fun hg => Y.move (.pl rfl)) rfl ?_
  refine WL.g (.pl rfl rfl rfl) (fun hg => Y.gtr (.gd (hg) rfl) (.pl rfl)) rfl ?_
  refine WL.q (Y.or (.pl rfl) (fun h2 => .gd (eqf h2) rfl)) rfl ?_
  refine WL.q (Y.assign (.pl rfl)) rfl ?_
  refine WL.next hQ2 (.cons (i := 2) rfl (.nil)) ?_
  obtain rfl := Option.some.inj hF
  refine W.retV (fn := Try.f193) (vs := [.bool ((decide (n1 < 1)) || (decide (1000 < n1)))]) Try.results193 ⟨.tmp rfl, trivial⟩ (fun _ _ h => h) (fun wz hw => ?_)
  exact hR _ _ ⟨rfl, (hw.pick [] rfl)⟩

def slices_IndexFunc_int_int_1_L3 (N : Nat) (s1 : (List Int)) : Int → Option (Int ⊕ (Unit ⊕ Int))
  | v6 =>
    cond (decide (v6 < ((s1).length : Int)))
      (bd (ix s1 v6) fun (x7 : Int) =>
      bd (object_many_valid_1 N x7) fun (r8 : Unit) =>
      cond ((decide (x7 < 1)) || (decide (1000 < x7)))
        (some (.inr (.inr v6)))
        (ck (ok64 (v6 + 1)) <|
        some (.inl (v6 + 1))))
      (some (.inr (.inl ())))

def slices_IndexFunc_int_int_1 (N : Nat) (s1 : (List Int)) : Option Int :=
  bd (α := (Unit ⊕ Int)) (iter (slices_IndexFunc_int_int_1_L3 N s1) N 0) <|
  Sum.elim (fun _ => 
    some (-1)) (fun p => some p)

theorem slices_IndexFunc_int_int_1_ok {N : Nat} {s1 : (List Int)} {res : Int} (hF : slices_IndexFunc_int_int_1 N s1 = some res) (w : World) {v5 : Value} (hs4 : SlIn (eI .i64) 1 w v5 s1) :
    Pure Try.prog 123 [v5, .func (.func 193) #[] #[]] w (.int .i64 res) := by
  obtain ⟨A2, c3, rfl, hcc3, hs4⟩ := hs4.form
  refine W.enter (n := 19) Try.func123 rfl rfl Sub.refl (by simp) (St.start w) fun R hR => ?_
  unfold slices_IndexFunc_int_int_1 at hF
  -- region 0: slices.go:107
  refine W.seqR fun Q1 hQ1 => ?_
  refine WL.q (Y.assign (.pl rfl)) rfl ?_
  refine WL.next hQ1 (.cons (i := 0) rfl (.cons (i := 1) rfl (.nil))) ?_
  obtain ⟨o2, hF2, hF⟩ := bnd hF
  refine W.join0 (Em := []) (M := []) (I := (.inl ()) = o2) (.nil) (fun K3 hK3 => ?_) ?_
  · -- up to
    -- region 1: slices.go:108
    refine W.seqR fun Q4 hQ4 => ?_
    refine WL.q (Y.move (.pl rfl)) rfl ?_
    refine WL.q (Y.len Try.underlying47 (.pl rfl)) rfl ?_
    refine WL.q (Y.move (.pl rfl)) rfl ?_
    refine WL.next hQ4 (.cons (i := 0) rfl (.cons (i := 1) rfl (.cons (i := 7) rfl (.cons (i := 8) rfl (.nil))))) ?_
    refine W.block ?_
    refine W.loop1 (Em := fun (v6 : Int) => [(8, .int .i64 v6)]) (M := fun v6 => []) (I := fun v6 k5 => iter (slices_IndexFunc_int_int_1_L3 N s1) k5 v6 = some o2) 0 N (hF2) (.cons rfl (.nil)) (.cons (i := 0) rfl (.cons (i := 1) rfl (.cons (i := 7) rfl (.nil)))) (fun wz hw => hw.pick [] rfl) (fun v6 k5 hI K6 hK6 => ?_)
    obtain ⟨k5, t5, rfl, hF5, hN5⟩ := iter_step hI
    -- region 2: slices.go:108
    refine W.seqR fun Q7 hQ7 => ?_
    refine WL.q (Y.lss (.pl rfl) (.pl rfl)) rfl ?_
    refine WL.next hQ7 (.cons (i := 0) rfl (.cons (i := 1) rfl (.cons (i := 7) rfl (.cons (i := 8) rfl (.cons (i := 9) rfl (.nil)))))) ?_
    refine W.seq fun K8 hK8 => ?_
    refine W.cond (.pl rfl) (fun hC9 => ?_) (fun hC9 => ?_)
    · replace hF5 := cpos hC9 hF5
      refine W.skip ?_
      refine W.go hK8 (.cons (i := 0) rfl (.cons (i := 1) rfl (.cons (i := 7) rfl (.cons (i := 8) rfl (.nil))))) ?_
      refine W.seq fun K10 hK10 => ?_
      refine W.block ?_
      -- region 3: slices.go:108
      refine W.seqR fun Q11 hQ11 => ?_
      refine WL.q (Y.move (.pl rfl)) rfl ?_
      refine WL.q (Y.assign (.pl rfl)) rfl ?_
      refine WL.next hQ11 (.cons (i := 0) rfl (.cons (i := 1) rfl (.cons (i := 5) rfl (.cons (i := 7) rfl (.cons (i := 8) rfl (.nil)))))) ?_
      -- region 4: slices.go:109
      refine W.seqR fun Q12 hQ12 => ?_
      refine WL.q (Y.move (.pl rfl)) rfl ?_
      refine WL.q (Y.move (.pl rfl)) rfl ?_
      refine WL.q (Y.move (.pl rfl)) rfl ?_
      obtain ⟨x7, hx7, hF5⟩ := bnd hF5
      refine WL.q (Y.slEl Try.underlying47 cells3 hs4 (.pl rfl) (.pl rfl) (ix_lt (hx7))) rfl ?_
      refine WL.q (Y.loadS (enc := (eI .i64)) (v := .int .i64 x7) (j := 0) Try.underlying3 rfl hs4 (.pl rfl) (hx7) rfl rfl) rfl ?_
      obtain ⟨r8, hr8, hF5⟩ := bnd hF5
      refine WL.step (WO.callG (γ := Unit) (first := []) (cap := []) (fun g => .bool ((decide (x7 < 1)) || (decide (1000 < x7)))) (fun g => []) (fun g => True) isGo193 (.pl rfl) (.cons (.pl rfl) (.nil)) rfl (fun wz hw => (object_many_valid_1_ok (hr8) wz ).calls hw) ?_)
      rintro _ -
      refine WL.next hQ12 (.cons (i := 0) rfl (.cons (i := 1) rfl (.cons (i := 5) rfl (.cons (i := 7) rfl (.cons (i := 8) rfl (.cons (i := 16) rfl (.nil))))))) ?_
      refine W.cond (.pl rfl) (fun hC13 => ?_) (fun hC13 => ?_)
      · replace hF5 := cpos hC13 hF5
        -- region 5: slices.go:110
        refine W.seqR fun Q14 hQ14 => ?_
        refine WL.q (Y.move (.pl rfl)) rfl ?_
        refine WL.q (Y.assign (.pl rfl)) rfl ?_
        refine WL.next hQ14 (.cons (i := 4) rfl (.nil)) ?_
        obtain rfl := Option.some.inj hF5
        obtain rfl := einr hN5
        obtain rfl := Option.some.inj hF
        refine W.retV (fn := Try.f123) (vs := [.int .i64 v6]) Try.results123 ⟨.tmp rfl, trivial⟩ (fun _ _ h => h) (fun wz hw => ?_)
        exact hR _ _ ⟨rfl, (hw.pick [] rfl)⟩
      · replace hF5 := cneg hC13 hF5
        refine W.skip ?_
        refine W.go hK10 (.cons (i := 0) rfl (.cons (i := 1) rfl (.cons (i := 7) rfl (.cons (i := 8) rfl (.nil))))) ?_
        -- region 6: slices.go:108
        refine W.reg ?_
        obtain ⟨hk9, hF5⟩ := ckh hF5
        refine WL.q (Y.add (.pl rfl) (.pl rfl) (ok64_lt (hk9))) rfl ?_
        refine WL.q (Y.move (.pl rfl)) rfl ?_
        refine WL.nil ?_
        obtain rfl := Option.some.inj hF5
        exact W.again1 hK6 (v6 + 1) k5 hN5 (Nat.lt_succ_self _) (.cons rfl (.nil)) (.cons (i := 0) rfl (.cons (i := 1) rfl (.cons (i := 7) rfl (.nil)))) (fun wz hw => hw.pick [] rfl)
    · replace hF5 := cneg hC9 hF5
      refine W.exit ?_
      obtain rfl := Option.some.inj hF5
      exact W.joinAt0 hK3  (einr hN5) (.nil) (.nil) (fun wz hw => hw.pick [] rfl)
  · -- behind
    rintro  rfl
    -- region 7: slices.go:113
    refine W.seqR fun Q16 hQ16 => ?_
    refine WL.q (Y.assign (.pl rfl)) rfl ?_
    refine WL.next hQ16 (.cons (i := 4) rfl (.nil)) ?_
    obtain rfl := Option.some.inj hF
    refine W.retV (fn := Try.f123) (vs := [.int .i64 (-1)]) Try.results123 ⟨.tmp rfl, trivial⟩ (fun _ _ h => h) (fun wz hw => ?_)
    exact hR _ _ ⟨rfl, (hw.pick [] rfl)⟩

def slices_ContainsFunc_int_int_1 (N : Nat) (s1 : (List Int)) : Option Bool :=
  bd (slices_IndexFunc_int_int_1 N s1) fun (r6 : Int) =>
  some (decide (0 ≤ r6))

theorem slices_ContainsFunc_int_int_1_ok {N : Nat} {s1 : (List Int)} {res : Bool} (hF : slices_ContainsFunc_int_int_1 N s1 = some res) (w : World) {v5 : Value} (hs4 : SlIn (eI .i64) 1 w v5 s1) :
    Pure Try.prog 90 [v5, .func (.func 193) #[] #[]] w (.bool res) := by
  obtain ⟨A2, c3, rfl, hcc3, hs4⟩ := hs4.form
  refine W.enter (n := 9) Try.func90 rfl rfl Sub.refl (by simp) (St.start w) fun R hR => ?_
  unfold slices_ContainsFunc_int_int_1 at hF
  -- region 0: slices.go:124
  refine W.seqR fun Q1 hQ1 => ?_
  refine WL.q (Y.assign (.pl rfl)) rfl ?_
  refine WL.next hQ1 (.cons (i := 0) rfl (.cons (i := 1) rfl (.nil))) ?_
  -- region 1: slices.go:125
  refine W.seqR fun Q2 hQ2 => ?_
  refine WL.q (Y.move (.pl rfl)) rfl ?_
  refine WL.q (Y.move (.pl rfl)) rfl ?_
  obtain ⟨r6, hr6, hF⟩ := bnd hF
  refine WL.step (WO.callP isGo123 (.cons (.pl rfl) (.cons (.pl rfl) (.nil))) rfl (fun wz hw => slices_IndexFunc_int_int_1_ok (hr6) wz (hs4.mono hw)) ?_)
  refine WL.q (Y.geq (.pl rfl) (.pl rfl)) rfl ?_
  refine WL.q (Y.assign (.pl rfl)) rfl ?_
  refine WL.next hQ2 (.cons (i := 4) rfl (.nil)) ?_
  obtain rfl := Option.some.inj hF
  refine W.retV (fn := Try.f90) (vs := [.bool (decide (0 ≤ r6))]) Try.results90 ⟨.tmp rfl, trivial⟩ (fun _ _ h => h) (fun wz hw => ?_)
  exact hR _ _ ⟨rfl, (hw.pick [] rfl)⟩

def object_many_valid (N : Nat) (a1 : ObjectSingle) (s2 : (List Int)) : Option Bool :=
  bd (slices_ContainsFunc_int_int_1 N s2) fun (r8 : Bool) =>
  some (!r8)

theorem object_many_valid_ok {N : Nat} {a1 : ObjectSingle} {s2 : (List Int)} {res : Bool} (hF : object_many_valid N a1 s2 = some res) (w : World) {v6 : Value} (hs5 : SlIn (eI .i64) 1 w v6 s2) :
    Pure Try.prog 192 [.agg (encObjectSingle a1).toArray, v6] w (.bool res) := by
  obtain ⟨A3, c4, rfl, hcc4, hs5⟩ := hs5.form
  refine W.enter (n := 8) Try.func192 rfl rfl Sub.refl (by simp) (St.start w) fun R hR => ?_
  unfold object_many_valid at hF
  -- region 0: object.go:48
  refine W.seqR fun Q1 hQ1 => ?_
  refine WL.step (WO.boxA (.pl rfl) rfl fun b7 => ?_)
  refine WL.q (Y.assign (.pl rfl)) rfl ?_
  refine WL.next hQ1 (.cons (i := 1) rfl (.nil)) ?_
  -- region 1: object.go:49
  refine W.seqR fun Q2 hQ2 => ?_
  refine WL.q (Y.move (.pl rfl)) rfl ?_
  obtain ⟨r8, hr8, hF⟩ := bnd hF
  refine WL.step (WO.callP isGo90 (.cons (.pl rfl) (.cons (.pl rfl) (.nil))) rfl (fun wz hw => slices_ContainsFunc_int_int_1_ok (hr8) wz (hs5.mono hw)) ?_)
  refine WL.q (Y.not (.pl rfl)) rfl ?_
  refine WL.q (Y.assign (.pl rfl)) rfl ?_
  refine WL.next hQ2 (.cons (i := 4) rfl (.nil)) ?_
  obtain rfl := Option.some.inj hF
  refine W.retV (fn := Try.f192) (vs := [.bool (!r8)]) Try.results192 ⟨.tmp rfl, trivial⟩ (fun _ _ h => h) (fun wz hw => ?_)
  exact hR _ _ ⟨rfl, (hw.pick [] rfl)⟩

def object_set_valid_L3 (N : Nat) (s2 : (List Int)) : Int → Option (Int ⊕ (Unit ⊕ Bool))
  | i8 =>
    cond (decide (i8 < ((s2).length : Int)))
      (ck (ok64 (i8 - 1)) <|
      bd (ix s2 (i8 - 1)) fun (x10 : Int) =>
      bd (ix s2 i8) fun (x11 : Int) =>
      cond (decide (x11 ≤ x10))
        (some (.inr (.inr false)))
        (ck (ok64 (i8 + 1)) <|
        some (.inl (i8 + 1))))
      (some (.inr (.inl ())))

def object_set_valid (N : Nat) (x1 : ObjectSet) (s2 : (List Int)) : Option Bool :=
  bd (α := (Unit ⊕ Bool)) (iter (object_set_valid_L3 N s2) N 1) <|
  Sum.elim (fun _ => 
    bd (object_many_valid N x1.many s2) fun (r13 : Bool) =>
    some r13) (fun p => some p)

theorem object_set_valid_ok {N : Nat} {x1 : ObjectSet} {s2 : (List Int)} {res : Bool} (hF : object_set_valid N x1 s2 = some res) (w : World) {v6 : Value} (hs5 : SlIn (eI .i64) 1 w v6 s2) :
    Pure Try.prog 198 [.agg (encObjectSet x1).toArray, v6] w (.bool res) := by
  obtain ⟨A3, c4, rfl, hcc4, hs5⟩ := hs5.form
  refine W.enter (n := 26) Try.func198 rfl rfl Sub.refl (by simp) (St.start w) fun R hR => ?_
  unfold object_set_valid at hF
  -- region 0: object.go:87
  refine W.seqR fun Q1 hQ1 => ?_
  refine WL.step (WO.boxA (.pl rfl) rfl fun b7 => ?_)
  refine WL.q (Y.assign (.pl rfl)) rfl ?_
  refine WL.next hQ1 (.cons (i := 1) rfl (.cons (i := 2) rfl (.nil))) ?_
  obtain ⟨o2, hF2, hF⟩ := bnd hF
  refine W.join0 (Em := []) (M := [cBx b7 252 (encObjectSet x1)]) (I := (.inl ()) = o2) (.cons (i := 1) rfl (.cons (i := 2) rfl (.nil))) (fun K3 hK3 => ?_) ?_
  · -- up to
    -- region 1: object.go:88
    refine W.seqR fun Q4 hQ4 => ?_
    refine WL.q (Y.assign (.pl rfl)) rfl ?_
    refine WL.next hQ4 (.cons (i := 1) rfl (.cons (i := 2) rfl (.cons (i := 5) rfl (.nil)))) ?_
    refine W.block ?_
    refine W.loop1 (Em := fun (i8 : Int) => [(5, .int .i64 i8)]) (M := fun i8 => [cBx b7 252 (encObjectSet x1)]) (I := fun i8 k5 => iter (object_set_valid_L3 N s2) k5 i8 = some o2) 1 N (hF2) (.cons rfl (.nil)) (.cons (i := 1) rfl (.cons (i := 2) rfl (.nil))) (fun wz hw => hw.pick [0] rfl) (fun i8 k5 hI K6 hK6 => ?_)
    obtain ⟨k5, t5, rfl, hF5, hN5⟩ := iter_step hI
    refine W.seq fun K7 hK7 => ?_
    -- region 2: object.go:88
    refine W.seqR fun Q8 hQ8 => ?_
    refine WL.q (Y.move (.pl rfl)) rfl ?_
    refine WL.q (Y.move (.pl rfl)) rfl ?_
    refine WL.q (Y.len Try.underlying47 (.pl rfl)) rfl ?_
    refine WL.q (Y.lss (.pl rfl) (.pl rfl)) rfl ?_
    refine WL.next hQ8 (.cons (i := 1) rfl (.cons (i := 2) rfl (.cons (i := 5) rfl (.cons (i := 9) rfl (.nil))))) ?_
    refine W.cond (.pl rfl) (fun hC9 => ?_) (fun hC9 => ?_)
    · replace hF5 := cpos hC9 hF5
      refine W.skip ?_
      refine W.go hK7 (.cons (i := 1) rfl (.cons (i := 2) rfl (.cons (i := 5) rfl (.nil)))) ?_
      refine W.seq fun K10 hK10 => ?_
      refine W.block ?_
      -- region 4: object.go:89
      refine W.seqD (by kernel_rfl) (by kernel_rfl) fun R11 hR11 => ?_
      refine WD.q (Y.move (.pl rfl)) rfl ?_
      refine WD.q (Y.move (.pl rfl)) rfl ?_
      obtain ⟨hk9, hF5⟩ := ckh hF5
      refine WD.q (Y.sub (.pl rfl) (.pl rfl) (ok64_lt (hk9))) rfl ?_
      obtain ⟨x10, hx10, hF5⟩ := bnd hF5
      refine WD.q (Y.slEl Try.underlying47 cells3 hs5 (.pl rfl) (.pl rfl) (ix_lt (hx10))) rfl ?_
      refine WD.q (Y.loadS (enc := (eI .i64)) (v := .int .i64 x10) (j := 0) Try.underlying3 rfl hs5 (.pl rfl) (hx10) rfl rfl) rfl ?_
      refine WD.q (Y.move (.pl rfl)) rfl ?_
      refine WD.q (Y.move (.pl rfl)) rfl ?_
      obtain ⟨x11, hx11, hF5⟩ := bnd hF5
      refine WD.q (Y.slEl Try.underlying47 cells3 hs5 (.pl rfl) (.pl rfl) (ix_lt (hx11))) rfl ?_
      refine WD.q (Y.loadS (enc := (eI .i64)) (v := .int .i64 x11) (j := 0) Try.underlying3 rfl hs5 (.pl rfl) (hx11) rfl rfl) rfl ?_
      refine WD.q (Y.geq (.pl rfl) (.pl rfl)) rfl ?_
      refine WD.next hR11 (.cons (i := 1) rfl (.cons (i := 2) rfl (.cons (i := 5) rfl (.cons (i := 21) rfl (.nil))))) ?_
      refine W.cond (.pl rfl) (fun hC12 => ?_) (fun hC12 => ?_)
      · replace hF5 := cpos hC12 hF5
        -- region 5: object.go:90
        refine W.seqR fun Q13 hQ13 => ?_
        refine WL.q (Y.assign (.pl rfl)) rfl ?_
        refine WL.next hQ13 (.cons (i := 4) rfl (.nil)) ?_
        obtain rfl := Option.some.inj hF5
        obtain rfl := einr hN5
        obtain rfl := Option.some.inj hF
        refine W.retV (fn := Try.f198) (vs := [.bool false]) Try.results198 ⟨.tmp rfl, trivial⟩ (fun _ _ h => h) (fun wz hw => ?_)
        exact hR _ _ ⟨rfl, (hw.pick [] rfl)⟩
      · replace hF5 := cneg hC12 hF5
        refine W.skip ?_
        refine W.go hK10 (.cons (i := 1) rfl (.cons (i := 2) rfl (.cons (i := 5) rfl (.nil)))) ?_
        -- region 3: object.go:88
        refine W.reg ?_
        refine WL.q (Y.move (.pl rfl)) rfl ?_
        obtain ⟨hk12, hF5⟩ := ckh hF5
        refine WL.q (Y.add (.pl rfl) (.pl rfl) (ok64_lt (hk12))) rfl ?_
        refine WL.q (Y.assign (.pl rfl)) rfl ?_
        refine WL.nil ?_
        obtain rfl := Option.some.inj hF5
        exact W.again1 hK6 (i8 + 1) k5 hN5 (Nat.lt_succ_self _) (.cons rfl (.nil)) (.cons (i := 1) rfl (.cons (i := 2) rfl (.nil))) (fun wz hw => hw.pick [0] rfl)
    · replace hF5 := cneg hC9 hF5
      refine W.exit ?_
      obtain rfl := Option.some.inj hF5
      exact W.joinAt0 hK3  (einr hN5) (.nil) (.cons (i := 1) rfl (.cons (i := 2) rfl (.nil))) (fun wz hw => hw.pick [0] rfl)
  · -- behind
    rintro  rfl
    -- region 6: object.go:93
    refine W.seqR fun Q15 hQ15 => ?_
    refine WL.q (Y.fieldAddrZ (ft := 248) Try.underlying252 rfl siz248 cel252 (.pl rfl) (i' := 0) rfl) rfl ?_
    refine WL.q (Y.load0 Try.underlying248 siz248 (.pl rfl)) rfl ?_
    refine WL.q (Y.move (.pl rfl)) rfl ?_
    obtain ⟨r13, hr13, hF⟩ := bnd hF
    refine WL.step (WO.callP isGo192 (.cons (.pl rfl) (.cons (.pl rfl) (.nil))) rfl (fun wz hw => object_many_valid_ok (hr13) wz (hs5.mono hw)) ?_)
    refine WL.q (Y.assign (.pl rfl)) rfl ?_
    refine WL.next hQ15 (.cons (i := 4) rfl (.nil)) ?_
    obtain rfl := Option.some.inj hF
    refine W.retV (fn := Try.f198) (vs := [.bool r13]) Try.results198 ⟨.tmp rfl, trivial⟩ (fun _ _ h => h) (fun wz hw => ?_)
    exact hR _ _ ⟨rfl, (hw.pick [] rfl)⟩

def object_Check (N : Nat) (typ1 : Int) (s2 : (List Int)) : Option Int :=
  bd (object_of N typ1) fun (r7 : Int) =>
  cond (decide (r7 = 0))
    (some 1)
    (cond (decide (50 < ((s2).length : Int)))
      (some 2)
      (bd (α := Bool) (cond (decide (r7 = 247))
          (bd (object_single_valid N (ObjectSingle.mk ) s2) fun (r9 : Bool) =>
          some (!r9))
          (cond (decide (r7 = 250))
            (bd (object_many_valid N (ObjectSingle.mk ) s2) fun (r10 : Bool) =>
            some (!r10))
            (cond (decide (r7 = 251))
              (bd (object_many_valid N (ObjectSingle.mk ) s2) fun (r11 : Bool) =>
              some (!r11))
              (cond (decide (r7 = 252))
                (bd (object_set_valid N (ObjectSet.mk (ObjectSingle.mk )) s2) fun (r12 : Bool) =>
                some (!r12))
                (cond (decide (r7 = 253))
                  (bd (object_single_valid N (ObjectSingle.mk ) s2) fun (r13 : Bool) =>
                  some (!r13))
                  (none)))))) <|
      fun (v8 : Bool) => 
        cond v8
          (some 3)
          (some 0)))

theorem object_Check_ok {N : Nat} {typ1 : Int} {s2 : (List Int)} {res : Int} (hF : object_Check N typ1 s2 = some res) (w : World) {v6 : Value} (hs5 : SlIn (eI .i64) 1 w v6 s2) :
    Pure Try.prog 139 [.int .i64 typ1, v6] w (.int .i64 res) := by
  obtain ⟨A3, c4, rfl, hcc4, hs5⟩ := hs5.form
  refine W.enter (n := 20) Try.func139 rfl rfl Sub.refl (by simp) (St.start w) fun R hR => ?_
  unfold object_Check at hF
  -- region 0: object.go:138
  refine W.seqR fun Q1 hQ1 => ?_
  refine WL.q (Y.assign (.pl rfl)) rfl ?_
  refine WL.next hQ1 (.cons (i := 0) rfl (.cons (i := 1) rfl (.nil))) ?_
  -- region 1: object.go:139
  refine W.seqR fun Q2 hQ2 => ?_
  refine WL.q (Y.move (.pl rfl)) rfl ?_
  obtain ⟨r7, hr7, hF⟩ := bnd hF
  refine WL.step (WO.callP isGo109 (.cons (.pl rfl) (.nil)) rfl (fun wz hw => object_of_ok (hr7) wz ) ?_)
  refine WL.q (Y.assign (.pl rfl)) rfl ?_
  refine WL.next hQ2 (.cons (i := 1) rfl (.cons (i := 5) rfl (.nil))) ?_
  refine W.seq fun K3 hK3 => ?_
  refine W.block ?_
  -- region 2: object.go:141
  refine W.seqR fun Q4 hQ4 => ?_
  refine WL.q (Y.move (.pl rfl)) rfl ?_
  refine WL.q (Y.eqNilI Try.underlying208 (.pl rfl)) rfl ?_
  refine WL.q (Y.assign (.pl rfl)) rfl ?_
  refine WL.next hQ4 (.cons (i := 1) rfl (.cons (i := 5) rfl (.cons (i := 8) rfl (.nil)))) ?_
  refine W.cond (.pl rfl) (fun hC5 => ?_) (fun hC5 => ?_)
  · replace hF := cpos hC5 hF
    -- region 3: object.go:142
    refine W.seqR fun Q6 hQ6 => ?_
    refine WL.q (Y.assign (.pl rfl)) rfl ?_
    refine WL.next hQ6 (.cons (i := 4) rfl (.nil)) ?_
    obtain rfl := Option.some.inj hF
    refine W.retV (fn := Try.f139) (vs := [.int .i64 1]) Try.results139 ⟨.tmp rfl, trivial⟩ (fun _ _ h => h) (fun wz hw => ?_)
    exact hR _ _ ⟨rfl, (hw.pick [] rfl)⟩
  · replace hF := cneg hC5 hF
    -- region 4: object.go:143
    refine W.seqR fun Q7 hQ7 => ?_
    refine WL.q (Y.move (.pl rfl)) rfl ?_
    refine WL.q (Y.len Try.underlying47 (.pl rfl)) rfl ?_
    refine WL.q (Y.gtr (.pl rfl) (.pl rfl)) rfl ?_
    refine WL.q (Y.assign (.pl rfl)) rfl ?_
    refine WL.next hQ7 (.cons (i := 1) rfl (.cons (i := 5) rfl (.cons (i := 11) rfl (.nil)))) ?_
    refine W.cond (.pl rfl) (fun hC8 => ?_) (fun hC8 => ?_)
    · replace hF := cpos hC8 hF
      -- region 5: object.go:144
      refine W.seqR fun Q9 hQ9 => ?_
      refine WL.q (Y.assign (.pl rfl)) rfl ?_
      refine WL.next hQ9 (.cons (i := 4) rfl (.nil)) ?_
      obtain rfl := Option.some.inj hF
      refine W.retV (fn := Try.f139) (vs := [.int .i64 2]) Try.results139 ⟨.tmp rfl, trivial⟩ (fun _ _ h => h) (fun wz hw => ?_)
      exact hR _ _ ⟨rfl, (hw.pick [] rfl)⟩
    · replace hF := cneg hC8 hF
      obtain ⟨o10, hF10, hF⟩ := bnd hF
      refine W.join1 (Em := fun (v8 : Bool) => [(15, .bool v8)]) (M := fun v8 => []) (I := fun v8 => v8 = o10) (.nil) (fun K11 hK11 => ?_) ?_
      · -- up to
        -- region 6: object.go:145
        refine W.reg ?_
        refine WL.q (Y.move (.pl rfl)) rfl ?_
        refine WL.q (Y.move (.pl rfl)) rfl ?_
        refine bsplit (decide (r7 = 247)) (fun hT12 => ?_) (fun hT12 => ?_)
        · replace hF10 := cpos hT12 hF10
          obtain ⟨r9, hr9, hF10⟩ := bnd hF10
          refine WL.step (WO.callI (γ := Unit) (u := .agg #[]) (v := .agg #[]) (fun g => .bool r9) (fun g => []) (fun g => True) meth247_valid isGo189 (Evs.ifE (k := 247) (of_decide_eq_true hT12) rfl (.pl rfl)) (.cons (.pl rfl) (.nil)) rfl (fun wz hw => (object_single_valid_ok (hr9) wz (hs5.mono hw)).calls hw) ?_)
          rintro _ -
          refine WL.q (Y.not (.pl rfl)) rfl ?_
          refine WL.q (Y.assign (.pl rfl)) rfl ?_
          refine WL.nil ?_
          exact W.joinAt1 hK11 (!r9) (Option.some.inj hF10) (.cons rfl (.nil)) (.nil) (fun wz hw => hw.pick [] rfl)
        · replace hF10 := cneg hT12 hF10
          refine bsplit (decide (r7 = 250)) (fun hT13 => ?_) (fun hT13 => ?_)
          · replace hF10 := cpos hT13 hF10
            obtain ⟨r10, hr10, hF10⟩ := bnd hF10
            refine WL.step (WO.callI (γ := Unit) (u := .agg #[]) (v := .agg #[]) (fun g => .bool r10) (fun g => []) (fun g => True) meth250_valid isGo192 (Evs.ifE (k := 250) (of_decide_eq_true hT13) rfl (.pl rfl)) (.cons (.pl rfl) (.nil)) rfl (fun wz hw => (object_many_valid_ok (hr10) wz (hs5.mono hw)).calls hw) ?_)
            rintro _ -
            refine WL.q (Y.not (.pl rfl)) rfl ?_
            refine WL.q (Y.assign (.pl rfl)) rfl ?_
            refine WL.nil ?_
            exact W.joinAt1 hK11 (!r10) (Option.some.inj hF10) (.cons rfl (.nil)) (.nil) (fun wz hw => hw.pick [] rfl)
          · replace hF10 := cneg hT13 hF10
            refine bsplit (decide (r7 = 251)) (fun hT14 => ?_) (fun hT14 => ?_)
            · replace hF10 := cpos hT14 hF10
              obtain ⟨r11, hr11, hF10⟩ := bnd hF10
              refine WL.step (WO.callI (γ := Unit) (u := .agg #[]) (v := .agg #[]) (fun g => .bool r11) (fun g => []) (fun g => True) meth251_valid isGo192 (Evs.ifE (k := 251) (of_decide_eq_true hT14) rfl (.pl rfl)) (.cons (.pl rfl) (.nil)) rfl (fun wz hw => (object_many_valid_ok (hr11) wz (hs5.mono hw)).calls hw) ?_)
              rintro _ -
              refine WL.q (Y.not (.pl rfl)) rfl ?_
              refine WL.q (Y.assign (.pl rfl)) rfl ?_
              refine WL.nil ?_
              exact W.joinAt1 hK11 (!r11) (Option.some.inj hF10) (.cons rfl (.nil)) (.nil) (fun wz hw => hw.pick [] rfl)
            · replace hF10 := cneg hT14 hF10
              refine bsplit (decide (r7 = 252)) (fun hT15 => ?_) (fun hT15 => ?_)
              · replace hF10 := cpos hT15 hF10
                obtain ⟨r12, hr12, hF10⟩ := bnd hF10
                refine WL.step (WO.callI (γ := Unit) (u := .agg #[]) (v := .agg #[]) (fun g => .bool r12) (fun g => []) (fun g => True) meth252_valid isGo198 (Evs.ifE (k := 252) (of_decide_eq_true hT15) rfl (.pl rfl)) (.cons (.pl rfl) (.nil)) rfl (fun wz hw => (object_set_valid_ok (hr12) wz (hs5.mono hw)).calls hw) ?_)
                rintro _ -
                refine WL.q (Y.not (.pl rfl)) rfl ?_
                refine WL.q (Y.assign (.pl rfl)) rfl ?_
                refine WL.nil ?_
                exact W.joinAt1 hK11 (!r12) (Option.some.inj hF10) (.cons rfl (.nil)) (.nil) (fun wz hw => hw.pick [] rfl)
              · replace hF10 := cneg hT15 hF10
                refine bsplit (decide (r7 = 253)) (fun hT16 => ?_) (fun hT16 => ?_)
                · replace hF10 := cpos hT16 hF10
                  obtain ⟨r13, hr13, hF10⟩ := bnd hF10
                  refine WL.step (WO.callI (γ := Unit) (u := .agg #[]) (v := .agg #[]) (fun g => .bool r13) (fun g => []) (fun g => True) meth253_valid isGo189 (Evs.ifE (k := 253) (of_decide_eq_true hT16) rfl (.pl rfl)) (.cons (.pl rfl) (.nil)) rfl (fun wz hw => (object_single_valid_ok (hr13) wz (hs5.mono hw)).calls hw) ?_)
                  rintro _ -
                  refine WL.q (Y.not (.pl rfl)) rfl ?_
                  refine WL.q (Y.assign (.pl rfl)) rfl ?_
                  refine WL.nil ?_
                  exact W.joinAt1 hK11 (!r13) (Option.some.inj hF10) (.cons rfl (.nil)) (.nil) (fun wz hw => hw.pick [] rfl)
                · replace hF10 := cneg hT16 hF10
                  exact nomatch hF10
      · -- behind
        rintro v8 rfl
        refine W.cond (.pl rfl) (fun hC17 => ?_) (fun hC17 => ?_)
        · replace hF := cpos hC17 hF
          -- region 7: object.go:146
          refine W.seqR fun Q18 hQ18 => ?_
          refine WL.q (Y.assign (.pl rfl)) rfl ?_
          refine WL.next hQ18 (.cons (i := 4) rfl (.nil)) ?_
          obtain rfl := Option.some.inj hF
          refine W.retV (fn := Try.f139) (vs := [.int .i64 3]) Try.results139 ⟨.tmp rfl, trivial⟩ (fun _ _ h => h) (fun wz hw => ?_)
          exact hR _ _ ⟨rfl, (hw.pick [] rfl)⟩
        · replace hF := cneg hC17 hF
          refine W.skip ?_
          refine W.go hK3 (.nil) ?_
          -- region 8: object.go:148
          refine W.seqR fun Q19 hQ19 => ?_
          refine WL.q (Y.assign (.pl rfl)) rfl ?_
          refine WL.next hQ19 (.cons (i := 4) rfl (.nil)) ?_
          obtain rfl := Option.some.inj hF
          refine W.retV (fn := Try.f139) (vs := [.int .i64 0]) Try.results139 ⟨.tmp rfl, trivial⟩ (fun _ _ h => h) (fun wz hw => ?_)
          exact hR _ _ ⟨rfl, (hw.pick [] rfl)⟩

/-- slices.Clone -/
theorem slices_Clone_int_int_ok {xs : List Int} (hb : limB 8 xs.length = true) (w : World) {v : Value} (h : SlIn (eI .i64) 1 w v xs) :
    Made Try.prog 35 [v] w (fun g : Option Addr × Nat => .slice g.1 xs.length g.2) (fun g => [cR (eI .i64) 1 g.1 g.2 3 xs]) (fun _ => True) := by
  obtain ⟨A1, c1, rfl, hc1, hs⟩ := h.form
  refine W.enter (n := 8) Try.func35 rfl rfl Sub.refl (by simp) (St.start w) fun R hR => ?_
  refine W.seqR fun Q1 hQ1 => ?_
  refine WL.q (Y.assign (.pl rfl)) rfl ?_
  refine WL.next hQ1 (.cons (i := 0) rfl (.nil)) ?_
  refine W.seq fun K2 hK2 => ?_
  refine W.seqR fun Q3 hQ3 => ?_
  refine WL.q (Y.move (.pl rfl)) rfl ?_
  refine WL.q (Y.eqNil Try.underlying47 (.pl rfl)) rfl ?_
  refine WL.next hQ3 (.cons (i := 0) rfl (.cons (i := 4) rfl (.nil))) ?_
  refine W.cond (.pl rfl) (fun hC => ?_) (fun hC => ?_)
  · refine W.seqR fun Q4 hQ4 => ?_
    refine WL.q (Y.assign (.pl rfl)) rfl ?_
    refine WL.next hQ4 (.cons (i := 2) rfl (.nil)) ?_
    have hx : xs = [] := by
      cases xs with
      | nil => rfl
      | cons a r =>
        have := (hs.okA' (idx := 0) ⟨Int.le_refl _, by simp⟩).1
        rw [Option.isNone_iff_eq_none] at hC
        rw [hC] at this; cases this
    subst hx
    refine W.retV (fn := Try.f35) (vs := [.slice none 0 0]) Try.results35 ⟨.tmp rfl, trivial⟩ (fun _ _ h => h) (fun w hw => ?_)
    exact hR _ _ ⟨(none, 0), trivial, rfl, St.nilR hw (eI .i64) 1 3⟩
  · refine W.skip ?_
    refine W.go hK2 (.cons (i := 0) rfl (.nil)) ?_
    obtain ⟨a1, rfl⟩ : ∃ a, A1 = some a := by cases A1 with
      | none => cases hC
      | some a => exact ⟨a, rfl⟩
    refine W.seqR fun Q5 hQ5 => ?_
    refine WL.step (WO.bsliceC (enc := (eI .i64)) (ys := []) Try.underlying47 bz3 (.nil) rfl (fun _ => rfl) rfl rfl (by decide) (by decide) rfl fun b => ?_)
    refine WL.q (Y.move (.pl rfl)) rfl ?_
    refine WL.step (WO.appendS (enc := (eI .i64)) (ys := xs) (xs := []) Try.underlying47 ap3 (fun _ => rfl) oneI (.pl rfl) rfl (.pl rfl) (i := 0) rfl (fun w hw => hs.mono hw) (by simpa using hb) rfl fun A c => ?_)
    refine WL.q (Y.assign (.pl rfl)) rfl ?_
    refine WL.next hQ5 (.cons (i := 2) rfl (.nil)) ?_
    refine W.retV (fn := Try.f35) (vs := [.slice A xs.length c]) Try.results35 ⟨.tmp rfl, trivial⟩ (fun _ _ h => h) (fun w hw => ?_)
    exact hR _ _ ⟨(A, c), trivial, rfl, hw⟩

def object_register_step (N : Nat) (a1 : ObjectRegister) (s4 : (List Int)) (kind5 : Int) (arg6 : Int) : Option ((List Int) × Int) :=
  cond (decide (kind5 = 1))
    (some (([arg6] : List Int), 0))
    (bd (ix s4 0) fun (x9 : Int) =>
    some (s4, x9))

theorem object_register_step_ok {N : Nat} {a1 : ObjectRegister} {s4 : (List Int)} {kind5 : Int} {arg6 : Int} {A2 : Option Addr} {c3 : Nat} {res : ((List Int) × Int)} (hF : object_register_step N a1 s4 kind5 arg6 = some res) {w0 w : World} {T : List Chunk} (hw : St w0.heap.size w0 ([cR (eI .i64) 1 A2 c3 3 s4] ++ T) w) :
    Calls Try.prog 190 (List.toArray [.agg (encObjectRegister a1).toArray, .slice A2 (s4).length c3, .int .i64 kind5, .int .i64 arg6]) w (fun e w' => ∃ g : (Option Addr × Nat), (True) ∧ e = .returned (.tuple #[.slice g.1 (res.1).length g.2, .int .i64 res.2, .int .i64 0]) ∧ St w0.heap.size w0 ([cR (eI .i64) 1 g.1 g.2 3 res.1] ++ T) w') := by
  refine W.enter (n := 19) Try.func190 rfl rfl Sub.refl (by simp) hw fun R hR => ?_
  unfold object_register_step at hF
  -- region 0: object.go:27
  refine W.seqR fun Q1 hQ1 => ?_
  refine WL.step (WO.boxA (.pl rfl) rfl fun b7 => ?_)
  refine WL.q (Y.assign (.pl rfl)) rfl ?_
  refine WL.q (Y.assign (.pl rfl)) rfl ?_
  refine WL.q (Y.assign (.pl rfl)) rfl ?_
  refine WL.next hQ1 (.cons (i := 1) rfl (.cons (i := 2) rfl (.cons (i := 3) rfl (.nil)))) ?_
  refine W.seq fun K2 hK2 => ?_
  -- region 1: object.go:28
  refine W.seqR fun Q3 hQ3 => ?_
  refine WL.q (Y.move (.pl rfl)) rfl ?_
  refine WL.q (Y.eql (.pl rfl) (.pl rfl)) rfl ?_
  refine WL.next hQ3 (.cons (i := 1) rfl (.cons (i := 3) rfl (.cons (i := 12) rfl (.nil)))) ?_
  refine W.cond (.pl rfl) (fun hC4 => ?_) (fun hC4 => ?_)
  · replace hF := cpos hC4 hF
    -- region 2: object.go:29
    refine W.seqR fun Q5 hQ5 => ?_
    refine WL.q (Y.move (.pl rfl)) rfl ?_
    refine WL.step (WO.bsliceC (enc := (eI .i64)) (ys := ([arg6] : List Int)) Try.underlying47 bz3 (.cons (.pl rfl) (.nil)) rfl (fun _ => rfl) rfl rfl (by decide) (by decide) rfl fun b8 => ?_)
    refine WL.q (Y.assign (.pl rfl)) rfl ?_
    refine WL.q (Y.assign (.pl rfl)) rfl ?_
    refine WL.q (Y.assign (.pl rfl)) rfl ?_
    refine WL.next hQ5 (.cons (i := 8) rfl (.cons (i := 9) rfl (.cons (i := 10) rfl (.nil)))) ?_
    obtain rfl := Option.some.inj hF
    refine W.retV (fn := Try.f190) (vs := [.slice (some ⟨b8, 0, none⟩) (([arg6] : List Int)).length (([arg6] : List Int)).length, .int .i64 0, .int .i64 0]) Try.results190 ⟨.tmp rfl, ⟨.tmp rfl, ⟨.tmp rfl, trivial⟩⟩⟩ (fun _ _ h => h) (fun wz hw => ?_)
    exact hR _ _ ⟨((some ⟨b8, 0, none⟩), (([arg6] : List Int)).length), trivial, rfl, (hw.pickK 3 [0] rfl)⟩
  · replace hF := cneg hC4 hF
    refine W.skip ?_
    refine W.go hK2 (.cons (i := 1) rfl (.nil)) ?_
    -- region 3: object.go:31
    refine W.seqD (by kernel_rfl) (by kernel_rfl) fun R6 hR6 => ?_
    refine WD.q (Y.move (.pl rfl)) rfl ?_
    refine WD.q (Y.move (.pl rfl)) rfl ?_
    obtain ⟨x9, hx9, hF⟩ := bnd hF
    refine WD.q (Y.rowEl Try.underlying47 cells3 (i := 1) rfl (.pl rfl) rfl (.pl rfl) (ix_lt (hx9))) rfl ?_
    refine WD.q (Y.loadR (enc := (eI .i64)) (v := .int .i64 x9) (a := x9) (idx := 0) (j := 0) Try.underlying3 rfl (fun _ => rfl) (i := 1) rfl (.pl rfl) (ix_get (hx9)) rfl rfl) rfl ?_
    refine WD.q (Y.assign (.pl rfl)) rfl ?_
    refine WD.q (Y.assign (.pl rfl)) rfl ?_
    refine WD.q (Y.assign (.pl rfl)) rfl ?_
    refine WD.next hR6 (.cons (i := 8) rfl (.cons (i := 9) rfl (.cons (i := 10) rfl (.nil)))) ?_
    obtain rfl := Option.some.inj hF
    refine W.retV (fn := Try.f190) (vs := [.slice A2 (s4).length c3, .int .i64 x9, .int .i64 0]) Try.results190 ⟨.tmp rfl, ⟨.tmp rfl, ⟨.tmp rfl, trivial⟩⟩⟩ (fun _ _ h => h) (fun wz hw => ?_)
    exact hR _ _ ⟨(A2, c3), trivial, rfl, (hw.pickK 2 [1] rfl)⟩

def object_many_put (N : Nat) (a1 : ObjectSingle) (s4 : (List Int)) (arg5 : Int) : Option ((List Int) × Int) :=
  cond (decide (((s4).length : Int) = 50))
    (some ([], 2))
    (ck (limB 8 ((s4).length + (([arg5] : List Int)).length)) <|
    some ((s4 ++ ([arg5] : List Int)), 0))

theorem object_many_put_ok {N : Nat} {a1 : ObjectSingle} {s4 : (List Int)} {arg5 : Int} {A2 : Option Addr} {c3 : Nat} {res : ((List Int) × Int)} (hF : object_many_put N a1 s4 arg5 = some res) {w0 w : World} {T : List Chunk} (hw : St w0.heap.size w0 ([cR (eI .i64) 1 A2 c3 3 s4] ++ T) w) :
    Calls Try.prog 195 (List.toArray [.agg (encObjectSingle a1).toArray, .slice A2 (s4).length c3, .int .i64 arg5]) w (fun e w' => ∃ g : (Option Addr × Nat), (True) ∧ e = .returned (.tuple #[.slice g.1 (res.1).length g.2, .int .i64 0, .int .i64 res.2]) ∧ St w0.heap.size w0 ([cR (eI .i64) 1 g.1 g.2 3 res.1] ++ T) w') := by
  refine W.enter (n := 16) Try.func195 rfl rfl Sub.refl (by simp) hw fun R hR => ?_
  unfold object_many_put at hF
  -- region 0: object.go:53
  refine W.seqR fun Q1 hQ1 => ?_
  refine WL.step (WO.boxA (.pl rfl) rfl fun b6 => ?_)
  refine WL.q (Y.assign (.pl rfl)) rfl ?_
  refine WL.q (Y.assign (.pl rfl)) rfl ?_
  refine WL.q (Y.assign (.pl rfl)) rfl ?_
  refine WL.next hQ1 (.cons (i := 1) rfl (.cons (i := 2) rfl (.nil))) ?_
  refine W.seq fun K2 hK2 => ?_
  -- region 1: object.go:54
  refine W.seqR fun Q3 hQ3 => ?_
  refine WL.q (Y.move (.pl rfl)) rfl ?_
  refine WL.q (Y.len Try.underlying47 (.pl rfl)) rfl ?_
  refine WL.q (Y.eql (.pl rfl) (.pl rfl)) rfl ?_
  refine WL.next hQ3 (.cons (i := 1) rfl (.cons (i := 2) rfl (.cons (i := 11) rfl (.nil)))) ?_
  refine W.cond (.pl rfl) (fun hC4 => ?_) (fun hC4 => ?_)
  · replace hF := cpos hC4 hF
    -- region 2: object.go:55
    refine W.seqR fun Q5 hQ5 => ?_
    refine WL.q (Y.assign (.pl rfl)) rfl ?_
    refine WL.q (Y.assign (.pl rfl)) rfl ?_
    refine WL.q (Y.assign (.pl rfl)) rfl ?_
    refine WL.next hQ5 (.cons (i := 6) rfl (.cons (i := 7) rfl (.cons (i := 8) rfl (.nil)))) ?_
    obtain rfl := Option.some.inj hF
    refine W.retV (fn := Try.f195) (vs := [.slice none 0 0, .int .i64 0, .int .i64 2]) Try.results195 ⟨.tmp rfl, ⟨.tmp rfl, ⟨.tmp rfl, trivial⟩⟩⟩ (fun _ _ h => h) (fun wz hw => ?_)
    exact hR _ _ ⟨(none, 0), trivial, rfl, ((St.nilR (hw.pickK 2 [] rfl) (eI .i64) 1 3).pickK 1 [0] rfl)⟩
  · replace hF := cneg hC4 hF
    refine W.skip ?_
    refine W.go hK2 (.cons (i := 1) rfl (.cons (i := 2) rfl (.nil))) ?_
    -- region 3: object.go:57
    refine W.seqR fun Q6 hQ6 => ?_
    refine WL.q (Y.move (.pl rfl)) rfl ?_
    refine WL.q (Y.move (.pl rfl)) rfl ?_
    refine WL.step (WO.bsliceC (enc := (eI .i64)) (ys := ([arg5] : List Int)) Try.underlying47 bz3 (.cons (.pl rfl) (.nil)) rfl (fun _ => rfl) rfl rfl (by decide) (by decide) rfl fun b7 => ?_)
    obtain ⟨hk10, hF⟩ := ckh hF
    refine WL.step (WO.appendC (enc := (eI .i64)) Try.underlying47 ap3 (fun _ => rfl) oneI (.pl rfl) rfl (.pl rfl) (i := 2) rfl (m2 := 0) rfl (hk10) rfl fun A8 c9 => ?_)
    refine WL.q (Y.assign (.pl rfl)) rfl ?_
    refine WL.q (Y.assign (.pl rfl)) rfl ?_
    refine WL.q (Y.assign (.pl rfl)) rfl ?_
    refine WL.next hQ6 (.cons (i := 6) rfl (.cons (i := 7) rfl (.cons (i := 8) rfl (.nil)))) ?_
    obtain rfl := Option.some.inj hF
    refine W.retV (fn := Try.f195) (vs := [.slice A8 ((s4 ++ ([arg5] : List Int))).length c9, .int .i64 0, .int .i64 0]) Try.results195 ⟨.tmp rfl, ⟨.tmp rfl, ⟨.tmp rfl, trivial⟩⟩⟩ (fun _ _ h => h) (fun wz hw => ?_)
    exact hR _ _ ⟨(A8, c9), trivial, rfl, (hw.pickK 3 [2] rfl)⟩

def object_queue_step (N : Nat) (q1 : ObjectSet) (s4 : (List Int)) (kind5 : Int) (arg6 : Int) : Option ((List Int) × Int × Int) :=
  cond (decide (kind5 = 3))
    (bd (object_many_put N q1.many s4 arg6) fun (r8 : ((List Int) × Int)) =>
    some (r8.1, 0, r8.2))
    (cond (decide (((s4).length : Int) = 0))
      (some (s4, (-1), 0))
      (ck (slB (s4).length 1 ((s4).length : Int)) <|
      bd (ix s4 0) fun (x12 : Int) =>
      some ((s4.drop (1 : Int).toNat), x12, 0)))

theorem object_queue_step_ok {N : Nat} {q1 : ObjectSet} {s4 : (List Int)} {kind5 : Int} {arg6 : Int} {A2 : Option Addr} {c3 : Nat} {res : ((List Int) × Int × Int)} (hF : object_queue_step N q1 s4 kind5 arg6 = some res) {w0 w : World} {T : List Chunk} (hw : St w0.heap.size w0 ([cR (eI .i64) 1 A2 c3 3 s4] ++ T) w) :
    Calls Try.prog 194 (List.toArray [.agg (encObjectSet q1).toArray, .slice A2 (s4).length c3, .int .i64 kind5, .int .i64 arg6]) w (fun e w' => ∃ g : (Option Nat × Option Addr × Nat), (True) ∧ e = .returned (.tuple #[.slice g.2.1 (res.1).length g.2.2, .int .i64 res.2.1, .int .i64 res.2.2]) ∧ St w0.heap.size w0 ([cV g.1 (eI .i64) 1 g.2.1 g.2.2 res.1] ++ T) w') := by
  refine W.enter (n := 32) Try.func194 rfl rfl Sub.refl (by simp) hw fun R hR => ?_
  unfold object_queue_step at hF
  -- region 0: object.go:62
  refine W.seqR fun Q1 hQ1 => ?_
  refine WL.step (WO.boxA (.pl rfl) rfl fun b7 => ?_)
  refine WL.q (Y.assign (.pl rfl)) rfl ?_
  refine WL.q (Y.assign (.pl rfl)) rfl ?_
  refine WL.q (Y.assign (.pl rfl)) rfl ?_
  refine WL.next hQ1 (.cons (i := 1) rfl (.cons (i := 2) rfl (.cons (i := 3) rfl (.cons (i := 4) rfl (.nil))))) ?_
  refine W.seq fun K2 hK2 => ?_
  refine W.block ?_
  -- region 1: object.go:64
  refine W.seqR fun Q3 hQ3 => ?_
  refine WL.q (Y.move (.pl rfl)) rfl ?_
  refine WL.q (Y.eql (.pl rfl) (.pl rfl)) rfl ?_
  refine WL.q (Y.assign (.pl rfl)) rfl ?_
  refine WL.next hQ3 (.cons (i := 1) rfl (.cons (i := 3) rfl (.cons (i := 4) rfl (.cons (i := 11) rfl (.nil))))) ?_
  refine W.cond (.pl rfl) (fun hC4 => ?_) (fun hC4 => ?_)
  · replace hF := cpos hC4 hF
    -- region 2: object.go:65
    refine W.seqR fun Q5 hQ5 => ?_
    refine WL.q (Y.fieldAddrZ (ft := 248) Try.underlying250 rfl siz248 cel250 (.pl rfl) (i' := 0) rfl) rfl ?_
    refine WL.q (Y.load0 Try.underlying248 siz248 (.pl rfl)) rfl ?_
    refine WL.q (Y.move (.pl rfl)) rfl ?_
    refine WL.q (Y.move (.pl rfl)) rfl ?_
    obtain ⟨r8, hr8, hF⟩ := bnd hF
    refine WL.step (WO.call (γ := (Option Addr × Nat)) (fun g => .tuple #[.slice g.1 (r8.1).length g.2, .int .i64 0, .int .i64 r8.2]) (fun g => ([cR (eI .i64) 1 g.1 g.2 3 r8.1, cBx b7 250 (encObjectSet q1)] ++ T)) (fun g => True) isGo195 (.cons (.pl rfl) (.cons (.pl rfl) (.cons (.pl rfl) (.nil)))) rfl (fun wz hw => object_many_put_ok (T := ([cBx b7 250 (encObjectSet q1)] ++ T)) (hr8) (hw.pickK 2 [1, 0] rfl) ) ?_)
    rintro ⟨A9, c10⟩ -
    refine WL.q (Y.extract (.pl rfl) rfl) rfl ?_
    refine WL.q (Y.extract (.pl rfl) rfl) rfl ?_
    refine WL.q (Y.extract (.pl rfl) rfl) rfl ?_
    refine WL.q (Y.assign (.pl rfl)) rfl ?_
    refine WL.q (Y.assign (.pl rfl)) rfl ?_
    refine WL.q (Y.assign (.pl rfl)) rfl ?_
    refine WL.next hQ5 (.cons (i := 8) rfl (.cons (i := 9) rfl (.cons (i := 10) rfl (.nil)))) ?_
    obtain rfl := Option.some.inj hF
    refine W.retV (fn := Try.f194) (vs := [.slice A9 (r8.1).length c10, .int .i64 0, .int .i64 r8.2]) Try.results194 ⟨.tmp rfl, ⟨.tmp rfl, ⟨.tmp rfl, trivial⟩⟩⟩ (fun _ _ h => h) (fun wz hw => ?_)
    exact hR _ _ ⟨((blkA A9), A9, c10), trivial, rfl, ((St.toV (enc := (eI .i64)) (sz := 1) (A' := A9) (cap' := c10) (ys := r8.1) (fun _ => rfl) hw (i := 0) rfl (fun wz h => h)).pickK 2 [0] rfl)⟩
  · replace hF := cneg hC4 hF
    -- region 3: object.go:66
    refine W.seqR fun Q6 hQ6 => ?_
    refine WL.q (Y.move (.pl rfl)) rfl ?_
    refine WL.q (Y.len Try.underlying47 (.pl rfl)) rfl ?_
    refine WL.q (Y.eql (.pl rfl) (.pl rfl)) rfl ?_
    refine WL.q (Y.assign (.pl rfl)) rfl ?_
    refine WL.next hQ6 (.cons (i := 1) rfl (.cons (i := 22) rfl (.nil))) ?_
    refine W.cond (.pl rfl) (fun hC7 => ?_) (fun hC7 => ?_)
    · replace hF := cpos hC7 hF
      -- region 4: object.go:67
      refine W.seqR fun Q8 hQ8 => ?_
      refine WL.q (Y.move (.pl rfl)) rfl ?_
      refine WL.q (Y.assign (.pl rfl)) rfl ?_
      refine WL.q (Y.assign (.pl rfl)) rfl ?_
      refine WL.q (Y.assign (.pl rfl)) rfl ?_
      refine WL.next hQ8 (.cons (i := 8) rfl (.cons (i := 9) rfl (.cons (i := 10) rfl (.nil)))) ?_
      obtain rfl := Option.some.inj hF
      refine W.retV (fn := Try.f194) (vs := [.slice A2 (s4).length c3, .int .i64 (-1), .int .i64 0]) Try.results194 ⟨.tmp rfl, ⟨.tmp rfl, ⟨.tmp rfl, trivial⟩⟩⟩ (fun _ _ h => h) (fun wz hw => ?_)
      exact hR _ _ ⟨((blkA A2), A2, c3), trivial, rfl, ((St.toV (enc := (eI .i64)) (sz := 1) (A' := A2) (cap' := c3) (ys := s4) (fun _ => rfl) hw (i := 1) rfl (fun wz h => h)).pickK 2 [1] rfl)⟩
    · replace hF := cneg hC7 hF
      refine W.skip ?_
      refine W.go hK2 (.cons (i := 1) rfl (.nil)) ?_
      -- region 5: object.go:69
      refine W.seqD (by kernel_rfl) (by kernel_rfl) fun R9 hR9 => ?_
      refine WD.q (Y.move (.pl rfl)) rfl ?_
      obtain ⟨hk11, hF⟩ := ckh hF
      refine WD.q (Y.sliceR1 Try.underlying47 cells3 (i := 1) rfl (.pl rfl) rfl (.pl rfl) (hk11)) rfl ?_
      refine WD.q (Y.move (.pl rfl)) rfl ?_
      obtain ⟨x12, hx12, hF⟩ := bnd hF
      refine WD.q (Y.rowEl Try.underlying47 cells3 (i := 1) rfl (.pl rfl) rfl (.pl rfl) (ix_lt (hx12))) rfl ?_
      refine WD.q (Y.loadR (enc := (eI .i64)) (v := .int .i64 x12) (a := x12) (idx := 0) (j := 0) Try.underlying3 rfl (fun _ => rfl) (i := 1) rfl (.pl rfl) (ix_get (hx12)) rfl rfl) rfl ?_
      refine WD.q (Y.assign (.pl rfl)) rfl ?_
      refine WD.q (Y.assign (.pl rfl)) rfl ?_
      refine WD.q (Y.assign (.pl rfl)) rfl ?_
      refine WD.next hR9 (.cons (i := 8) rfl (.cons (i := 9) rfl (.cons (i := 10) rfl (.nil)))) ?_
      obtain rfl := Option.some.inj hF
      refine W.retV (fn := Try.f194) (vs := [.slice (subA A2 c3 (1 : Int).toNat 1) ((s4.drop (1 : Int).toNat)).length (c3 - (1 : Int).toNat), .int .i64 x12, .int .i64 0]) Try.results194 ⟨.tmp rfl, ⟨.tmp rfl, ⟨.tmp rfl, trivial⟩⟩⟩ (fun _ _ h => h) (fun wz hw => ?_)
      exact hR _ _ ⟨((blkA A2), (subA A2 c3 (1 : Int).toNat 1), (c3 - (1 : Int).toNat)), trivial, rfl, ((St.toV (enc := (eI .i64)) (sz := 1) (A' := (subA A2 c3 (1 : Int).toNat 1)) (cap' := (c3 - (1 : Int).toNat)) (ys := (s4.drop (1 : Int).toNat)) (fun _ => rfl) hw (i := 1) rfl (fun wz h => SlIn.sub1 h (slB_nat (hk11)).1)).pickK 2 [1] rfl)⟩

def object_stack_step (N : Nat) (k1 : ObjectSet) (s4 : (List Int)) (kind5 : Int) (arg6 : Int) : Option ((List Int) × Int × Int) :=
  cond (decide (kind5 = 5))
    (bd (object_many_put N k1.many s4 arg6) fun (r8 : ((List Int) × Int)) =>
    some (r8.1, 0, r8.2))
    (cond (decide (((s4).length : Int) = 0))
      (some (s4, (-1), 0))
      (ck (ok64 (((s4).length : Int) - 1)) <|
      ck (slB (s4).length 0 (((s4).length : Int) - 1)) <|
      ck (ok64 (((s4).length : Int) - 1)) <|
      bd (ix s4 (((s4).length : Int) - 1)) fun (x14 : Int) =>
      some ((s4.take (((s4).length : Int) - 1).toNat), x14, 0)))

theorem object_stack_step_ok {N : Nat} {k1 : ObjectSet} {s4 : (List Int)} {kind5 : Int} {arg6 : Int} {A2 : Option Addr} {c3 : Nat} {res : ((List Int) × Int × Int)} (hF : object_stack_step N k1 s4 kind5 arg6 = some res) {w0 w : World} {T : List Chunk} (hw : St w0.heap.size w0 ([cR (eI .i64) 1 A2 c3 3 s4] ++ T) w) :
    Calls Try.prog 196 (List.toArray [.agg (encObjectSet k1).toArray, .slice A2 (s4).length c3, .int .i64 kind5, .int .i64 arg6]) w (fun e w' => ∃ g : (Option Addr × Nat), (True) ∧ e = .returned (.tuple #[.slice g.1 (res.1).length g.2, .int .i64 res.2.1, .int .i64 res.2.2]) ∧ St w0.heap.size w0 ([cR (eI .i64) 1 g.1 g.2 3 res.1] ++ T) w') := by
  refine W.enter (n := 38) Try.func196 rfl rfl Sub.refl (by simp) hw fun R hR => ?_
  unfold object_stack_step at hF
  -- region 0: object.go:74
  refine W.seqR fun Q1 hQ1 => ?_
  refine WL.step (WO.boxA (.pl rfl) rfl fun b7 => ?_)
  refine WL.q (Y.assign (.pl rfl)) rfl ?_
  refine WL.q (Y.assign (.pl rfl)) rfl ?_
  refine WL.q (Y.assign (.pl rfl)) rfl ?_
  refine WL.next hQ1 (.cons (i := 1) rfl (.cons (i := 2) rfl (.cons (i := 3) rfl (.cons (i := 4) rfl (.nil))))) ?_
  -- region 1: object.go:75
  refine W.seqR fun Q2 hQ2 => ?_
  refine WL.q (Y.move (.pl rfl)) rfl ?_
  refine WL.q (Y.len Try.underlying47 (.pl rfl)) rfl ?_
  refine WL.q (Y.assign (.pl rfl)) rfl ?_
  refine WL.next hQ2 (.cons (i := 1) rfl (.cons (i := 2) rfl (.cons (i := 3) rfl (.cons (i := 4) rfl (.cons (i := 11) rfl (.nil)))))) ?_
  refine W.block ?_
  -- region 3: object.go:76
  refine W.seqR fun Q3 hQ3 => ?_
  refine WL.q (Y.move (.pl rfl)) rfl ?_
  refine WL.q (Y.eql (.pl rfl) (.pl rfl)) rfl ?_
  refine WL.q (Y.assign (.pl rfl)) rfl ?_
  refine WL.next hQ3 (.cons (i := 1) rfl (.cons (i := 3) rfl (.cons (i := 4) rfl (.cons (i := 11) rfl (.cons (i := 23) rfl (.nil)))))) ?_
  refine W.cond (.pl rfl) (fun hC4 => ?_) (fun hC4 => ?_)
  · replace hF := cpos hC4 hF
    -- region 4: object.go:77
    refine W.seqR fun Q5 hQ5 => ?_
    refine WL.q (Y.fieldAddrZ (ft := 248) Try.underlying251 rfl siz248 cel251 (.pl rfl) (i' := 0) rfl) rfl ?_
    refine WL.q (Y.load0 Try.underlying248 siz248 (.pl rfl)) rfl ?_
    refine WL.q (Y.move (.pl rfl)) rfl ?_
    refine WL.q (Y.move (.pl rfl)) rfl ?_
    obtain ⟨r8, hr8, hF⟩ := bnd hF
    refine WL.step (WO.call (γ := (Option Addr × Nat)) (fun g => .tuple #[.slice g.1 (r8.1).length g.2, .int .i64 0, .int .i64 r8.2]) (fun g => ([cR (eI .i64) 1 g.1 g.2 3 r8.1, cBx b7 251 (encObjectSet k1)] ++ T)) (fun g => True) isGo195 (.cons (.pl rfl) (.cons (.pl rfl) (.cons (.pl rfl) (.nil)))) rfl (fun wz hw => object_many_put_ok (T := ([cBx b7 251 (encObjectSet k1)] ++ T)) (hr8) (hw.pickK 2 [1, 0] rfl) ) ?_)
    rintro ⟨A9, c10⟩ -
    refine WL.q (Y.extract (.pl rfl) rfl) rfl ?_
    refine WL.q (Y.extract (.pl rfl) rfl) rfl ?_
    refine WL.q (Y.extract (.pl rfl) rfl) rfl ?_
    refine WL.q (Y.assign (.pl rfl)) rfl ?_
    refine WL.q (Y.assign (.pl rfl)) rfl ?_
    refine WL.q (Y.assign (.pl rfl)) rfl ?_
    refine WL.next hQ5 (.cons (i := 8) rfl (.cons (i := 9) rfl (.cons (i := 10) rfl (.nil)))) ?_
    obtain rfl := Option.some.inj hF
    refine W.retV (fn := Try.f196) (vs := [.slice A9 (r8.1).length c10, .int .i64 0, .int .i64 r8.2]) Try.results196 ⟨.tmp rfl, ⟨.tmp rfl, ⟨.tmp rfl, trivial⟩⟩⟩ (fun _ _ h => h) (fun wz hw => ?_)
    exact hR _ _ ⟨(A9, c10), trivial, rfl, (hw.pickK 2 [0] rfl)⟩
  · replace hF := cneg hC4 hF
    -- region 5: object.go:78
    refine W.seqR fun Q6 hQ6 => ?_
    refine WL.q (Y.move (.pl rfl)) rfl ?_
    refine WL.q (Y.eql (.pl rfl) (.pl rfl)) rfl ?_
    refine WL.q (Y.assign (.pl rfl)) rfl ?_
    refine WL.next hQ6 (.cons (i := 1) rfl (.cons (i := 11) rfl (.cons (i := 34) rfl (.nil)))) ?_
    refine W.cond (.pl rfl) (fun hC7 => ?_) (fun hC7 => ?_)
    · replace hF := cpos hC7 hF
      -- region 6: object.go:79
      refine W.seqR fun Q8 hQ8 => ?_
      refine WL.q (Y.move (.pl rfl)) rfl ?_
      refine WL.q (Y.assign (.pl rfl)) rfl ?_
      refine WL.q (Y.assign (.pl rfl)) rfl ?_
      refine WL.q (Y.assign (.pl rfl)) rfl ?_
      refine WL.next hQ8 (.cons (i := 8) rfl (.cons (i := 9) rfl (.cons (i := 10) rfl (.nil)))) ?_
      obtain rfl := Option.some.inj hF
      refine W.retV (fn := Try.f196) (vs := [.slice A2 (s4).length c3, .int .i64 (-1), .int .i64 0]) Try.results196 ⟨.tmp rfl, ⟨.tmp rfl, ⟨.tmp rfl, trivial⟩⟩⟩ (fun _ _ h => h) (fun wz hw => ?_)
      exact hR _ _ ⟨(A2, c3), trivial, rfl, (hw.pickK 2 [1] rfl)⟩
    · replace hF := cneg hC7 hF
      -- region 2: object.go:81
      refine W.seqD (by kernel_rfl) (by kernel_rfl) fun R9 hR9 => ?_
      refine WD.q (Y.move (.pl rfl)) rfl ?_
      refine WD.q (Y.move (.pl rfl)) rfl ?_
      obtain ⟨hk11, hF⟩ := ckh hF
      refine WD.q (Y.sub (.pl rfl) (.pl rfl) (ok64_lt (hk11))) rfl ?_
      obtain ⟨hk12, hF⟩ := ckh hF
      refine WD.q (Y.sliceR0 Try.underlying47 cells3 (i := 1) rfl (.pl rfl) rfl (.pl rfl) (hk12)) rfl ?_
      refine WD.q (Y.move (.pl rfl)) rfl ?_
      refine WD.q (Y.move (.pl rfl)) rfl ?_
      obtain ⟨hk13, hF⟩ := ckh hF
      refine WD.q (Y.sub (.pl rfl) (.pl rfl) (ok64_lt (hk13))) rfl ?_
      obtain ⟨x14, hx14, hF⟩ := bnd hF
      refine WD.q (Y.rowEl Try.underlying47 cells3 (i := 1) rfl (.pl rfl) rfl (.pl rfl) (ix_lt (hx14))) rfl ?_
      refine WD.q (Y.loadR (enc := (eI .i64)) (v := .int .i64 x14) (a := x14) (idx := (((s4).length : Int) - 1)) (j := 0) Try.underlying3 rfl (fun _ => rfl) (i := 1) rfl (.pl rfl) (ix_get (hx14)) rfl rfl) rfl ?_
      refine WD.q (Y.assign (.pl rfl)) rfl ?_
      refine WD.q (Y.assign (.pl rfl)) rfl ?_
      refine WD.q (Y.assign (.pl rfl)) rfl ?_
      refine WD.next hR9 (.cons (i := 8) rfl (.cons (i := 9) rfl (.cons (i := 10) rfl (.nil)))) ?_
      obtain rfl := Option.some.inj hF
      refine W.retV (fn := Try.f196) (vs := [.slice A2 ((s4.take (((s4).length : Int) - 1).toNat)).length c3, .int .i64 x14, .int .i64 0]) Try.results196 ⟨.tmp rfl, ⟨.tmp rfl, ⟨.tmp rfl, trivial⟩⟩⟩ (fun _ _ h => h) (fun wz hw => ?_)
      exact hR _ _ ⟨(A2, c3), trivial, rfl, ((St.trunc (enc := (eI .i64)) (sz := 1) (j := (((s4).length : Int) - 1).toNat) hw (fun _ => rfl) (i := 1) rfl).pickK 2 [1] rfl)⟩

def cmp_Less_int (N : Nat) (x1 : Int) (y2 : Int) : Option Unit :=
  bd (cmp_isNaN_int N x1) fun (r3 : Unit) =>
  bd ((cond ((!(decide (x1 = x1))) == true) (cmp_isNaN_int N y2) (some ()))) fun (r4 : Unit) =>
  some ()

theorem cmp_Less_int_ok {N : Nat} {x1 : Int} {y2 : Int} {res : Unit} (hF : cmp_Less_int N x1 y2 = some res) (w : World) :
    Pure Try.prog 202 [.int .i64 x1, .int .i64 y2] w (.bool (((!(decide (x1 = x1))) && (!(!(decide (y2 = y2))))) || (decide (x1 < y2)))) := by
  refine W.enter (n := 17) Try.func202 rfl rfl Sub.refl (by simp) (St.start w) fun R hR => ?_
  unfold cmp_Less_int at hF
  -- region 0: cmp.go:28
  refine W.seqR fun Q1 hQ1 => ?_
  refine WL.q (Y.assign (.pl rfl)) rfl ?_
  refine WL.next hQ1 (.cons (i := 0) rfl (.cons (i := 1) rfl (.nil))) ?_
  -- region 1: cmp.go:29
  refine W.seqR fun Q2 hQ2 => ?_
  refine WL.q (Y.move (.pl rfl)) rfl ?_
  obtain ⟨r3, hr3, hF⟩ := bnd hF
  refine WL.step (WO.callP isGo142 (.cons (.pl rfl) (.nil)) rfl (fun wz hw => cmp_isNaN_int_ok (hr3) wz ) ?_)
  refine WL.q (Y.move (.pl rfl)) rfl ?_
  refine WL.g (.pl rfl rfl rfl) (fun hg => Y.move (.pl rfl)) rfl ?_
  obtain ⟨r4, hr4, hF⟩ := bnd hF
  refine WL.gP (.pl rfl rfl rfl) isGo142 (fun hg => (.cons (.gd (hg) rfl) (.nil))) rfl (fun hg wz hw => cmp_isNaN_int_ok (gpos hg hr4) wz ) ?_
  refine WL.g (.pl rfl rfl rfl) (fun hg => Y.not (.gd (hg) rfl)) rfl ?_
  refine WL.q (Y.and (.pl rfl) (fun h2 => .gd (eqt h2) rfl)) rfl ?_
  refine WL.q (Y.move (.pl rfl)) rfl ?_
  refine WL.g (.pl rfl rfl rfl) (fun hg => Y.move (.pl rfl)) rfl ?_
  refine WL.g (.pl rfl rfl rfl) (fun hg => Y.move (.pl rfl)) rfl ?_
  refine WL.g (.pl rfl rfl rfl) (fun hg => Y.lss (.gd (hg) rfl) (.gd (hg) rfl)) rfl ?_
  refine WL.q (Y.or (.pl rfl) (fun h2 => .gd (eqf h2) rfl)) rfl ?_
  refine WL.q (Y.assign (.pl rfl)) rfl ?_
  refine WL.next hQ2 (.cons (i := 4) rfl (.nil)) ?_
  obtain rfl := Option.some.inj hF
  refine W.retV (fn := Try.f202) (vs := [.bool (((!(decide (x1 = x1))) && (!(!(decide (y2 = y2))))) || (decide (x1 < y2)))]) Try.results202 ⟨.tmp rfl, trivial⟩ (fun _ _ h => h) (fun wz hw => ?_)
  exact hR _ _ ⟨rfl, (hw.pick [] rfl)⟩

def slices_isNaN_int (N : Nat) (x1 : Int) : Option Unit :=
  some ()

theorem slices_isNaN_int_ok {N : Nat} {x1 : Int} {res : Unit} (hF : slices_isNaN_int N x1 = some res) (w : World) :
    Pure Try.prog 203 [.int .i64 x1] w (.bool (!(decide (x1 = x1)))) := by
  refine W.enter (n := 6) Try.func203 rfl rfl Sub.refl (by simp) (St.start w) fun R hR => ?_
  unfold slices_isNaN_int at hF
  -- region 0: sort.go:194
  refine W.seqR fun Q1 hQ1 => ?_
  refine WL.q (Y.assign (.pl rfl)) rfl ?_
  refine WL.next hQ1 (.cons (i := 0) rfl (.nil)) ?_
  -- region 1: sort.go:195
  refine W.seqR fun Q2 hQ2 => ?_
  refine WL.q (Y.move (.pl rfl)) rfl ?_
  refine WL.q (Y.move (.pl rfl)) rfl ?_
  refine WL.q (Y.neq (.pl rfl) (.pl rfl)) rfl ?_
  refine WL.q (Y.assign (.pl rfl)) rfl ?_
  refine WL.next hQ2 (.cons (i := 2) rfl (.nil)) ?_
  obtain rfl := Option.some.inj hF
  refine W.retV (fn := Try.f203) (vs := [.bool (!(decide (x1 = x1)))]) Try.results203 ⟨.tmp rfl, trivial⟩ (fun _ _ h => h) (fun wz hw => ?_)
  exact hR _ _ ⟨rfl, (hw.pick [] rfl)⟩

def slices_BinarySearch_int_int_L3 (N : Nat) (x1 : (List Int)) (target6 : Int) : (Int × Int) → Option ((Int × Int) ⊕ Int)
  | (i8, j9) =>
    cond (decide (i8 < j9))
      (ck (ok64 (i8 + j9)) <|
      bd (ix x1 (IntKind.i64.wrap (shrI .u64 (IntKind.u64.wrap (i8 + j9)) 1))) fun (x11 : Int) =>
      bd (cmp_Less_int N x11 target6) fun (r12 : Unit) =>
      cond (((!(decide (x11 = x11))) && (!(!(decide (target6 = target6))))) || (decide (x11 < target6)))
        (ck (ok64 ((IntKind.i64.wrap (shrI .u64 (IntKind.u64.wrap (i8 + j9)) 1)) + 1)) <|
        some (.inl (((IntKind.i64.wrap (shrI .u64 (IntKind.u64.wrap (i8 + j9)) 1)) + 1), j9)))
        (some (.inl (i8, (IntKind.i64.wrap (shrI .u64 (IntKind.u64.wrap (i8 + j9)) 1))))))
      (some (.inr i8))

def slices_BinarySearch_int_int (N : Nat) (x1 : (List Int)) (target6 : Int) : Option (Int × Bool) :=
  bd (α := Int) (iter (slices_BinarySearch_int_int_L3 N x1 target6) N (0, ((x1).length : Int))) <|
  fun (i7 : Int) => 
    bd ((cond ((decide (i7 < ((x1).length : Int))) == true) (ix x1 i7) (some 0))) fun (x14 : Int) =>
    bd ((cond (((decide (i7 < ((x1).length : Int))) == true) && ((decide (x14 = target6)) == false)) (ix x1 i7) (some 0))) fun (x15 : Int) =>
    bd ((cond (((decide (i7 < ((x1).length : Int))) == true) && ((decide (x14 = target6)) == false)) (slices_isNaN_int N x15) (some ()))) fun (r16 : Unit) =>
    bd ((cond ((((decide (i7 < ((x1).length : Int))) == true) && ((decide (x14 = target6)) == false)) && ((!(decide (x15 = x15))) == true)) (slices_isNaN_int N target6) (some ()))) fun (r17 : Unit) =>
    some (i7, ((decide (i7 < ((x1).length : Int))) && ((decide (x14 = target6)) || ((!(decide (x15 = x15))) && (!(decide (target6 = target6)))))))

theorem slices_BinarySearch_int_int_ok {N : Nat} {x1 : (List Int)} {target6 : Int} {res : (Int × Bool)} (hF : slices_BinarySearch_int_int N x1 target6 = some res) (w : World) {v5 : Value} (hs4 : SlIn (eI .i64) 1 w v5 x1) :
    Pure Try.prog 199 [v5, .int .i64 target6] w (.tuple #[.int .i64 res.1, .bool res.2]) := by
  obtain ⟨A2, c3, rfl, hcc3, hs4⟩ := hs4.form
  refine W.enter (n := 54) Try.func199 rfl rfl Sub.refl (by simp) (St.start w) fun R hR => ?_
  unfold slices_BinarySearch_int_int at hF
  -- region 0: sort.go:126
  refine W.seqR fun Q1 hQ1 => ?_
  refine WL.q (Y.assign (.pl rfl)) rfl ?_
  refine WL.q (Y.assign (.pl rfl)) rfl ?_
  refine WL.next hQ1 (.cons (i := 0) rfl (.cons (i := 1) rfl (.nil))) ?_
  -- region 1: sort.go:128
  refine W.seqR fun Q2 hQ2 => ?_
  refine WL.q (Y.move (.pl rfl)) rfl ?_
  refine WL.q (Y.len Try.underlying47 (.pl rfl)) rfl ?_
  refine WL.q (Y.assign (.pl rfl)) rfl ?_
  refine WL.next hQ2 (.cons (i := 0) rfl (.cons (i := 1) rfl (.cons (i := 6) rfl (.nil)))) ?_
  -- region 2: sort.go:131
  refine W.seqR fun Q3 hQ3 => ?_
  refine WL.q (Y.move (.pl rfl)) rfl ?_
  refine WL.q (Y.assign (.pl rfl)) rfl ?_
  refine WL.q (Y.assign (.pl rfl)) rfl ?_
  refine WL.next hQ3 (.cons (i := 0) rfl (.cons (i := 1) rfl (.cons (i := 6) rfl (.cons (i := 7) rfl (.cons (i := 8) rfl (.nil)))))) ?_
  obtain ⟨o4, hF4, hF⟩ := bnd hF
  refine W.join1 (Em := fun (i7 : Int) => [(7, .int .i64 i7)]) (M := fun i7 => []) (I := fun i7 => i7 = o4) (.cons (i := 0) rfl (.cons (i := 1) rfl (.cons (i := 6) rfl (.nil)))) (fun K5 hK5 => ?_) ?_
  · -- up to
    refine W.block ?_
    refine W.loop2 (Em := fun (i8 : Int) (j9 : Int) => [(7, .int .i64 i8), (8, .int .i64 j9)]) (M := fun i8 j9 => []) (I := fun i8 j9 k6 => iter (slices_BinarySearch_int_int_L3 N x1 target6) k6 (i8, j9) = some o4) 0 ((x1).length : Int) N (hF4) (.cons rfl (.cons rfl (.nil))) (.cons (i := 0) rfl (.cons (i := 1) rfl (.cons (i := 6) rfl (.nil)))) (fun wz hw => hw.pick [] rfl) (fun i8 j9 k6 hI K7 hK7 => ?_)
    obtain ⟨k6, t6, rfl, hF6, hN6⟩ := iter_step hI
    refine W.seq fun K8 hK8 => ?_
    -- region 3: sort.go:132
    refine W.seqR fun Q9 hQ9 => ?_
    refine WL.q (Y.move (.pl rfl)) rfl ?_
    refine WL.q (Y.move (.pl rfl)) rfl ?_
    refine WL.q (Y.lss (.pl rfl) (.pl rfl)) rfl ?_
    refine WL.next hQ9 (.cons (i := 0) rfl (.cons (i := 1) rfl (.cons (i := 6) rfl (.cons (i := 7) rfl (.cons (i := 8) rfl (.cons (i := 15) rfl (.nil))))))) ?_
    refine W.cond (.pl rfl) (fun hC10 => ?_) (fun hC10 => ?_)
    · replace hF6 := cpos hC10 hF6
      refine W.skip ?_
      refine W.go hK8 (.cons (i := 0) rfl (.cons (i := 1) rfl (.cons (i := 6) rfl (.cons (i := 7) rfl (.cons (i := 8) rfl (.nil)))))) ?_
      refine W.block ?_
      -- region 4: sort.go:133
      refine W.seqR fun Q11 hQ11 => ?_
      refine WL.q (Y.move (.pl rfl)) rfl ?_
      refine WL.q (Y.move (.pl rfl)) rfl ?_
      obtain ⟨hk10, hF6⟩ := ckh hF6
      refine WL.q (Y.add (.pl rfl) (.pl rfl) (ok64_lt (hk10))) rfl ?_
      refine WL.q (Y.conv Try.underlying3 Try.underlying179 (.pl rfl)) rfl ?_
      refine WL.q (Y.shr (.pl rfl) (.pl rfl) (by decide)) rfl ?_
      refine WL.q (Y.conv Try.underlying179 Try.underlying3 (.pl rfl)) rfl ?_
      refine WL.q (Y.assign (.pl rfl)) rfl ?_
      refine WL.next hQ11 (.cons (i := 0) rfl (.cons (i := 1) rfl (.cons (i := 6) rfl (.cons (i := 7) rfl (.cons (i := 8) rfl (.cons (i := 9) rfl (.nil))))))) ?_
      -- region 5: sort.go:135
      refine W.seqR fun Q12 hQ12 => ?_
      refine WL.q (Y.move (.pl rfl)) rfl ?_
      refine WL.q (Y.move (.pl rfl)) rfl ?_
      obtain ⟨x11, hx11, hF6⟩ := bnd hF6
      refine WL.q (Y.slEl Try.underlying47 cells3 hs4 (.pl rfl) (.pl rfl) (ix_lt (hx11))) rfl ?_
      refine WL.q (Y.loadS (enc := (eI .i64)) (v := .int .i64 x11) (j := 0) Try.underlying3 rfl hs4 (.pl rfl) (hx11) rfl rfl) rfl ?_
      refine WL.q (Y.move (.pl rfl)) rfl ?_
      obtain ⟨r12, hr12, hF6⟩ := bnd hF6
      refine WL.step (WO.callP isGo202 (.cons (.pl rfl) (.cons (.pl rfl) (.nil))) rfl (fun wz hw => cmp_Less_int_ok (hr12) wz ) ?_)
      refine WL.next hQ12 (.cons (i := 0) rfl (.cons (i := 1) rfl (.cons (i := 6) rfl (.cons (i := 7) rfl (.cons (i := 8) rfl (.cons (i := 9) rfl (.cons (i := 27) rfl (.nil)))))))) ?_
      refine W.cond (.pl rfl) (fun hC13 => ?_) (fun hC13 => ?_)
      · replace hF6 := cpos hC13 hF6
        -- region 6: sort.go:136
        refine W.reg ?_
        refine WL.q (Y.move (.pl rfl)) rfl ?_
        obtain ⟨hk13, hF6⟩ := ckh hF6
        refine WL.q (Y.add (.pl rfl) (.pl rfl) (ok64_lt (hk13))) rfl ?_
        refine WL.q (Y.assign (.pl rfl)) rfl ?_
        refine WL.nil ?_
        obtain rfl := Option.some.inj hF6
        exact W.again2 hK7 ((IntKind.i64.wrap (shrI .u64 (IntKind.u64.wrap (i8 + j9)) 1)) + 1) j9 k6 hN6 (Nat.lt_succ_self _) (.cons rfl (.cons rfl (.nil))) (.cons (i := 0) rfl (.cons (i := 1) rfl (.cons (i := 6) rfl (.nil)))) (fun wz hw => hw.pick [] rfl)
      · replace hF6 := cneg hC13 hF6
        -- region 7: sort.go:138
        refine W.reg ?_
        refine WL.q (Y.move (.pl rfl)) rfl ?_
        refine WL.q (Y.assign (.pl rfl)) rfl ?_
        refine WL.nil ?_
        obtain rfl := Option.some.inj hF6
        exact W.again2 hK7 i8 (IntKind.i64.wrap (shrI .u64 (IntKind.u64.wrap (i8 + j9)) 1)) k6 hN6 (Nat.lt_succ_self _) (.cons rfl (.cons rfl (.nil))) (.cons (i := 0) rfl (.cons (i := 1) rfl (.cons (i := 6) rfl (.nil)))) (fun wz hw => hw.pick [] rfl)
    · replace hF6 := cneg hC10 hF6
      refine W.exit ?_
      obtain rfl := Option.some.inj hF6
      exact W.joinAt1 hK5 i8 (einr hN6) (.cons rfl (.nil)) (.cons (i := 0) rfl (.cons (i := 1) rfl (.cons (i := 6) rfl (.nil)))) (fun wz hw => hw.pick [] rfl)
  · -- behind
    rintro i7 rfl
    -- region 8: sort.go:142
    refine W.seqR fun Q16 hQ16 => ?_
    refine WL.q (Y.move (.pl rfl)) rfl ?_
    refine WL.q (Y.move (.pl rfl)) rfl ?_
    refine WL.q (Y.move (.pl rfl)) rfl ?_
    refine WL.q (Y.lss (.pl rfl) (.pl rfl)) rfl ?_
    refine WL.q (Y.move (.pl rfl)) rfl ?_
    refine WL.g (.pl rfl rfl rfl) (fun hg => Y.move (.pl rfl)) rfl ?_
    refine WL.g (.pl rfl rfl rfl) (fun hg => Y.move (.pl rfl)) rfl ?_
    obtain ⟨x14, hx14, hF⟩ := bnd hF
    refine WL.g (.pl rfl rfl rfl) (fun hg => Y.slEl Try.underlying47 cells3 hs4 (.gd (hg) rfl) (.gd (hg) rfl) (ix_lt (gpos hg hx14))) rfl ?_
    refine WL.g (.pl rfl rfl rfl) (fun hg => Y.loadS (enc := (eI .i64)) (v := .int .i64 x14) (j := 0) Try.underlying3 rfl hs4 (.gd (hg) rfl) (gpos hg hx14) rfl rfl) rfl ?_
    refine WL.g (.pl rfl rfl rfl) (fun hg => Y.move (.pl rfl)) rfl ?_
    refine WL.g (.pl rfl rfl rfl) (fun hg => Y.eql (.gd (hg) rfl) (.gd (hg) rfl)) rfl ?_
    refine WL.g (.pl rfl rfl rfl) (fun hg => Y.move (.gd (hg) rfl)) rfl ?_
    refine WL.g (.gd rfl rfl rfl) (fun hg => Y.move (.pl rfl)) rfl ?_
    refine WL.g (.gd rfl rfl rfl) (fun hg => Y.move (.pl rfl)) rfl ?_
    obtain ⟨x15, hx15, hF⟩ := bnd hF
    refine WL.g (.gd rfl rfl rfl) (fun hg => Y.slEl Try.underlying47 cells3 hs4 (.gd (hg) rfl) (.gd (hg) rfl) (ix_lt (gpos hg hx15))) rfl ?_
    refine WL.g (.gd rfl rfl rfl) (fun hg => Y.loadS (enc := (eI .i64)) (v := .int .i64 x15) (j := 0) Try.underlying3 rfl hs4 (.gd (hg) rfl) (gpos hg hx15) rfl rfl) rfl ?_
    obtain ⟨r16, hr16, hF⟩ := bnd hF
    refine WL.gP (.gd rfl rfl rfl) isGo203 (fun hg => (.cons (.gd (hg) rfl) (.nil))) rfl (fun hg wz hw => slices_isNaN_int_ok (gpos hg hr16) wz ) ?_
    refine WL.g (.gd rfl rfl rfl) (fun hg => Y.move (.gd (hg) rfl)) rfl ?_
    refine WL.g (.gd rfl rfl rfl) (fun hg => Y.move (.pl rfl)) rfl ?_
    obtain ⟨r17, hr17, hF⟩ := bnd hF
    refine WL.gP (.gd rfl rfl rfl) isGo203 (fun hg => (.cons (.gd (hg) rfl) (.nil))) rfl (fun hg wz hw => slices_isNaN_int_ok (gpos hg hr17) wz ) ?_
    refine WL.g (.gd rfl rfl rfl) (fun hg => Y.and (.gd (hg) rfl) (fun h2 => .gd (band hg (eqt h2)) rfl)) rfl ?_
    refine WL.g (.pl rfl rfl rfl) (fun hg => Y.or (.gd (hg) rfl) (fun h2 => .gd (band hg (eqf h2)) rfl)) rfl ?_
    refine WL.q (Y.and (.pl rfl) (fun h2 => .gd (eqt h2) rfl)) rfl ?_
    refine WL.q (Y.assign (.pl rfl)) rfl ?_
    refine WL.q (Y.assign (.pl rfl)) rfl ?_
    refine WL.next hQ16 (.cons (i := 4) rfl (.cons (i := 5) rfl (.nil))) ?_
    obtain rfl := Option.some.inj hF
    refine W.retV (fn := Try.f199) (vs := [.int .i64 i7, .bool ((decide (i7 < ((x1).length : Int))) && ((decide (x14 = target6)) || ((!(decide (x15 = x15))) && (!(decide (target6 = target6))))))]) Try.results199 ⟨.tmp rfl, ⟨.tmp rfl, trivial⟩⟩ (fun _ _ h => h) (fun wz hw => ?_)
    exact hR _ _ ⟨rfl, (hw.pick [] rfl)⟩

def ren21 : Go.Shelf.Ren := ⟨fun x => match x with | 21 => 200 | 27 => 204 | 28 => 205 | 35 => 206 | 39 => 207 | n => n, fun x => match x with | 22 => 47 | 3 => 3 | 4 => 4 | 0 => 0 | n => n, fun x => x⟩
theorem lays21 : Lays2.n21 Try.prog ren21 where
  mixed := by kernel_rfl
  f21 := Try.func200.trans (congrArg some (by kernel_rfl))
  f27 := Try.func204.trans (congrArg some (by kernel_rfl))
  f28 := Try.func205.trans (congrArg some (by kernel_rfl))
  f35 := Try.func206.trans (congrArg some (by kernel_rfl))
  f39 := Try.func207.trans (congrArg some (by kernel_rfl))
  t0 := Try.underlying0
  a0 := Try.isAgg0
  z0 := Try.sizeOf0
  v0 := Try.zeroValue0
  t3 := Try.underlying3
  a3 := Try.isAgg3
  z3 := Try.sizeOf3
  v3 := Try.zeroValue3
  t4 := Try.underlying4
  a4 := Try.isAgg4
  z4 := Try.sizeOf4
  v4 := Try.zeroValue4
  t22 := Try.underlying47
  a22 := Try.isAgg47
  z22 := Try.sizeOf47
  v22 := Try.zeroValue47
  i3 := by kernel_rfl
theorem slices_Insert_int_ok {N : Nat} {sI1 : (List Int)} {iI2 : Int} {vI3 : (List Int)} {AI4 : Option Addr} {cI5 : Nat} {AI6 : Option Addr} {cI7 : Nat} {res : (List Int)} (hF : slices_Insert_int N sI1 iI2 vI3 = some res) {w0 w : World} {T : List Chunk} (hw : St w0.heap.size w0 ([cR (eI .i64) 1 AI4 cI5 3 sI1, cR (eI .i64) 1 AI6 cI7 3 vI3] ++ T) w) :
    Calls Try.prog 200 (List.toArray [.slice AI4 (sI1).length cI5, .int .i64 iI2, .slice AI6 (vI3).length cI7]) w (fun e w' => ∃ g : (Option Addr × Nat), (True) ∧ e = .returned (.slice g.1 (res).length g.2) ∧ St w0.heap.size w0 ([cR (eI .i64) 1 g.1 g.2 3 res] ++ T) w') := insert_calls lays21 hF hw

def ren23 : Go.Shelf.Ren := ⟨fun x => match x with | 23 => 201 | n => n, fun x => match x with | 22 => 47 | 3 => 3 | 4 => 4 | 0 => 0 | n => n, fun x => x⟩
theorem lays23 : Lays2.n23 Try.prog ren23 where
  mixed := by kernel_rfl
  f23 := Try.func201.trans (congrArg some (by kernel_rfl))
  t0 := Try.underlying0
  a0 := Try.isAgg0
  z0 := Try.sizeOf0
  v0 := Try.zeroValue0
  t3 := Try.underlying3
  a3 := Try.isAgg3
  z3 := Try.sizeOf3
  v3 := Try.zeroValue3
  t4 := Try.underlying4
  a4 := Try.isAgg4
  z4 := Try.sizeOf4
  v4 := Try.zeroValue4
  t22 := Try.underlying47
  a22 := Try.isAgg47
  z22 := Try.sizeOf47
  v22 := Try.zeroValue47
  i3 := by kernel_rfl
theorem slices_Delete_int_ok {N : Nat} {sI1 : (List Int)} {iI2 : Int} {vI3 : Int} {AI4 : Option Addr} {cI5 : Nat} {res : (List Int)} (hF : slices_Delete_int N sI1 iI2 vI3 = some res) {w0 w : World} {T : List Chunk} (hw : St w0.heap.size w0 ([cR (eI .i64) 1 AI4 cI5 3 sI1] ++ T) w) :
    Calls Try.prog 201 (List.toArray [.slice AI4 (sI1).length cI5, .int .i64 iI2, .int .i64 vI3]) w (fun e w' => ∃ g : (Option Addr × Nat), (True) ∧ e = .returned (.slice g.1 (res).length g.2) ∧ St w0.heap.size w0 ([cR (eI .i64) 1 g.1 g.2 3 res] ++ T) w') := delete_calls lays23 hF hw

def object_set_step (N : Nat) (a1 : ObjectSet) (s4 : (List Int)) (kind5 : Int) (arg6 : Int) : Option ((List Int) × Int × Int) :=
  bd (slices_BinarySearch_int_int N s4 arg6) fun (r8 : (Int × Bool)) =>
  cond (((decide (kind5 = 7)) && (!r8.2)) && (decide (((s4).length : Int) = 50)))
    (some ([], 0, 2))
    (cond ((decide (kind5 = 7)) && (!r8.2))
      (bd (slices_Insert_int N s4 r8.1 ([arg6] : List Int)) fun (r10 : (List Int)) =>
      some (r10, 1, 0))
      (cond ((decide (kind5 = 7)) || (!r8.2))
        (some (s4, 0, 0))
        (cond (decide (kind5 = 8))
          (ck (ok64 (r8.1 + 1)) <|
          bd (slices_Delete_int N s4 r8.1 (r8.1 + 1)) fun (r14 : (List Int)) =>
          some (r14, 1, 0))
          (some (s4, 1, 0)))))

theorem object_set_step_ok {N : Nat} {a1 : ObjectSet} {s4 : (List Int)} {kind5 : Int} {arg6 : Int} {A2 : Option Addr} {c3 : Nat} {res : ((List Int) × Int × Int)} (hF : object_set_step N a1 s4 kind5 arg6 = some res) {w0 w : World} {T : List Chunk} (hw : St w0.heap.size w0 ([cR (eI .i64) 1 A2 c3 3 s4] ++ T) w) :
    Calls Try.prog 197 (List.toArray [.agg (encObjectSet a1).toArray, .slice A2 (s4).length c3, .int .i64 kind5, .int .i64 arg6]) w (fun e w' => ∃ g : (Option Addr × Nat), (True) ∧ e = .returned (.tuple #[.slice g.1 (res.1).length g.2, .int .i64 res.2.1, .int .i64 res.2.2]) ∧ St w0.heap.size w0 ([cR (eI .i64) 1 g.1 g.2 3 res.1] ++ T) w') := by
  refine W.enter (n := 60) Try.func197 rfl rfl Sub.refl (by simp) hw fun R hR => ?_
  unfold object_set_step at hF
  -- region 0: object.go:96
  refine W.seqR fun Q1 hQ1 => ?_
  refine WL.step (WO.boxA (.pl rfl) rfl fun b7 => ?_)
  refine WL.q (Y.assign (.pl rfl)) rfl ?_
  refine WL.q (Y.assign (.pl rfl)) rfl ?_
  refine WL.q (Y.assign (.pl rfl)) rfl ?_
  refine WL.next hQ1 (.cons (i := 1) rfl (.cons (i := 2) rfl (.cons (i := 3) rfl (.nil)))) ?_
  -- region 1: object.go:97
  refine W.seqR fun Q2 hQ2 => ?_
  refine WL.q (Y.move (.pl rfl)) rfl ?_
  refine WL.q (Y.move (.pl rfl)) rfl ?_
  obtain ⟨r8, hr8, hF⟩ := bnd hF
  refine WL.step (WO.callP isGo199 (.cons (.pl rfl) (.cons (.pl rfl) (.nil))) rfl (fun wz hw => slices_BinarySearch_int_int_ok (hr8) wz (SlIn.ofRow (fun _ => rfl) hw (i := 1) rfl)) ?_)
  refine WL.q (Y.move (.pl rfl)) rfl ?_
  refine WL.q (Y.extract (.pl rfl) rfl) rfl ?_
  refine WL.q (Y.extract (.pl rfl) rfl) rfl ?_
  refine WL.q (Y.assign (.pl rfl)) rfl ?_
  refine WL.q (Y.assign (.pl rfl)) rfl ?_
  refine WL.next hQ2 (.cons (i := 1) rfl (.cons (i := 2) rfl (.cons (i := 3) rfl (.cons (i := 11) rfl (.cons (i := 12) rfl (.nil)))))) ?_
  refine W.seq fun K3 hK3 => ?_
  refine W.block ?_
  -- region 2: object.go:99
  refine W.seqR fun Q4 hQ4 => ?_
  refine WL.q (Y.move (.pl rfl)) rfl ?_
  refine WL.q (Y.eql (.pl rfl) (.pl rfl)) rfl ?_
  refine WL.q (Y.move (.pl rfl)) rfl ?_
  refine WL.g (.pl rfl rfl rfl) (fun hg => Y.move (.pl rfl)) rfl ?_
  refine WL.g (.pl rfl rfl rfl) (fun hg => Y.not (.gd (hg) rfl)) rfl ?_
  refine WL.q (Y.and (.pl rfl) (fun h2 => .gd (eqt h2) rfl)) rfl ?_
  refine WL.q (Y.move (.pl rfl)) rfl ?_
  refine WL.g (.pl rfl rfl rfl) (fun hg => Y.move (.pl rfl)) rfl ?_
  refine WL.g (.pl rfl rfl rfl) (fun hg => Y.len Try.underlying47 (.gd (hg) rfl)) rfl ?_
  refine WL.g (.pl rfl rfl rfl) (fun hg => Y.eql (.gd (hg) rfl) (.pl rfl)) rfl ?_
  refine WL.q (Y.and (.pl rfl) (fun h2 => .gd (eqt h2) rfl)) rfl ?_
  refine WL.q (Y.assign (.pl rfl)) rfl ?_
  refine WL.next hQ4 (.cons (i := 1) rfl (.cons (i := 2) rfl (.cons (i := 3) rfl (.cons (i := 11) rfl (.cons (i := 12) rfl (.cons (i := 19) rfl (.nil))))))) ?_
  refine W.cond (.pl rfl) (fun hC5 => ?_) (fun hC5 => ?_)
  · replace hF := cpos hC5 hF
    -- region 3: object.go:100
    refine W.seqR fun Q6 hQ6 => ?_
    refine WL.q (Y.assign (.pl rfl)) rfl ?_
    refine WL.q (Y.assign (.pl rfl)) rfl ?_
    refine WL.q (Y.assign (.pl rfl)) rfl ?_
    refine WL.next hQ6 (.cons (i := 8) rfl (.cons (i := 9) rfl (.cons (i := 10) rfl (.nil)))) ?_
    obtain rfl := Option.some.inj hF
    refine W.retV (fn := Try.f197) (vs := [.slice none 0 0, .int .i64 0, .int .i64 2]) Try.results197 ⟨.tmp rfl, ⟨.tmp rfl, ⟨.tmp rfl, trivial⟩⟩⟩ (fun _ _ h => h) (fun wz hw => ?_)
    exact hR _ _ ⟨(none, 0), trivial, rfl, ((St.nilR (hw.pickK 2 [] rfl) (eI .i64) 1 3).pickK 1 [0] rfl)⟩
  · replace hF := cneg hC5 hF
    -- region 4: object.go:101
    refine W.seqR fun Q7 hQ7 => ?_
    refine WL.q (Y.move (.pl rfl)) rfl ?_
    refine WL.q (Y.eql (.pl rfl) (.pl rfl)) rfl ?_
    refine WL.q (Y.move (.pl rfl)) rfl ?_
    refine WL.g (.pl rfl rfl rfl) (fun hg => Y.move (.pl rfl)) rfl ?_
    refine WL.g (.pl rfl rfl rfl) (fun hg => Y.not (.gd (hg) rfl)) rfl ?_
    refine WL.q (Y.and (.pl rfl) (fun h2 => .gd (eqt h2) rfl)) rfl ?_
    refine WL.q (Y.assign (.pl rfl)) rfl ?_
    refine WL.next hQ7 (.cons (i := 1) rfl (.cons (i := 2) rfl (.cons (i := 3) rfl (.cons (i := 11) rfl (.cons (i := 12) rfl (.cons (i := 31) rfl (.nil))))))) ?_
    refine W.cond (.pl rfl) (fun hC8 => ?_) (fun hC8 => ?_)
    · replace hF := cpos hC8 hF
      -- region 5: object.go:102
      refine W.seqR fun Q9 hQ9 => ?_
      refine WL.q (Y.move (.pl rfl)) rfl ?_
      refine WL.q (Y.move (.pl rfl)) rfl ?_
      refine WL.q (Y.move (.pl rfl)) rfl ?_
      refine WL.step (WO.bsliceC (enc := (eI .i64)) (ys := ([arg6] : List Int)) Try.underlying47 bz3 (.cons (.pl rfl) (.nil)) rfl (fun _ => rfl) rfl rfl (by decide) (by decide) rfl fun b9 => ?_)
      obtain ⟨r10, hr10, hF⟩ := bnd hF
      refine WL.step (WO.call (γ := (Option Addr × Nat)) (fun g => .slice g.1 (r10).length g.2) (fun g => ([cR (eI .i64) 1 g.1 g.2 3 r10, cBx b7 252 (encObjectSet a1)] ++ T)) (fun g => True) isGo200 (.cons (.pl rfl) (.cons (.pl rfl) (.cons (.pl rfl) (.nil)))) rfl (fun wz hw => slices_Insert_int_ok (T := ([cBx b7 252 (encObjectSet a1)] ++ T)) (hr10) (hw.pickK 3 [2, 0, 1] rfl) ) ?_)
      rintro ⟨AI11, cI12⟩ -
      refine WL.q (Y.assign (.pl rfl)) rfl ?_
      refine WL.q (Y.assign (.pl rfl)) rfl ?_
      refine WL.q (Y.assign (.pl rfl)) rfl ?_
      refine WL.next hQ9 (.cons (i := 8) rfl (.cons (i := 9) rfl (.cons (i := 10) rfl (.nil)))) ?_
      obtain rfl := Option.some.inj hF
      refine W.retV (fn := Try.f197) (vs := [.slice AI11 (r10).length cI12, .int .i64 1, .int .i64 0]) Try.results197 ⟨.tmp rfl, ⟨.tmp rfl, ⟨.tmp rfl, trivial⟩⟩⟩ (fun _ _ h => h) (fun wz hw => ?_)
      exact hR _ _ ⟨(AI11, cI12), trivial, rfl, (hw.pickK 2 [0] rfl)⟩
    · replace hF := cneg hC8 hF
      -- region 6: object.go:103
      refine W.seqR fun Q10 hQ10 => ?_
      refine WL.q (Y.move (.pl rfl)) rfl ?_
      refine WL.q (Y.eql (.pl rfl) (.pl rfl)) rfl ?_
      refine WL.q (Y.move (.pl rfl)) rfl ?_
      refine WL.g (.pl rfl rfl rfl) (fun hg => Y.move (.pl rfl)) rfl ?_
      refine WL.g (.pl rfl rfl rfl) (fun hg => Y.not (.gd (hg) rfl)) rfl ?_
      refine WL.q (Y.or (.pl rfl) (fun h2 => .gd (eqf h2) rfl)) rfl ?_
      refine WL.q (Y.assign (.pl rfl)) rfl ?_
      refine WL.next hQ10 (.cons (i := 1) rfl (.cons (i := 2) rfl (.cons (i := 11) rfl (.cons (i := 43) rfl (.nil))))) ?_
      refine W.cond (.pl rfl) (fun hC11 => ?_) (fun hC11 => ?_)
      · replace hF := cpos hC11 hF
        -- region 7: object.go:104
        refine W.seqR fun Q12 hQ12 => ?_
        refine WL.q (Y.move (.pl rfl)) rfl ?_
        refine WL.q (Y.assign (.pl rfl)) rfl ?_
        refine WL.q (Y.assign (.pl rfl)) rfl ?_
        refine WL.q (Y.assign (.pl rfl)) rfl ?_
        refine WL.next hQ12 (.cons (i := 8) rfl (.cons (i := 9) rfl (.cons (i := 10) rfl (.nil)))) ?_
        obtain rfl := Option.some.inj hF
        refine W.retV (fn := Try.f197) (vs := [.slice A2 (s4).length c3, .int .i64 0, .int .i64 0]) Try.results197 ⟨.tmp rfl, ⟨.tmp rfl, ⟨.tmp rfl, trivial⟩⟩⟩ (fun _ _ h => h) (fun wz hw => ?_)
        exact hR _ _ ⟨(A2, c3), trivial, rfl, (hw.pickK 2 [1] rfl)⟩
      · replace hF := cneg hC11 hF
        -- region 8: object.go:105
        refine W.seqR fun Q13 hQ13 => ?_
        refine WL.q (Y.move (.pl rfl)) rfl ?_
        refine WL.q (Y.eql (.pl rfl) (.pl rfl)) rfl ?_
        refine WL.q (Y.assign (.pl rfl)) rfl ?_
        refine WL.next hQ13 (.cons (i := 1) rfl (.cons (i := 11) rfl (.cons (i := 51) rfl (.nil)))) ?_
        refine W.cond (.pl rfl) (fun hC14 => ?_) (fun hC14 => ?_)
        · replace hF := cpos hC14 hF
          -- region 9: object.go:106
          refine W.seqR fun Q15 hQ15 => ?_
          refine WL.q (Y.move (.pl rfl)) rfl ?_
          refine WL.q (Y.move (.pl rfl)) rfl ?_
          refine WL.q (Y.move (.pl rfl)) rfl ?_
          obtain ⟨hk13, hF⟩ := ckh hF
          refine WL.q (Y.add (.pl rfl) (.pl rfl) (ok64_lt (hk13))) rfl ?_
          obtain ⟨r14, hr14, hF⟩ := bnd hF
          refine WL.step (WO.call (γ := (Option Addr × Nat)) (fun g => .slice g.1 (r14).length g.2) (fun g => ([cR (eI .i64) 1 g.1 g.2 3 r14, cBx b7 252 (encObjectSet a1)] ++ T)) (fun g => True) isGo201 (.cons (.pl rfl) (.cons (.pl rfl) (.cons (.pl rfl) (.nil)))) rfl (fun wz hw => slices_Delete_int_ok (T := ([cBx b7 252 (encObjectSet a1)] ++ T)) (hr14) (hw.pickK 2 [1, 0] rfl) ) ?_)
          rintro ⟨AI15, cI16⟩ -
          refine WL.q (Y.assign (.pl rfl)) rfl ?_
          refine WL.q (Y.assign (.pl rfl)) rfl ?_
          refine WL.q (Y.assign (.pl rfl)) rfl ?_
          refine WL.next hQ15 (.cons (i := 8) rfl (.cons (i := 9) rfl (.cons (i := 10) rfl (.nil)))) ?_
          obtain rfl := Option.some.inj hF
          refine W.retV (fn := Try.f197) (vs := [.slice AI15 (r14).length cI16, .int .i64 1, .int .i64 0]) Try.results197 ⟨.tmp rfl, ⟨.tmp rfl, ⟨.tmp rfl, trivial⟩⟩⟩ (fun _ _ h => h) (fun wz hw => ?_)
          exact hR _ _ ⟨(AI15, cI16), trivial, rfl, (hw.pickK 2 [0] rfl)⟩
        · replace hF := cneg hC14 hF
          refine W.skip ?_
          refine W.go hK3 (.cons (i := 1) rfl (.nil)) ?_
          -- region 10: object.go:108
          refine W.seqR fun Q16 hQ16 => ?_
          refine WL.q (Y.move (.pl rfl)) rfl ?_
          refine WL.q (Y.assign (.pl rfl)) rfl ?_
          refine WL.q (Y.assign (.pl rfl)) rfl ?_
          refine WL.q (Y.assign (.pl rfl)) rfl ?_
          refine WL.next hQ16 (.cons (i := 8) rfl (.cons (i := 9) rfl (.cons (i := 10) rfl (.nil)))) ?_
          obtain rfl := Option.some.inj hF
          refine W.retV (fn := Try.f197) (vs := [.slice A2 (s4).length c3, .int .i64 1, .int .i64 0]) Try.results197 ⟨.tmp rfl, ⟨.tmp rfl, ⟨.tmp rfl, trivial⟩⟩⟩ (fun _ _ h => h) (fun wz hw => ?_)
          exact hR _ _ ⟨(A2, c3), trivial, rfl, (hw.pickK 2 [1] rfl)⟩

def object_ticket_step (N : Nat) (a1 : ObjectRegister) (s2 : (List Int)) (x7 : Int) (x8 : Int) : Option ((List Int) × Int × Int) :=
  bd (ix s2 0) fun (x10 : Int) =>
  cond (decide (x10 = 1000))
    (some ([], 0, 2))
    (ck (ok64 (x10 + 1)) <|
    some (([(x10 + 1)] : List Int), x10, 0))

theorem object_ticket_step_ok {N : Nat} {a1 : ObjectRegister} {s2 : (List Int)} {x7 : Int} {x8 : Int} {res : ((List Int) × Int × Int)} (hF : object_ticket_step N a1 s2 x7 x8 = some res) (w : World) {v6 : Value} (hs5 : SlIn (eI .i64) 1 w v6 s2) :
    Made Try.prog 208 [.agg (encObjectRegister a1).toArray, v6, .int .i64 x7, .int .i64 x8] w (fun g : (Option Addr × Nat) => .tuple #[.slice g.1 (res.1).length g.2, .int .i64 res.2.1, .int .i64 res.2.2]) (fun g => [cR (eI .i64) 1 g.1 g.2 3 res.1]) (fun g => True) := by
  obtain ⟨A3, c4, rfl, hcc4, hs5⟩ := hs5.form
  refine W.enter (n := 23) Try.func208 rfl rfl Sub.refl (by simp) (St.start w) fun R hR => ?_
  unfold object_ticket_step at hF
  -- region 0: object.go:36
  refine W.seqR fun Q1 hQ1 => ?_
  refine WL.step (WO.boxA (.pl rfl) rfl fun b9 => ?_)
  refine WL.q (Y.assign (.pl rfl)) rfl ?_
  refine WL.q (Y.assign (.pl rfl)) rfl ?_
  refine WL.q (Y.assign (.pl rfl)) rfl ?_
  refine WL.next hQ1 (.cons (i := 1) rfl (.nil)) ?_
  refine W.seq fun K2 hK2 => ?_
  -- region 1: object.go:37
  refine W.seqR fun Q3 hQ3 => ?_
  refine WL.q (Y.move (.pl rfl)) rfl ?_
  obtain ⟨x10, hx10, hF⟩ := bnd hF
  refine WL.q (Y.slEl Try.underlying47 cells3 hs5 (.pl rfl) (.pl rfl) (ix_lt (hx10))) rfl ?_
  refine WL.q (Y.loadS (enc := (eI .i64)) (v := .int .i64 x10) (j := 0) Try.underlying3 rfl hs5 (.pl rfl) (hx10) rfl rfl) rfl ?_
  refine WL.q (Y.eql (.pl rfl) (.pl rfl)) rfl ?_
  refine WL.next hQ3 (.cons (i := 1) rfl (.cons (i := 14) rfl (.nil))) ?_
  refine W.cond (.pl rfl) (fun hC4 => ?_) (fun hC4 => ?_)
  · replace hF := cpos hC4 hF
    -- region 2: object.go:38
    refine W.seqR fun Q5 hQ5 => ?_
    refine WL.q (Y.assign (.pl rfl)) rfl ?_
    refine WL.q (Y.assign (.pl rfl)) rfl ?_
    refine WL.q (Y.assign (.pl rfl)) rfl ?_
    refine WL.next hQ5 (.cons (i := 8) rfl (.cons (i := 9) rfl (.cons (i := 10) rfl (.nil)))) ?_
    obtain rfl := Option.some.inj hF
    refine W.retV (fn := Try.f208) (vs := [.slice none 0 0, .int .i64 0, .int .i64 2]) Try.results208 ⟨.tmp rfl, ⟨.tmp rfl, ⟨.tmp rfl, trivial⟩⟩⟩ (fun _ _ h => h) (fun wz hw => ?_)
    exact hR _ _ ⟨(none, 0), trivial, rfl, ((St.nilR (hw.pick [] rfl) (eI .i64) 1 3).pick [0] rfl)⟩
  · replace hF := cneg hC4 hF
    refine W.skip ?_
    refine W.go hK2 (.cons (i := 1) rfl (.nil)) ?_
    -- region 3: object.go:40
    refine W.seqX 10 (by kernel_rfl) fun K6 hK6 => ?_
    refine WX.pure 0 #[true, false, false, false, false, false, false, false, false, false, false] rfl (by kernel_rfl) (fun _ _ => Y.move (.pl rfl)) rfl ?_
    refine WX.take 1 #[true, true, false, false, false, false, false, false, false, false, false] (fun wz hw => St.tail [] hw) rfl (by kernel_rfl) (Y.slEl Try.underlying47 cells3 hs5 (.pl rfl) (.pl rfl) (ix_lt (hx10))) rfl ?_
    refine WX.take 2 #[true, true, true, false, false, false, false, false, false, false, false] (fun wz hw => St.tail [] hw) rfl (by kernel_rfl) (Y.loadS (enc := (eI .i64)) (v := .int .i64 x10) (j := 0) Try.underlying3 rfl hs5 (.pl rfl) (hx10) rfl rfl) rfl ?_
    obtain ⟨hk11, hF⟩ := ckh hF
    refine WX.pure 3 #[true, true, true, true, false, false, false, false, false, false, false] rfl (by kernel_rfl) (fun _ _ => Y.add (.pl rfl) (.pl rfl) (ok64_lt (hk11))) rfl ?_
    refine WX.pure 5 #[true, true, true, true, false, true, false, false, false, false, false] rfl (by kernel_rfl) (fun _ _ => Y.move (.pl rfl)) rfl ?_
    refine WX.take 6 #[true, true, true, true, false, true, true, false, false, false, false] (fun wz hw => St.tail [] hw) rfl (by kernel_rfl) (Y.slEl Try.underlying47 cells3 hs5 (.pl rfl) (.pl rfl) (ix_lt (hx10))) rfl ?_
    refine WX.take 7 #[true, true, true, true, false, true, true, true, false, false, false] (fun wz hw => St.tail [] hw) rfl (by kernel_rfl) (Y.loadS (enc := (eI .i64)) (v := .int .i64 x10) (j := 0) Try.underlying3 rfl hs5 (.pl rfl) (hx10) rfl rfl) rfl ?_
    refine WX.one 4 #[true, true, true, true, true, true, true, true, false, false, false] (fun wz hw => St.tail [] hw) rfl (by kernel_rfl) (WO.bsliceC (enc := (eI .i64)) (ys := ([(x10 + 1)] : List Int)) Try.underlying47 bz3 (.cons (.pl rfl) (.nil)) rfl (fun _ => rfl) rfl rfl (by decide) (by decide) rfl fun b12 => ?_)
    refine WX.pure 8 #[true, true, true, true, true, true, true, true, true, false, false] rfl (by kernel_rfl) (fun _ _ => Y.assign (.pl rfl)) rfl ?_
    refine WX.pure 9 #[true, true, true, true, true, true, true, true, true, true, false] rfl (by kernel_rfl) (fun _ _ => Y.assign (.pl rfl)) rfl ?_
    refine WX.stop #[true, true, true, true, true, true, true, true, true, true, true] (fun wz hw => St.tail [_] hw) rfl (by kernel_rfl) (WO.q (Y.assign (.pl rfl)) rfl ?_)
    refine WA.done (by kernel_rfl) ?_
    refine KK.next hK6 (.cons (i := 8) rfl (.cons (i := 9) rfl (.cons (i := 10) rfl (.nil)))) ?_
    obtain rfl := Option.some.inj hF
    refine W.retV (fn := Try.f208) (vs := [.slice (some ⟨b12, 0, none⟩) (([(x10 + 1)] : List Int)).length (([(x10 + 1)] : List Int)).length, .int .i64 x10, .int .i64 0]) Try.results208 ⟨.tmp rfl, ⟨.tmp rfl, ⟨.tmp rfl, trivial⟩⟩⟩ (fun _ _ h => h) (fun wz hw => ?_)
    exact hR _ _ ⟨((some ⟨b12, 0, none⟩), (([(x10 + 1)] : List Int)).length), trivial, rfl, (hw.pick [0] rfl)⟩

def object_Step (N : Nat) (typ1 : Int) (s2 : (List Int)) (kind7 : Int) (arg8 : Int) : Option ((List Int) × Int × Int) :=
  bd (object_Check N typ1 s2) fun (r9 : Int) =>
  cond (!(decide (r9 = 0)))
    (some ([], 0, r9))
    (bd (history_Fits N typ1 kind7) fun (r10 : Bool) =>
    bd ((cond ((!r10) == false) (history_Argument N kind7 arg8) (some false))) fun (r11 : Bool) =>
    cond ((!r10) || (!r11))
      (some ([], 0, 3))
      (bd (α := ((List Int) × Int × Int)) (bd (object_of N typ1) fun (r18 : Int) =>
        cond (decide (r18 = 247))
          (ck (limB 8 (s2).length) <|
          bd (object_register_step N (ObjectRegister.mk (ObjectSingle.mk )) s2 kind7 arg8) fun (r22 : ((List Int) × Int)) =>
          some (r22.1, r22.2, 0))
          (cond (decide (r18 = 250))
            (ck (limB 8 (s2).length) <|
            bd (object_queue_step N (ObjectSet.mk (ObjectSingle.mk )) s2 kind7 arg8) fun (r28 : ((List Int) × Int × Int)) =>
            some (r28.1, r28.2.1, r28.2.2))
            (cond (decide (r18 = 251))
              (ck (limB 8 (s2).length) <|
              bd (object_stack_step N (ObjectSet.mk (ObjectSingle.mk )) s2 kind7 arg8) fun (r35 : ((List Int) × Int × Int)) =>
              some (r35.1, r35.2.1, r35.2.2))
              (cond (decide (r18 = 252))
                (ck (limB 8 (s2).length) <|
                bd (object_set_step N (ObjectSet.mk (ObjectSingle.mk )) s2 kind7 arg8) fun (r41 : ((List Int) × Int × Int)) =>
                some (r41.1, r41.2.1, r41.2.2))
                (cond (decide (r18 = 253))
                  (ck (limB 8 (s2).length) <|
                  bd (object_ticket_step N (ObjectRegister.mk (ObjectSingle.mk )) s2 kind7 arg8) fun (r47 : ((List Int) × Int × Int)) =>
                  some (r47.1, r47.2.1, r47.2.2))
                  (none)))))) <|
      fun (next15, res16, e17) => 
        ck (limB 8 (next15).length) <|
        some (next15, res16, e17)))

theorem object_Step_ok {N : Nat} {typ1 : Int} {s2 : (List Int)} {kind7 : Int} {arg8 : Int} {res : ((List Int) × Int × Int)} (hF : object_Step N typ1 s2 kind7 arg8 = some res) (w : World) {v6 : Value} (hs5 : SlIn (eI .i64) 1 w v6 s2) :
    Made Try.prog 110 [.int .i64 typ1, v6, .int .i64 kind7, .int .i64 arg8] w (fun g : (Option Addr × Nat) => .tuple #[.slice g.1 (res.1).length g.2, .int .i64 res.2.1, .int .i64 res.2.2]) (fun g => [cR (eI .i64) 1 g.1 g.2 3 res.1]) (fun g => True) := by
  obtain ⟨A3, c4, rfl, hcc4, hs5⟩ := hs5.form
  refine W.enter (n := 49) Try.func110 rfl rfl Sub.refl (by simp) (St.start w) fun R hR => ?_
  unfold object_Step at hF
  -- region 0: object.go:152
  refine W.seqR fun Q1 hQ1 => ?_
  refine WL.q (Y.assign (.pl rfl)) rfl ?_
  refine WL.q (Y.assign (.pl rfl)) rfl ?_
  refine WL.q (Y.assign (.pl rfl)) rfl ?_
  refine WL.next hQ1 (.cons (i := 0) rfl (.cons (i := 1) rfl (.cons (i := 2) rfl (.cons (i := 3) rfl (.nil))))) ?_
  refine W.seq fun K2 hK2 => ?_
  -- region 1: object.go:153
  refine W.seqR fun Q3 hQ3 => ?_
  refine WL.q (Y.move (.pl rfl)) rfl ?_
  refine WL.q (Y.move (.pl rfl)) rfl ?_
  obtain ⟨r9, hr9, hF⟩ := bnd hF
  refine WL.step (WO.callP isGo139 (.cons (.pl rfl) (.cons (.pl rfl) (.nil))) rfl (fun wz hw => object_Check_ok (hr9) wz (hs5.mono hw)) ?_)
  refine WL.q (Y.assign (.pl rfl)) rfl ?_
  refine WL.next hQ3 (.cons (i := 0) rfl (.cons (i := 1) rfl (.cons (i := 2) rfl (.cons (i := 3) rfl (.cons (i := 11) rfl (.nil)))))) ?_
  -- region 2: object.go:153
  refine W.seqR fun Q4 hQ4 => ?_
  refine WL.q (Y.move (.pl rfl)) rfl ?_
  refine WL.q (Y.neq (.pl rfl) (.pl rfl)) rfl ?_
  refine WL.next hQ4 (.cons (i := 0) rfl (.cons (i := 1) rfl (.cons (i := 2) rfl (.cons (i := 3) rfl (.cons (i := 11) rfl (.cons (i := 19) rfl (.nil))))))) ?_
  refine W.cond (.pl rfl) (fun hC5 => ?_) (fun hC5 => ?_)
  · replace hF := cpos hC5 hF
    -- region 3: object.go:154
    refine W.seqR fun Q6 hQ6 => ?_
    refine WL.q (Y.move (.pl rfl)) rfl ?_
    refine WL.q (Y.assign (.pl rfl)) rfl ?_
    refine WL.q (Y.assign (.pl rfl)) rfl ?_
    refine WL.q (Y.assign (.pl rfl)) rfl ?_
    refine WL.next hQ6 (.cons (i := 8) rfl (.cons (i := 9) rfl (.cons (i := 10) rfl (.nil)))) ?_
    obtain rfl := Option.some.inj hF
    refine W.retV (fn := Try.f110) (vs := [.slice none 0 0, .int .i64 0, .int .i64 r9]) Try.results110 ⟨.tmp rfl, ⟨.tmp rfl, ⟨.tmp rfl, trivial⟩⟩⟩ (fun _ _ h => h) (fun wz hw => ?_)
    exact hR _ _ ⟨(none, 0), trivial, rfl, ((St.nilR (hw.pick [] rfl) (eI .i64) 1 3).pick [0] rfl)⟩
  · replace hF := cneg hC5 hF
    refine W.skip ?_
    refine W.go hK2 (.cons (i := 0) rfl (.cons (i := 1) rfl (.cons (i := 2) rfl (.cons (i := 3) rfl (.nil))))) ?_
    refine W.seq fun K7 hK7 => ?_
    -- region 4: object.go:156
    refine W.seqR fun Q8 hQ8 => ?_
    refine WL.q (Y.move (.pl rfl)) rfl ?_
    refine WL.q (Y.move (.pl rfl)) rfl ?_
    obtain ⟨r10, hr10, hF⟩ := bnd hF
    refine WL.step (WO.callP isGo91 (.cons (.pl rfl) (.cons (.pl rfl) (.nil))) rfl (fun wz hw => history_Fits_ok (hr10) wz ) ?_)
    refine WL.q (Y.not (.pl rfl)) rfl ?_
    refine WL.q (Y.move (.pl rfl)) rfl ?_
    refine WL.g (.pl rfl rfl rfl) (fun hg => Y.move (.pl rfl)) rfl ?_
    refine WL.g (.pl rfl rfl rfl) (fun hg => Y.move (.pl rfl)) rfl ?_
    obtain ⟨r11, hr11, hF⟩ := bnd hF
    refine WL.gP (.pl rfl rfl rfl) isGo92 (fun hg => (.cons (.gd (hg) rfl) (.cons (.gd (hg) rfl) (.nil)))) rfl (fun hg wz hw => history_Argument_ok (gpos hg hr11) wz ) ?_
    refine WL.g (.pl rfl rfl rfl) (fun hg => Y.not (.gd (hg) rfl)) rfl ?_
    refine WL.q (Y.or (.pl rfl) (fun h2 => .gd (eqf h2) rfl)) rfl ?_
    refine WL.next hQ8 (.cons (i := 0) rfl (.cons (i := 1) rfl (.cons (i := 2) rfl (.cons (i := 3) rfl (.cons (i := 30) rfl (.nil)))))) ?_
    refine W.cond (.pl rfl) (fun hC9 => ?_) (fun hC9 => ?_)
    · replace hF := cpos hC9 hF
      -- region 5: object.go:157
      refine W.seqR fun Q10 hQ10 => ?_
      refine WL.q (Y.assign (.pl rfl)) rfl ?_
      refine WL.q (Y.assign (.pl rfl)) rfl ?_
      refine WL.q (Y.assign (.pl rfl)) rfl ?_
      refine WL.next hQ10 (.cons (i := 8) rfl (.cons (i := 9) rfl (.cons (i := 10) rfl (.nil)))) ?_
      obtain rfl := Option.some.inj hF
      refine W.retV (fn := Try.f110) (vs := [.slice none 0 0, .int .i64 0, .int .i64 3]) Try.results110 ⟨.tmp rfl, ⟨.tmp rfl, ⟨.tmp rfl, trivial⟩⟩⟩ (fun _ _ h => h) (fun wz hw => ?_)
      exact hR _ _ ⟨(none, 0), trivial, rfl, ((St.nilR (hw.pick [] rfl) (eI .i64) 1 3).pick [0] rfl)⟩
    · replace hF := cneg hC9 hF
      refine W.skip ?_
      refine W.go hK7 (.cons (i := 0) rfl (.cons (i := 1) rfl (.cons (i := 2) rfl (.cons (i := 3) rfl (.nil))))) ?_
      obtain ⟨o11, hF11, hF⟩ := bnd hF
      refine W.join6 (Em := fun (next15 : (List Int)) (res16 : Int) (e17 : Int) (o12 : Option Nat) (A13 : Option Addr) (c14 : Nat) => [(12, .slice A13 (next15).length c14), (13, .int .i64 res16), (14, .int .i64 e17)]) (M := fun next15 res16 e17 o12 A13 c14 => [cV o12 (eI .i64) 1 A13 c14 next15]) (I := fun next15 res16 e17 o12 A13 c14 => (next15, res16, e17) = o11) (.nil) (fun K12 hK12 => ?_) ?_
      · -- up to
        -- region 6: object.go:159
        refine W.regX 16 (by kernel_rfl) ?_
        refine WX.pure 0 #[true, false, false, false, false, false, false, false, false, false, false, false, false, false, false, false, false] rfl (by kernel_rfl) (fun _ _ => Y.move (.pl rfl)) rfl ?_
        refine WX.pure 2 #[true, false, true, false, false, false, false, false, false, false, false, false, false, false, false, false, false] rfl (by kernel_rfl) (fun _ _ => Y.move (.pl rfl)) rfl ?_
        refine WX.pure 4 #[true, false, true, false, true, false, false, false, false, false, false, false, false, false, false, false, false] rfl (by kernel_rfl) (fun _ _ => Y.move (.pl rfl)) rfl ?_
        refine WX.pure 5 #[true, false, true, false, true, true, false, false, false, false, false, false, false, false, false, false, false] rfl (by kernel_rfl) (fun _ _ => Y.move (.pl rfl)) rfl ?_
        obtain ⟨r18, hr18, hF11⟩ := bnd hF11
        refine WX.one 1 #[true, true, true, false, true, true, false, false, false, false, false, false, false, false, false, false, false] (fun wz hw => St.tail [] hw) rfl (by kernel_rfl) (WO.callP isGo109 (.cons (.pl rfl) (.nil)) rfl (fun wz hw => object_of_ok (hr18) wz ) ?_)
        refine bsplit (decide (r18 = 247)) (fun hT14 => ?_) (fun hT14 => ?_)
        · replace hF11 := cpos hT14 hF11
          refine WX.pure 6 #[true, true, true, false, true, true, true, false, false, false, false, false, false, false, false, false, false] rfl (by kernel_rfl) (fun _ _ => Y.fn (f := .method "alibi/object.step") (.cons (Evs.ifE (k := 247) (of_decide_eq_true hT14) rfl (.pl rfl)) (.nil))) rfl ?_
          refine WX.pure 7 #[true, true, true, false, true, true, true, true, false, false, false, false, false, false, false, false, false] rfl (by kernel_rfl) (fun _ _ => Y.nilM nah247_step (.pl rfl)) rfl ?_
          refine WX.pure 8 #[true, true, true, false, true, true, true, true, true, false, false, false, false, false, false, false, false] rfl (by kernel_rfl) (fun _ _ => Y.move (.pl rfl)) rfl ?_
          obtain ⟨hk19, hF11⟩ := ckh hF11
          refine WX.one 3 #[true, true, true, true, true, true, true, true, true, false, false, false, false, false, false, false, false] (fun wz hw => St.tail [] hw) rfl (by kernel_rfl) (WO.callM isGo35 (.cons (.pl rfl) (.nil)) rfl (fun wz hw => slices_Clone_int_int_ok (hk19) wz (hs5.mono hw)) ?_)
          rintro ⟨A20, c21⟩ -
          obtain ⟨r22, hr22, hF11⟩ := bnd hF11
          refine WX.one 9 #[true, true, true, true, true, true, true, true, true, true, false, false, false, false, false, false, false] (fun wz hw => St.tail [_] hw) rfl (by kernel_rfl) (WO.callI (γ := (Option Addr × Nat)) (u := .agg #[]) (v := .agg #[]) (fun g => .tuple #[.slice g.1 (r22.1).length g.2, .int .i64 r22.2, .int .i64 0]) (fun g => [cR (eI .i64) 1 g.1 g.2 3 r22.1]) (fun g => True) meth247_step isGo190 (Evs.ifE (k := 247) (of_decide_eq_true hT14) rfl (.pl rfl)) (.cons (.pl rfl) (.cons (.pl rfl) (.cons (.pl rfl) (.nil)))) rfl (fun wz hw => object_register_step_ok (T := []) (hr22) (hw.pick [0] rfl) ) ?_)
          rintro ⟨A23, c24⟩ -
          refine WX.pure 10 #[true, true, true, true, true, true, true, true, true, true, true, false, false, false, false, false, false] rfl (by kernel_rfl) (fun _ _ => Y.move (.pl rfl)) rfl ?_
          refine WX.pure 11 #[true, true, true, true, true, true, true, true, true, true, true, true, false, false, false, false, false] rfl (by kernel_rfl) (fun _ _ => Y.extract (.pl rfl) rfl) rfl ?_
          refine WX.pure 12 #[true, true, true, true, true, true, true, true, true, true, true, true, true, false, false, false, false] rfl (by kernel_rfl) (fun _ _ => Y.extract (.pl rfl) rfl) rfl ?_
          refine WX.pure 13 #[true, true, true, true, true, true, true, true, true, true, true, true, true, true, false, false, false] rfl (by kernel_rfl) (fun _ _ => Y.extract (.pl rfl) rfl) rfl ?_
          refine WX.pure 14 #[true, true, true, true, true, true, true, true, true, true, true, true, true, true, true, false, false] rfl (by kernel_rfl) (fun _ _ => Y.assign (.pl rfl)) rfl ?_
          refine WX.pure 15 #[true, true, true, true, true, true, true, true, true, true, true, true, true, true, true, true, false] rfl (by kernel_rfl) (fun _ _ => Y.assign (.pl rfl)) rfl ?_
          refine WX.stop #[true, true, true, true, true, true, true, true, true, true, true, true, true, true, true, true, true] (fun wz hw => St.tail [_] hw) rfl (by kernel_rfl) (WO.q (Y.assign (.pl rfl)) rfl ?_)
          refine WA.done (by kernel_rfl) ?_
          exact W.joinAt6 hK12 r22.1 r22.2 0 (blkA A23) A23 c24 (Option.some.inj hF11) (.cons rfl (.cons rfl (.cons rfl (.nil)))) (.nil) (fun wz hw => (St.toV (enc := (eI .i64)) (sz := 1) (A' := A23) (cap' := c24) (ys := r22.1) (fun _ => rfl) hw (i := 0) rfl (fun wz h => h)).pick [0] rfl)
        · replace hF11 := cneg hT14 hF11
          refine bsplit (decide (r18 = 250)) (fun hT15 => ?_) (fun hT15 => ?_)
          · replace hF11 := cpos hT15 hF11
            refine WX.pure 6 #[true, true, true, false, true, true, true, false, false, false, false, false, false, false, false, false, false] rfl (by kernel_rfl) (fun _ _ => Y.fn (f := .method "alibi/object.step") (.cons (Evs.ifE (k := 250) (of_decide_eq_true hT15) rfl (.pl rfl)) (.nil))) rfl ?_
            refine WX.pure 7 #[true, true, true, false, true, true, true, true, false, false, false, false, false, false, false, false, false] rfl (by kernel_rfl) (fun _ _ => Y.nilM nah250_step (.pl rfl)) rfl ?_
            refine WX.pure 8 #[true, true, true, false, true, true, true, true, true, false, false, false, false, false, false, false, false] rfl (by kernel_rfl) (fun _ _ => Y.move (.pl rfl)) rfl ?_
            obtain ⟨hk25, hF11⟩ := ckh hF11
            refine WX.one 3 #[true, true, true, true, true, true, true, true, true, false, false, false, false, false, false, false, false] (fun wz hw => St.tail [] hw) rfl (by kernel_rfl) (WO.callM isGo35 (.cons (.pl rfl) (.nil)) rfl (fun wz hw => slices_Clone_int_int_ok (hk25) wz (hs5.mono hw)) ?_)
            rintro ⟨A26, c27⟩ -
            obtain ⟨r28, hr28, hF11⟩ := bnd hF11
            refine WX.one 9 #[true, true, true, true, true, true, true, true, true, true, false, false, false, false, false, false, false] (fun wz hw => St.tail [_] hw) rfl (by kernel_rfl) (WO.callI (γ := (Option Nat × Option Addr × Nat)) (u := .agg #[]) (v := .agg #[]) (fun g => .tuple #[.slice g.2.1 (r28.1).length g.2.2, .int .i64 r28.2.1, .int .i64 r28.2.2]) (fun g => [cV g.1 (eI .i64) 1 g.2.1 g.2.2 r28.1]) (fun g => True) meth250_step isGo194 (Evs.ifE (k := 250) (of_decide_eq_true hT15) rfl (.pl rfl)) (.cons (.pl rfl) (.cons (.pl rfl) (.cons (.pl rfl) (.nil)))) rfl (fun wz hw => object_queue_step_ok (T := []) (hr28) (hw.pick [0] rfl) ) ?_)
            rintro ⟨o29, A30, c31⟩ -
            refine WX.pure 10 #[true, true, true, true, true, true, true, true, true, true, true, false, false, false, false, false, false] rfl (by kernel_rfl) (fun _ _ => Y.move (.pl rfl)) rfl ?_
            refine WX.pure 11 #[true, true, true, true, true, true, true, true, true, true, true, true, false, false, false, false, false] rfl (by kernel_rfl) (fun _ _ => Y.extract (.pl rfl) rfl) rfl ?_
            refine WX.pure 12 #[true, true, true, true, true, true, true, true, true, true, true, true, true, false, false, false, false] rfl (by kernel_rfl) (fun _ _ => Y.extract (.pl rfl) rfl) rfl ?_
            refine WX.pure 13 #[true, true, true, true, true, true, true, true, true, true, true, true, true, true, false, false, false] rfl (by kernel_rfl) (fun _ _ => Y.extract (.pl rfl) rfl) rfl ?_
            refine WX.pure 14 #[true, true, true, true, true, true, true, true, true, true, true, true, true, true, true, false, false] rfl (by kernel_rfl) (fun _ _ => Y.assign (.pl rfl)) rfl ?_
            refine WX.pure 15 #[true, true, true, true, true, true, true, true, true, true, true, true, true, true, true, true, false] rfl (by kernel_rfl) (fun _ _ => Y.assign (.pl rfl)) rfl ?_
            refine WX.stop #[true, true, true, true, true, true, true, true, true, true, true, true, true, true, true, true, true] (fun wz hw => St.tail [_] hw) rfl (by kernel_rfl) (WO.q (Y.assign (.pl rfl)) rfl ?_)
            refine WA.done (by kernel_rfl) ?_
            exact W.joinAt6 hK12 r28.1 r28.2.1 r28.2.2 o29 A30 c31 (Option.some.inj hF11) (.cons rfl (.cons rfl (.cons rfl (.nil)))) (.nil) (fun wz hw => hw.pick [0] rfl)
          · replace hF11 := cneg hT15 hF11
            refine bsplit (decide (r18 = 251)) (fun hT16 => ?_) (fun hT16 => ?_)
            · replace hF11 := cpos hT16 hF11
              refine WX.pure 6 #[true, true, true, false, true, true, true, false, false, false, false, false, false, false, false, false, false] rfl (by kernel_rfl) (fun _ _ => Y.fn (f := .method "alibi/object.step") (.cons (Evs.ifE (k := 251) (of_decide_eq_true hT16) rfl (.pl rfl)) (.nil))) rfl ?_
              refine WX.pure 7 #[true, true, true, false, true, true, true, true, false, false, false, false, false, false, false, false, false] rfl (by kernel_rfl) (fun _ _ => Y.nilM nah251_step (.pl rfl)) rfl ?_
              refine WX.pure 8 #[true, true, true, false, true, true, true, true, true, false, false, false, false, false, false, false, false] rfl (by kernel_rfl) (fun _ _ => Y.move (.pl rfl)) rfl ?_
              obtain ⟨hk32, hF11⟩ := ckh hF11
              refine WX.one 3 #[true, true, true, true, true, true, true, true, true, false, false, false, false, false, false, false, false] (fun wz hw => St.tail [] hw) rfl (by kernel_rfl) (WO.callM isGo35 (.cons (.pl rfl) (.nil)) rfl (fun wz hw => slices_Clone_int_int_ok (hk32) wz (hs5.mono hw)) ?_)
              rintro ⟨A33, c34⟩ -
              obtain ⟨r35, hr35, hF11⟩ := bnd hF11
              refine WX.one 9 #[true, true, true, true, true, true, true, true, true, true, false, false, false, false, false, false, false] (fun wz hw => St.tail [_] hw) rfl (by kernel_rfl) (WO.callI (γ := (Option Addr × Nat)) (u := .agg #[]) (v := .agg #[]) (fun g => .tuple #[.slice g.1 (r35.1).length g.2, .int .i64 r35.2.1, .int .i64 r35.2.2]) (fun g => [cR (eI .i64) 1 g.1 g.2 3 r35.1]) (fun g => True) meth251_step isGo196 (Evs.ifE (k := 251) (of_decide_eq_true hT16) rfl (.pl rfl)) (.cons (.pl rfl) (.cons (.pl rfl) (.cons (.pl rfl) (.nil)))) rfl (fun wz hw => object_stack_step_ok (T := []) (hr35) (hw.pick [0] rfl) ) ?_)
              rintro ⟨A36, c37⟩ -
              refine WX.pure 10 #[true, true, true, true, true, true, true, true, true, true, true, false, false, false, false, false, false] rfl (by kernel_rfl) (fun _ _ => Y.move (.pl rfl)) rfl ?_
              refine WX.pure 11 #[true, true, true, true, true, true, true, true, true, true, true, true, false, false, false, false, false] rfl (by kernel_rfl) (fun _ _ => Y.extract (.pl rfl) rfl) rfl ?_
              refine WX.pure 12 #[true, true, true, true, true, true, true, true, true, true, true, true, true, false, false, false, false] rfl (by kernel_rfl) (fun _ _ => Y.extract (.pl rfl) rfl) rfl ?_
              refine WX.pure 13 #[true, true, true, true, true, true, true, true, true, true, true, true, true, true, false, false, false] rfl (by kernel_rfl) (fun _ _ => Y.extract (.pl rfl) rfl) rfl ?_
              refine WX.pure 14 #[true, true, true, true, true, true, true, true, true, true, true, true, true, true, true, false, false] rfl (by kernel_rfl) (fun _ _ => Y.assign (.pl rfl)) rfl ?_
              refine WX.pure 15 #[true, true, true, true, true, true, true, true, true, true, true, true, true, true, true, true, false] rfl (by kernel_rfl) (fun _ _ => Y.assign (.pl rfl)) rfl ?_
              refine WX.stop #[true, true, true, true, true, true, true, true, true, true, true, true, true, true, true, true, true] (fun wz hw => St.tail [_] hw) rfl (by kernel_rfl) (WO.q (Y.assign (.pl rfl)) rfl ?_)
              refine WA.done (by kernel_rfl) ?_
              exact W.joinAt6 hK12 r35.1 r35.2.1 r35.2.2 (blkA A36) A36 c37 (Option.some.inj hF11) (.cons rfl (.cons rfl (.cons rfl (.nil)))) (.nil) (fun wz hw => (St.toV (enc := (eI .i64)) (sz := 1) (A' := A36) (cap' := c37) (ys := r35.1) (fun _ => rfl) hw (i := 0) rfl (fun wz h => h)).pick [0] rfl)
            · replace hF11 := cneg hT16 hF11
              refine bsplit (decide (r18 = 252)) (fun hT17 => ?_) (fun hT17 => ?_)
              · replace hF11 := cpos hT17 hF11
                refine WX.pure 6 #[true, true, true, false, true, true, true, false, false, false, false, false, false, false, false, false, false] rfl (by kernel_rfl) (fun _ _ => Y.fn (f := .method "alibi/object.step") (.cons (Evs.ifE (k := 252) (of_decide_eq_true hT17) rfl (.pl rfl)) (.nil))) rfl ?_
                refine WX.pure 7 #[true, true, true, false, true, true, true, true, false, false, false, false, false, false, false, false, false] rfl (by kernel_rfl) (fun _ _ => Y.nilM nah252_step (.pl rfl)) rfl ?_
                refine WX.pure 8 #[true, true, true, false, true, true, true, true, true, false, false, false, false, false, false, false, false] rfl (by kernel_rfl) (fun _ _ => Y.move (.pl rfl)) rfl ?_
                obtain ⟨hk38, hF11⟩ := ckh hF11
                refine WX.one 3 #[true, true, true, true, true, true, true, true, true, false, false, false, false, false, false, false, false] (fun wz hw => St.tail [] hw) rfl (by kernel_rfl) (WO.callM isGo35 (.cons (.pl rfl) (.nil)) rfl (fun wz hw => slices_Clone_int_int_ok (hk38) wz (hs5.mono hw)) ?_)
                rintro ⟨A39, c40⟩ -
                obtain ⟨r41, hr41, hF11⟩ := bnd hF11
                refine WX.one 9 #[true, true, true, true, true, true, true, true, true, true, false, false, false, false, false, false, false] (fun wz hw => St.tail [_] hw) rfl (by kernel_rfl) (WO.callI (γ := (Option Addr × Nat)) (u := .agg #[]) (v := .agg #[]) (fun g => .tuple #[.slice g.1 (r41.1).length g.2, .int .i64 r41.2.1, .int .i64 r41.2.2]) (fun g => [cR (eI .i64) 1 g.1 g.2 3 r41.1]) (fun g => True) meth252_step isGo197 (Evs.ifE (k := 252) (of_decide_eq_true hT17) rfl (.pl rfl)) (.cons (.pl rfl) (.cons (.pl rfl) (.cons (.pl rfl) (.nil)))) rfl (fun wz hw => object_set_step_ok (T := []) (hr41) (hw.pick [0] rfl) ) ?_)
                rintro ⟨A42, c43⟩ -
                refine WX.pure 10 #[true, true, true, true, true, true, true, true, true, true, true, false, false, false, false, false, false] rfl (by kernel_rfl) (fun _ _ => Y.move (.pl rfl)) rfl ?_
                refine WX.pure 11 #[true, true, true, true, true, true, true, true, true, true, true, true, false, false, false, false, false] rfl (by kernel_rfl) (fun _ _ => Y.extract (.pl rfl) rfl) rfl ?_
                refine WX.pure 12 #[true, true, true, true, true, true, true, true, true, true, true, true, true, false, false, false, false] rfl (by kernel_rfl) (fun _ _ => Y.extract (.pl rfl) rfl) rfl ?_
                refine WX.pure 13 #[true, true, true, true, true, true, true, true, true, true, true, true, true, true, false, false, false] rfl (by kernel_rfl) (fun _ _ => Y.extract (.pl rfl) rfl) rfl ?_
                refine WX.pure 14 #[true, true, true, true, true, true, true, true, true, true, true, true, true, true, true, false, false] rfl (by kernel_rfl) (fun _ _ => Y.assign (.pl rfl)) rfl ?_
                refine WX.pure 15 #[true, true, true, true, true, true, true, true, true, true, true, true, true, true, true, true, false] rfl (by kernel_rfl) (fun _ _ => Y.assign (.pl rfl)) rfl ?_
                refine WX.stop #[true, true, true, true, true, true, true, true, true, true, true, true, true, true, true, true, true] (fun wz hw => St.tail [_] hw) rfl (by kernel_rfl) (WO.q (Y.assign (.pl rfl)) rfl ?_)
                refine WA.done (by kernel_rfl) ?_
                exact W.joinAt6 hK12 r41.1 r41.2.1 r41.2.2 (blkA A42) A42 c43 (Option.some.inj hF11) (.cons rfl (.cons rfl (.cons rfl (.nil)))) (.nil) (fun wz hw => (St.toV (enc := (eI .i64)) (sz := 1) (A' := A42) (cap' := c43) (ys := r41.1) (fun _ => rfl) hw (i := 0) rfl (fun wz h => h)).pick [0] rfl)
              · replace hF11 := cneg hT17 hF11
                refine bsplit (decide (r18 = 253)) (fun hT18 => ?_) (fun hT18 => ?_)
                · replace hF11 := cpos hT18 hF11
                  refine WX.pure 6 #[true, true, true, false, true, true, true, false, false, false, false, false, false, false, false, false, false] rfl (by kernel_rfl) (fun _ _ => Y.fn (f := .method "alibi/object.step") (.cons (Evs.ifE (k := 253) (of_decide_eq_true hT18) rfl (.pl rfl)) (.nil))) rfl ?_
                  refine WX.pure 7 #[true, true, true, false, true, true, true, true, false, false, false, false, false, false, false, false, false] rfl (by kernel_rfl) (fun _ _ => Y.nilM nah253_step (.pl rfl)) rfl ?_
                  refine WX.pure 8 #[true, true, true, false, true, true, true, true, true, false, false, false, false, false, false, false, false] rfl (by kernel_rfl) (fun _ _ => Y.move (.pl rfl)) rfl ?_
                  obtain ⟨hk44, hF11⟩ := ckh hF11
                  refine WX.one 3 #[true, true, true, true, true, true, true, true, true, false, false, false, false, false, false, false, false] (fun wz hw => St.tail [] hw) rfl (by kernel_rfl) (WO.callM isGo35 (.cons (.pl rfl) (.nil)) rfl (fun wz hw => slices_Clone_int_int_ok (hk44) wz (hs5.mono hw)) ?_)
                  rintro ⟨A45, c46⟩ -
                  obtain ⟨r47, hr47, hF11⟩ := bnd hF11
                  refine WX.one 9 #[true, true, true, true, true, true, true, true, true, true, false, false, false, false, false, false, false] (fun wz hw => St.tail [_] hw) rfl (by kernel_rfl) (WO.callI (γ := (Option Addr × Nat)) (u := .agg #[]) (v := .agg #[]) (fun g => .tuple #[.slice g.1 (r47.1).length g.2, .int .i64 r47.2.1, .int .i64 r47.2.2]) (fun g => [cR (eI .i64) 1 g.1 g.2 3 r47.1, cR (eI .i64) 1 A45 c46 3 s2]) (fun g => True) meth253_step isGo208 (Evs.ifE (k := 253) (of_decide_eq_true hT18) rfl (.pl rfl)) (.cons (.pl rfl) (.cons (.pl rfl) (.cons (.pl rfl) (.nil)))) rfl (fun wz hw => (object_ticket_step_ok (hr47) wz (SlIn.ofRow (fun _ => rfl) hw (i := 0) rfl)).calls hw) ?_)
                  rintro ⟨A48, c49⟩ -
                  refine WX.pure 10 #[true, true, true, true, true, true, true, true, true, true, true, false, false, false, false, false, false] rfl (by kernel_rfl) (fun _ _ => Y.move (.pl rfl)) rfl ?_
                  refine WX.pure 11 #[true, true, true, true, true, true, true, true, true, true, true, true, false, false, false, false, false] rfl (by kernel_rfl) (fun _ _ => Y.extract (.pl rfl) rfl) rfl ?_
                  refine WX.pure 12 #[true, true, true, true, true, true, true, true, true, true, true, true, true, false, false, false, false] rfl (by kernel_rfl) (fun _ _ => Y.extract (.pl rfl) rfl) rfl ?_
                  refine WX.pure 13 #[true, true, true, true, true, true, true, true, true, true, true, true, true, true, false, false, false] rfl (by kernel_rfl) (fun _ _ => Y.extract (.pl rfl) rfl) rfl ?_
                  refine WX.pure 14 #[true, true, true, true, true, true, true, true, true, true, true, true, true, true, true, false, false] rfl (by kernel_rfl) (fun _ _ => Y.assign (.pl rfl)) rfl ?_
                  refine WX.pure 15 #[true, true, true, true, true, true, true, true, true, true, true, true, true, true, true, true, false] rfl (by kernel_rfl) (fun _ _ => Y.assign (.pl rfl)) rfl ?_
                  refine WX.stop #[true, true, true, true, true, true, true, true, true, true, true, true, true, true, true, true, true] (fun wz hw => St.tail [_, _] hw) rfl (by kernel_rfl) (WO.q (Y.assign (.pl rfl)) rfl ?_)
                  refine WA.done (by kernel_rfl) ?_
                  exact W.joinAt6 hK12 r47.1 r47.2.1 r47.2.2 (blkA A48) A48 c49 (Option.some.inj hF11) (.cons rfl (.cons rfl (.cons rfl (.nil)))) (.nil) (fun wz hw => (St.toV (enc := (eI .i64)) (sz := 1) (A' := A48) (cap' := c49) (ys := r47.1) (fun _ => rfl) hw (i := 0) rfl (fun wz h => h)).pick [0] rfl)
                · replace hF11 := cneg hT18 hF11
                  exact nomatch hF11
      · -- behind
        rintro next15 res16 e17 o12 A13 c14 rfl
        -- region 7: object.go:160
        refine W.seqR fun Q19 hQ19 => ?_
        refine WL.q (Y.move (.pl rfl)) rfl ?_
        obtain ⟨hk50, hF⟩ := ckh hF
        refine WL.step (WO.callM isGo35 (.cons (.pl rfl) (.nil)) rfl (fun wz hw => slices_Clone_int_int_ok (hk50) wz (SlIn.ofV (enc := (eI .i64)) (sz := 1) hw (i := 0) rfl)) ?_)
        rintro ⟨A51, c52⟩ -
        refine WL.q (Y.move (.pl rfl)) rfl ?_
        refine WL.q (Y.move (.pl rfl)) rfl ?_
        refine WL.q (Y.assign (.pl rfl)) rfl ?_
        refine WL.q (Y.assign (.pl rfl)) rfl ?_
        refine WL.q (Y.assign (.pl rfl)) rfl ?_
        refine WL.next hQ19 (.cons (i := 8) rfl (.cons (i := 9) rfl (.cons (i := 10) rfl (.nil)))) ?_
        obtain rfl := Option.some.inj hF
        refine W.retV (fn := Try.f110) (vs := [.slice A51 (next15).length c52, .int .i64 res16, .int .i64 e17]) Try.results110 ⟨.tmp rfl, ⟨.tmp rfl, ⟨.tmp rfl, trivial⟩⟩⟩ (fun _ _ h => h) (fun wz hw => ?_)
        exact hR _ _ ⟨(A51, c52), trivial, rfl, (hw.pick [0] rfl)⟩

def search_finder_place (N : Nat) (self : (List Int) → (List Call) → Rel → (List (List Int)) → Int → (List Step) → (List (ByteArray × Bool)) → Option ((List (List Int)) × Int × (List Step) × (List (ByteArray × Bool)) × Bool)) (types2 : (List Int)) (calls6 : (List Call)) (ahead10 : Rel) (states13 : (List (List Int))) (placed15 : Int) (out18 : (List Step)) (failed20 : (List (ByteArray × Bool))) (i21 : Int) : Option ((List (List Int)) × Int × (List Step) × (List (ByteArray × Bool)) × Bool) :=
  bd (ix calls6 i21) fun (x22 : Call) =>
  bd ((cond ((decide ((bandI .u16 (shrI .u16 placed15 (IntKind.u64.wrap i21)) 1) = 1)) == false) (ax 12 0 ahead10.after i21) (some 0))) fun (x24 : Int) =>
  cond ((decide ((bandI .u16 (shrI .u16 placed15 (IntKind.u64.wrap i21)) 1) = 1)) || (!(decide ((bandI .u16 x24 placed15) = 0))))
    (some (states13, placed15, out18, failed20, false))
    (bd (ix states13 x22.thing) fun (x25 : (List Int)) =>
    bd (ix types2 x22.thing) fun (x26 : Int) =>
    bd (object_Step N x26 x25 x22.kind x22.arg) fun (r27 : ((List Int) × Int × Int)) =>
    cond ((!(decide (r27.2.2 = 0))) || ((!(decide (x22.to_ = (-1)))) && (!(decide (r27.2.1 = x22.res)))))
      (some (states13, placed15, out18, failed20, false))
      (ck (limB 16 ((out18).length + (([(Step.mk i21 r27.2.1)] : List Step)).length)) <|
      bd (self types2 calls6 ahead10 (states13.set x22.thing.toNat r27.1) (borI .u16 placed15 (shlI .u16 1 (IntKind.u64.wrap i21))) (out18 ++ ([(Step.mk i21 r27.2.1)] : List Step)) failed20) fun (r34 : ((List (List Int)) × Int × (List Step) × (List (ByteArray × Bool)) × Bool)) =>
      cond r34.2.2.2.2
        (some (r34.1, r34.2.1, r34.2.2.1, r34.2.2.2.1, true))
        (bd (ix r34.1 x22.thing) fun (x38 : (List Int)) =>
        ck (ok64 (((r34.2.2.1).length : Int) - 1)) <|
        ck (slB (r34.2.2.1).length 0 (((r34.2.2.1).length : Int) - 1)) <|
        some ((r34.1.set x22.thing.toNat x25), (bclrI .u16 r34.2.1 (shlI .u16 1 (IntKind.u64.wrap i21))), (r34.2.2.1.take (((r34.2.2.1).length : Int) - 1).toNat), r34.2.2.2.1, false))))

theorem search_finder_place_ok {N : Nat} {self : (List Int) → (List Call) → Rel → (List (List Int)) → Int → (List Step) → (List (ByteArray × Bool)) → Option ((List (List Int)) × Int × (List Step) × (List (ByteArray × Bool)) × Bool)} (ih : ∀ {types2 : (List Int)} {calls6 : (List Call)} {ahead10 : Rel} {states13 : (List (List Int))} {placed15 : Int} {out18 : (List Step)} {failed20 : (List (ByteArray × Bool))} {b1 : Nat} {A3 : Option Addr} {c4 : Nat} {A7 : Option Addr} {c8 : Nat} {A11 : Option Addr} {c12 : Nat} {hd14 : List Hd} {A16 : Option Addr} {c17 : Nat} {b19 : Nat} {res : ((List (List Int)) × Int × (List Step) × (List (ByteArray × Bool)) × Bool)} (hF : self types2 calls6 ahead10 states13 placed15 out18 failed20 = some res) {w0 w : World} {T : List Chunk} (hw : St w0.heap.size w0 ([cBx b1 183 (Value.slice A3 (types2).length c4 :: (Value.slice A7 (calls6).length c8 :: ((encRel ahead10) ++ (Value.slice A11 (states13).length c12 :: (Value.int .u16 placed15 :: (Value.slice A16 (out18).length c17 :: (Value.map (some b19) :: []))))))), cN encSl (innSl (eI .i64) 1 3) 1 A11 c12 47 hd14 states13, cR encStep 2 A16 c17 77 out18, cMS Value.bool (some b19) failed20] ++ T) w) (hs5 : SlIn (eI .i64) 1 w0 (.slice A3 (types2).length c4) types2) (hs9 : SlIn encCall 7 w0 (.slice A7 (calls6).length c8) calls6), Calls Try.prog 94 (List.toArray [.pointer (some ⟨b1, 0, none⟩)]) w (fun e w' => ∃ g : (List Hd × Option Addr × Nat), (True) ∧ e = .returned (.bool res.2.2.2.2) ∧ St w0.heap.size w0 ([cBx b1 183 (Value.slice A3 (types2).length c4 :: (Value.slice A7 (calls6).length c8 :: ((encRel ahead10) ++ (Value.slice A11 (res.1).length c12 :: (Value.int .u16 res.2.1 :: (Value.slice g.2.1 (res.2.2.1).length g.2.2 :: (Value.map (some b19) :: []))))))), cN encSl (innSl (eI .i64) 1 3) 1 A11 c12 47 g.1 res.1, cR encStep 2 g.2.1 g.2.2 77 res.2.2.1, cMS Value.bool (some b19) res.2.2.2.1] ++ T) w')) {types2 : (List Int)} {calls6 : (List Call)} {ahead10 : Rel} {states13 : (List (List Int))} {placed15 : Int} {out18 : (List Step)} {failed20 : (List (ByteArray × Bool))} {i21 : Int} {b1 : Nat} {A3 : Option Addr} {c4 : Nat} {A7 : Option Addr} {c8 : Nat} {A11 : Option Addr} {c12 : Nat} {hd14 : List Hd} {A16 : Option Addr} {c17 : Nat} {b19 : Nat} {res : ((List (List Int)) × Int × (List Step) × (List (ByteArray × Bool)) × Bool)} (hF : search_finder_place N self types2 calls6 ahead10 states13 placed15 out18 failed20 i21 = some res) {w0 w : World} {T : List Chunk} (hw : St w0.heap.size w0 ([cBx b1 183 (Value.slice A3 (types2).length c4 :: (Value.slice A7 (calls6).length c8 :: ((encRel ahead10) ++ (Value.slice A11 (states13).length c12 :: (Value.int .u16 placed15 :: (Value.slice A16 (out18).length c17 :: (Value.map (some b19) :: []))))))), cN encSl (innSl (eI .i64) 1 3) 1 A11 c12 47 hd14 states13, cR encStep 2 A16 c17 77 out18, cMS Value.bool (some b19) failed20] ++ T) w) (hs5 : SlIn (eI .i64) 1 w0 (.slice A3 (types2).length c4) types2) (hs9 : SlIn encCall 7 w0 (.slice A7 (calls6).length c8) calls6) :
    Calls Try.prog 127 (List.toArray [.pointer (some ⟨b1, 0, none⟩), .int .i64 i21]) w (fun e w' => ∃ g : (List Hd × Option Addr × Nat), (True) ∧ e = .returned (.bool res.2.2.2.2) ∧ St w0.heap.size w0 ([cBx b1 183 (Value.slice A3 (types2).length c4 :: (Value.slice A7 (calls6).length c8 :: ((encRel ahead10) ++ (Value.slice A11 (res.1).length c12 :: (Value.int .u16 res.2.1 :: (Value.slice g.2.1 (res.2.2.1).length g.2.2 :: (Value.map (some b19) :: []))))))), cN encSl (innSl (eI .i64) 1 3) 1 A11 c12 47 g.1 res.1, cR encStep 2 g.2.1 g.2.2 77 res.2.2.1, cMS Value.bool (some b19) res.2.2.2.1] ++ T) w') := by
  refine W.enter (n := 144) Try.func127 rfl rfl Sub.refl (by simp) hw fun R hR => ?_
  unfold search_finder_place at hF
  -- region 0: search.go:86
  refine W.seqR fun Q1 hQ1 => ?_
  refine WL.q (Y.assign (.pl rfl)) rfl ?_
  refine WL.next hQ1 (.cons (i := 0) rfl (.cons (i := 1) rfl (.nil))) ?_
  -- region 1: search.go:87
  refine W.seqR fun Q2 hQ2 => ?_
  refine WL.q (Y.move (.pl rfl)) rfl ?_
  refine WL.q (Y.nilCheck (.pl rfl)) rfl ?_
  refine WL.q (Y.fieldAddr0 (off := 1) (ft := 44) Try.underlying183 rfl cells44 (.pl rfl)) rfl ?_
  refine WL.q (Y.loadB (v := .slice A7 (calls6).length c8) Try.underlying44 rfl (.pl rfl) (i := 0) rfl (rfl)) rfl ?_
  refine WL.q (Y.move (.pl rfl)) rfl ?_
  obtain ⟨x22, hx22, hF⟩ := bnd hF
  refine WL.q (Y.slEl Try.underlying44 cells51 hs9 (.pl rfl) (.pl rfl) (ix_lt (hx22))) rfl ?_
  refine WL.q (Y.loadSA (enc := encCall) (ds := (encCall x22)) (j := 0) Try.underlying51 rfl cells51 hs9 (.pl rfl) (hx22) rfl rfl subW) rfl ?_
  refine WL.step (WO.alloc (cs := (encCall (Call.mk 0 0 0 0 0 0 0)).toArray) zero51 rfl rfl fun b23 => ?_)
  refine WL.step (WO.storeBA (ds := (encCall x22)) (cs' := (encCall x22)) cells51 (.pl rfl) (.pl rfl) rfl (oneCall _) (i := 0) rfl (lel (o := 0) (l := 7) (m := 7) (by decide) rfl rfl) (putW rfl) ?_)
  refine WL.next hQ2 (.cons (i := 0) rfl (.cons (i := 1) rfl (.cons (i := 5) rfl (.nil)))) ?_
  refine W.seq fun K3 hK3 => ?_
  -- region 2: search.go:88
  refine W.seqD (by kernel_rfl) (by kernel_rfl) fun R4 hR4 => ?_
  refine WD.q (Y.move (.pl rfl)) rfl ?_
  refine WD.q (Y.nilCheck (.pl rfl)) rfl ?_
  refine WD.q (Y.fieldAddr0 (off := 16) (ft := 112) Try.underlying183 rfl cells112 (.pl rfl)) rfl ?_
  refine WD.q (Y.loadB (v := .int .u16 placed15) Try.underlying112 rfl (.pl rfl) (i := 1) rfl (rfl)) rfl ?_
  refine WD.q (Y.move (.pl rfl)) rfl ?_
  refine WD.q (Y.conv Try.underlying3 Try.underlying179 (.pl rfl)) rfl ?_
  refine WD.q (Y.shr (.pl rfl) (.pl rfl) (wrapU_nn rfl _)) rfl ?_
  refine WD.q (Y.band (.pl rfl) (.pl rfl)) rfl ?_
  refine WD.q (Y.eql (.pl rfl) (.pl rfl)) rfl ?_
  refine WD.q (Y.move (.pl rfl)) rfl ?_
  refine WD.g (.pl rfl rfl rfl) (fun hg => Y.move (.pl rfl)) rfl ?_
  refine WD.g (.pl rfl rfl rfl) (fun hg => Y.move (.pl rfl)) rfl ?_
  refine WD.g (.pl rfl rfl rfl) (fun hg => Y.nilCheck (.gd (hg) rfl)) rfl ?_
  refine WD.g (.pl rfl rfl rfl) (fun hg => Y.fieldAddr0 (off := 2) (ft := 115) Try.underlying183 rfl cells115 (.gd (hg) rfl)) rfl ?_
  refine WD.g (.pl rfl rfl rfl) (fun hg => Y.fieldAddr (off := 1) (ft := 113) Try.underlying115 rfl cells113 (.gd (hg) rfl)) rfl ?_
  obtain ⟨x24, hx24, hF⟩ := bnd hF
  refine WD.g (.pl rfl rfl rfl) (fun hg => Y.arrZ Try.underlying113 cells112 (.gd (hg) rfl) (.gd (hg) rfl) (ax_lt (gpos hg hx24))) rfl ?_
  refine WD.g (.pl rfl rfl rfl) (fun hg => Y.loadB (v := .int .u16 x24) Try.underlying112 rfl (.gd (hg) rfl) (i := 1) rfl (cellsA (pre := (Value.slice A3 (types2).length c4 :: (Value.slice A7 (calls6).length c8 :: (Value.int .i64 ahead10.n :: [])))) (off := 3) (post := (Value.slice A11 (states13).length c12 :: (Value.int .u16 placed15 :: (Value.slice A16 (out18).length c17 :: (Value.map (some b19) :: []))))) (a := ahead10.after) (enc := (eI .u16)) (d := 0) (n := 12) (sz := 1) (j := 0) (fun _ => rfl) rfl (ax_nat (gpos hg hx24)) (ax_get (gpos hg hx24)) rfl)) rfl ?_
  refine WD.g (.pl rfl rfl rfl) (fun hg => Y.move (.pl rfl)) rfl ?_
  refine WD.g (.pl rfl rfl rfl) (fun hg => Y.nilCheck (.gd (hg) rfl)) rfl ?_
  refine WD.g (.pl rfl rfl rfl) (fun hg => Y.fieldAddr0 (off := 16) (ft := 112) Try.underlying183 rfl cells112 (.gd (hg) rfl)) rfl ?_
  refine WD.g (.pl rfl rfl rfl) (fun hg => Y.loadB (v := .int .u16 placed15) Try.underlying112 rfl (.gd (hg) rfl) (i := 1) rfl (rfl)) rfl ?_
  refine WD.g (.pl rfl rfl rfl) (fun hg => Y.band (.gd (hg) rfl) (.gd (hg) rfl)) rfl ?_
  refine WD.g (.pl rfl rfl rfl) (fun hg => Y.neq (.gd (hg) rfl) (.pl rfl)) rfl ?_
  refine WD.q (Y.or (.pl rfl) (fun h2 => .gd (eqf h2) rfl)) rfl ?_
  refine WD.next hR4 (.cons (i := 0) rfl (.cons (i := 1) rfl (.cons (i := 5) rfl (.cons (i := 40) rfl (.nil))))) ?_
  refine W.cond (.pl rfl) (fun hC5 => ?_) (fun hC5 => ?_)
  · replace hF := cpos hC5 hF
    -- region 3: search.go:89
    refine W.seqR fun Q6 hQ6 => ?_
    refine WL.q (Y.assign (.pl rfl)) rfl ?_
    refine WL.next hQ6 (.cons (i := 4) rfl (.nil)) ?_
    obtain rfl := Option.some.inj hF
    refine W.retV (fn := Try.f127) (vs := [.bool false]) Try.results127 ⟨.tmp rfl, trivial⟩ (fun _ _ h => h) (fun wz hw => ?_)
    exact hR _ _ ⟨(hd14, A16, c17), trivial, rfl, (hw.pickK 5 [1, 2, 3, 4] rfl)⟩
  · replace hF := cneg hC5 hF
    refine W.skip ?_
    refine W.go hK3 (.cons (i := 0) rfl (.cons (i := 1) rfl (.cons (i := 5) rfl (.nil)))) ?_
    -- region 4: search.go:91
    refine W.seqD (by kernel_rfl) (by kernel_rfl) fun R7 hR7 => ?_
    refine WD.q (Y.move (.pl rfl)) rfl ?_
    refine WD.q (Y.nilCheck (.pl rfl)) rfl ?_
    refine WD.q (Y.fieldAddr0 (off := 15) (ft := 142) Try.underlying183 rfl cells142 (.pl rfl)) rfl ?_
    refine WD.q (Y.loadB (v := .slice A11 (states13).length c12) Try.underlying142 rfl (.pl rfl) (i := 1) rfl (rfl)) rfl ?_
    refine WD.q (Y.fieldAddr0 (off := 1) (ft := 3) Try.underlying51 rfl cells3 (.pl rfl)) rfl ?_
    refine WD.q (Y.loadB (v := .int .i64 x22.thing) Try.underlying3 rfl (.pl rfl) (i := 0) rfl (rfl)) rfl ?_
    obtain ⟨x25, hx25, hF⟩ := bnd hF
    refine WD.q (Y.nEl Try.underlying142 cells47 (i := 2) rfl (.pl rfl) rfl (.pl rfl) (ix_lt (hx25))) rfl ?_
    refine WD.q (Y.loadN (enc := encSl) (h0 := ((none, 0) : Hd)) (v := .slice (hd14.getD x22.thing.toNat ((none, 0) : Hd)).1 (x25).length (hd14.getD x22.thing.toNat ((none, 0) : Hd)).2) (a := x25) (idx := x22.thing) (j := 0) Try.underlying47 rfl lenSl (i := 2) rfl (.pl rfl) (ix_get (hx25)) rfl rfl) rfl ?_
    refine WD.q (Y.assign (.pl rfl)) rfl ?_
    refine WD.next hR7 (.cons (i := 0) rfl (.cons (i := 1) rfl (.cons (i := 5) rfl (.cons (i := 6) rfl (.nil))))) ?_
    -- region 5: search.go:92
    refine W.seqX 20 (by kernel_rfl) fun K8 hK8 => ?_
    refine WX.pure 0 #[true, false, false, false, false, false, false, false, false, false, false, false, false, false, false, false, false, false, false, false, false] rfl (by kernel_rfl) (fun _ _ => Y.move (.pl rfl)) rfl ?_
    refine WX.pure 1 #[true, true, false, false, false, false, false, false, false, false, false, false, false, false, false, false, false, false, false, false, false] rfl (by kernel_rfl) (fun _ _ => Y.nilCheck (.pl rfl)) rfl ?_
    refine WX.pure 2 #[true, true, true, false, false, false, false, false, false, false, false, false, false, false, false, false, false, false, false, false, false] rfl (by kernel_rfl) (fun _ _ => Y.fieldAddr0 (off := 0) (ft := 47) Try.underlying183 rfl cells47 (.pl rfl)) rfl ?_
    refine WX.take 3 #[true, true, true, true, false, false, false, false, false, false, false, false, false, false, false, false, false, false, false, false, false] (fun wz hw => St.tail [] hw) rfl (by kernel_rfl) (Y.loadB (v := .slice A3 (types2).length c4) Try.underlying47 rfl (.pl rfl) (i := 1) rfl (rfl)) rfl ?_
    refine WX.pure 4 #[true, true, true, true, true, false, false, false, false, false, false, false, false, false, false, false, false, false, false, false, false] rfl (by kernel_rfl) (fun _ _ => Y.fieldAddr0 (off := 1) (ft := 3) Try.underlying51 rfl cells3 (.pl rfl)) rfl ?_
    refine WX.take 5 #[true, true, true, true, true, true, false, false, false, false, false, false, false, false, false, false, false, false, false, false, false] (fun wz hw => St.tail [] hw) rfl (by kernel_rfl) (Y.loadB (v := .int .i64 x22.thing) Try.underlying3 rfl (.pl rfl) (i := 0) rfl (rfl)) rfl ?_
    obtain ⟨x26, hx26, hF⟩ := bnd hF
    refine WX.take 6 #[true, true, true, true, true, true, true, false, false, false, false, false, false, false, false, false, false, false, false, false, false] (fun wz hw => St.tail [] hw) rfl (by kernel_rfl) (Y.slEl Try.underlying47 cells3 hs5 (.pl rfl) (.pl rfl) (ix_lt (hx26))) rfl ?_
    refine WX.take 7 #[true, true, true, true, true, true, true, true, false, false, false, false, false, false, false, false, false, false, false, false, false] (fun wz hw => St.tail [] hw) rfl (by kernel_rfl) (Y.loadS (enc := (eI .i64)) (v := .int .i64 x26) (j := 0) Try.underlying3 rfl hs5 (.pl rfl) (hx26) rfl rfl) rfl ?_
    refine WX.pure 8 #[true, true, true, true, true, true, true, true, true, false, false, false, false, false, false, false, false, false, false, false, false] rfl (by kernel_rfl) (fun _ _ => Y.move (.pl rfl)) rfl ?_
    refine WX.pure 9 #[true, true, true, true, true, true, true, true, true, true, false, false, false, false, false, false, false, false, false, false, false] rfl (by kernel_rfl) (fun _ _ => Y.fieldAddr0 (off := 2) (ft := 3) Try.underlying51 rfl cells3 (.pl rfl)) rfl ?_
    refine WX.take 10 #[true, true, true, true, true, true, true, true, true, true, true, false, false, false, false, false, false, false, false, false, false] (fun wz hw => St.tail [] hw) rfl (by kernel_rfl) (Y.loadB (v := .int .i64 x22.kind) Try.underlying3 rfl (.pl rfl) (i := 0) rfl (rfl)) rfl ?_
    refine WX.pure 11 #[true, true, true, true, true, true, true, true, true, true, true, true, false, false, false, false, false, false, false, false, false] rfl (by kernel_rfl) (fun _ _ => Y.fieldAddr0 (off := 3) (ft := 3) Try.underlying51 rfl cells3 (.pl rfl)) rfl ?_
    refine WX.take 12 #[true, true, true, true, true, true, true, true, true, true, true, true, true, false, false, false, false, false, false, false, false] (fun wz hw => St.tail [] hw) rfl (by kernel_rfl) (Y.loadB (v := .int .i64 x22.arg) Try.underlying3 rfl (.pl rfl) (i := 0) rfl (rfl)) rfl ?_
    obtain ⟨r27, hr27, hF⟩ := bnd hF
    refine WX.one 13 #[true, true, true, true, true, true, true, true, true, true, true, true, true, true, false, false, false, false, false, false, false] (fun wz hw => St.tail [] hw) rfl (by kernel_rfl) (WO.callM isGo110 (.cons (.pl rfl) (.cons (.pl rfl) (.cons (.pl rfl) (.cons (.pl rfl) (.nil))))) rfl (fun wz hw => object_Step_ok (hr27) wz (SlIn.inN (enc2 := (eI .i64)) (sz2 := 1) (E2 := 3) (h0 := ((none, 0) : Hd)) (fun _ => rfl) hw (i := 2) rfl (hx25) (.head _))) ?_)
    rintro ⟨A28, c29⟩ -
    refine WX.pure 14 #[true, true, true, true, true, true, true, true, true, true, true, true, true, true, true, false, false, false, false, false, false] rfl (by kernel_rfl) (fun _ _ => Y.move (.pl rfl)) rfl ?_
    refine WX.pure 15 #[true, true, true, true, true, true, true, true, true, true, true, true, true, true, true, true, false, false, false, false, false] rfl (by kernel_rfl) (fun _ _ => Y.extract (.pl rfl) rfl) rfl ?_
    refine WX.pure 16 #[true, true, true, true, true, true, true, true, true, true, true, true, true, true, true, true, true, false, false, false, false] rfl (by kernel_rfl) (fun _ _ => Y.extract (.pl rfl) rfl) rfl ?_
    refine WX.pure 17 #[true, true, true, true, true, true, true, true, true, true, true, true, true, true, true, true, true, true, false, false, false] rfl (by kernel_rfl) (fun _ _ => Y.extract (.pl rfl) rfl) rfl ?_
    refine WX.pure 18 #[true, true, true, true, true, true, true, true, true, true, true, true, true, true, true, true, true, true, true, false, false] rfl (by kernel_rfl) (fun _ _ => Y.assign (.pl rfl)) rfl ?_
    refine WX.pure 19 #[true, true, true, true, true, true, true, true, true, true, true, true, true, true, true, true, true, true, true, true, false] rfl (by kernel_rfl) (fun _ _ => Y.assign (.pl rfl)) rfl ?_
    refine WX.stop #[true, true, true, true, true, true, true, true, true, true, true, true, true, true, true, true, true, true, true, true, true] (fun wz hw => St.tail [_] hw) rfl (by kernel_rfl) (WO.q (Y.assign (.pl rfl)) rfl ?_)
    refine WA.done (by kernel_rfl) ?_
    refine KK.next hK8 (.cons (i := 0) rfl (.cons (i := 1) rfl (.cons (i := 5) rfl (.cons (i := 6) rfl (.cons (i := 7) rfl (.cons (i := 8) rfl (.cons (i := 9) rfl (.nil)))))))) ?_
    refine W.seq fun K9 hK9 => ?_
    -- region 6: search.go:93
    refine W.seqR fun Q10 hQ10 => ?_
    refine WL.q (Y.move (.pl rfl)) rfl ?_
    refine WL.q (Y.neq (.pl rfl) (.pl rfl)) rfl ?_
    refine WL.q (Y.move (.pl rfl)) rfl ?_
    refine WL.g (.pl rfl rfl rfl) (fun hg => Y.fieldAddr0 (off := 6) (ft := 3) Try.underlying51 rfl cells3 (.pl rfl)) rfl ?_
    refine WL.g (.pl rfl rfl rfl) (fun hg => Y.loadB (v := .int .i64 x22.to_) Try.underlying3 rfl (.gd (hg) rfl) (i := 1) rfl (rfl)) rfl ?_
    refine WL.g (.pl rfl rfl rfl) (fun hg => Y.neq (.gd (hg) rfl) (.pl rfl)) rfl ?_
    refine WL.g (.pl rfl rfl rfl) (fun hg => Y.move (.gd (hg) rfl)) rfl ?_
    refine WL.g (.gd rfl rfl rfl) (fun hg => Y.move (.pl rfl)) rfl ?_
    refine WL.g (.gd rfl rfl rfl) (fun hg => Y.fieldAddr0 (off := 4) (ft := 3) Try.underlying51 rfl cells3 (.pl rfl)) rfl ?_
    refine WL.g (.gd rfl rfl rfl) (fun hg => Y.loadB (v := .int .i64 x22.res) Try.underlying3 rfl (.gd (hg) rfl) (i := 1) rfl (rfl)) rfl ?_
    refine WL.g (.gd rfl rfl rfl) (fun hg => Y.neq (.gd (hg) rfl) (.gd (hg) rfl)) rfl ?_
    refine WL.g (.pl rfl rfl rfl) (fun hg => Y.and (.gd (hg) rfl) (fun h2 => .gd (band hg (eqt h2)) rfl)) rfl ?_
    refine WL.q (Y.or (.pl rfl) (fun h2 => .gd (eqf h2) rfl)) rfl ?_
    refine WL.next hQ10 (.cons (i := 0) rfl (.cons (i := 1) rfl (.cons (i := 5) rfl (.cons (i := 6) rfl (.cons (i := 7) rfl (.cons (i := 8) rfl (.cons (i := 79) rfl (.nil)))))))) ?_
    refine W.cond (.pl rfl) (fun hC11 => ?_) (fun hC11 => ?_)
    · replace hF := cpos hC11 hF
      -- region 7: search.go:94
      refine W.seqR fun Q12 hQ12 => ?_
      refine WL.q (Y.assign (.pl rfl)) rfl ?_
      refine WL.next hQ12 (.cons (i := 4) rfl (.nil)) ?_
      obtain rfl := Option.some.inj hF
      refine W.retV (fn := Try.f127) (vs := [.bool false]) Try.results127 ⟨.tmp rfl, trivial⟩ (fun _ _ h => h) (fun wz hw => ?_)
      exact hR _ _ ⟨(hd14, A16, c17), trivial, rfl, (hw.pickK 6 [2, 3, 4, 5] rfl)⟩
    · replace hF := cneg hC11 hF
      refine W.skip ?_
      refine W.go hK9 (.cons (i := 0) rfl (.cons (i := 1) rfl (.cons (i := 5) rfl (.cons (i := 6) rfl (.cons (i := 7) rfl (.cons (i := 8) rfl (.nil))))))) ?_
      -- region 8: search.go:96
      refine W.seqT 8 (by kernel_rfl) (by kernel_rfl) fun Q13 hQ13 => ?_
      refine WS.q (Y.move (.pl rfl)) rfl ?_
      refine WS.q (Y.nilCheck (.pl rfl)) rfl ?_
      refine WS.q (Y.fieldAddr0 (off := 15) (ft := 142) Try.underlying183 rfl cells142 (.pl rfl)) rfl ?_
      refine WS.q (Y.loadB (v := .slice A11 (states13).length c12) Try.underlying142 rfl (.pl rfl) (i := 2) rfl (rfl)) rfl ?_
      refine WS.q (Y.fieldAddr0 (off := 1) (ft := 3) Try.underlying51 rfl cells3 (.pl rfl)) rfl ?_
      refine WS.q (Y.loadB (v := .int .i64 x22.thing) Try.underlying3 rfl (.pl rfl) (i := 1) rfl (rfl)) rfl ?_
      refine WS.q (Y.move (.pl rfl)) rfl ?_
      refine WS.q (Y.nEl Try.underlying142 cells47 (i := 3) rfl (.pl rfl) rfl (.pl rfl) (ix_lt (hx25))) rfl ?_
      refine WS.tail ?_
      refine WL.ent (Ent.hole (h0 := ((none, 0) : Hd)) (i := 3) rfl (ix_get (hx25))) ?_
      refine WL.step (WO.storeH (enc := encSl) (inn := (innSl (eI .i64) 1 3)) (h0 := ((none, 0) : Hd)) (h' := ((A28, c29) : Hd)) (a := x25) (a' := r27.1) (idx := x22.thing) (j := 0) cells47 (.pl rfl) (.pl rfl) rfl lenSl (i := 1) rfl (ix_get (hx25)) rfl (by decide) rfl (.pickN 6 [1, 0, 2, 3, 4, 5] rfl) ?_)
      refine WL.next hQ13 (.cons (i := 0) rfl (.cons (i := 1) rfl (.cons (i := 5) rfl (.cons (i := 6) rfl (.cons (i := 8) rfl (.nil)))))) ?_
      -- region 9: search.go:97
      refine W.seqR fun Q14 hQ14 => ?_
      refine WL.q (Y.move (.pl rfl)) rfl ?_
      refine WL.q (Y.nilCheck (.pl rfl)) rfl ?_
      refine WL.q (Y.fieldAddr0 (off := 16) (ft := 112) Try.underlying183 rfl cells112 (.pl rfl)) rfl ?_
      refine WL.q (Y.loadB (v := .int .u16 placed15) Try.underlying112 rfl (.pl rfl) (i := 3) rfl (rfl)) rfl ?_
      refine WL.q (Y.move (.pl rfl)) rfl ?_
      refine WL.q (Y.conv Try.underlying3 Try.underlying179 (.pl rfl)) rfl ?_
      refine WL.q (Y.shl (.pl rfl) (.pl rfl) (wrapU_nn rfl _)) rfl ?_
      refine WL.q (Y.bor (.pl rfl) (.pl rfl)) rfl ?_
      refine WL.q (Y.nilCheck (.pl rfl)) rfl ?_
      refine WL.q (Y.fieldAddr0 (off := 16) (ft := 112) Try.underlying183 rfl cells112 (.pl rfl)) rfl ?_
      refine WL.step (WO.storeB (cs' := (Value.slice A3 (types2).length c4 :: (Value.slice A7 (calls6).length c8 :: ((encRel ahead10) ++ (Value.slice A11 (states13).length c12 :: (Value.int .u16 (borI .u16 placed15 (shlI .u16 1 (IntKind.u64.wrap i21))) :: (Value.slice A16 (out18).length c17 :: (Value.map (some b19) :: [])))))))) cells112 (.pl rfl) (.pl rfl) rfl (i := 3) rfl (ltl (m := 19) (by decide) rfl) (rfl) ?_)
      refine WL.next hQ14 (.cons (i := 0) rfl (.cons (i := 1) rfl (.cons (i := 5) rfl (.cons (i := 6) rfl (.cons (i := 8) rfl (.nil)))))) ?_
      -- region 10: search.go:98
      refine W.seqR fun Q15 hQ15 => ?_
      refine WL.q (Y.move (.pl rfl)) rfl ?_
      refine WL.q (Y.move (.pl rfl)) rfl ?_
      refine WL.q (Y.nilCheck (.pl rfl)) rfl ?_
      refine WL.q (Y.fieldAddr0 (off := 17) (ft := 53) Try.underlying183 rfl cells53 (.pl rfl)) rfl ?_
      refine WL.q (Y.loadB (v := .slice A16 (out18).length c17) Try.underlying53 rfl (.pl rfl) (i := 3) rfl (rfl)) rfl ?_
      refine WL.q (Y.move (.pl rfl)) rfl ?_
      refine WL.q (Y.move (.pl rfl)) rfl ?_
      refine WL.q (Y.build (cs := (encStep (Step.mk i21 r27.2.1)).toArray) shape77 (.cons (.pl rfl) (.cons (.pl rfl) (.nil))) (one_parts ⟨rfl, ⟨rfl, trivial⟩⟩) rfl) rfl ?_
      refine WL.step (WO.bsliceC (enc := encStep) (ys := ([(Step.mk i21 r27.2.1)] : List Step)) Try.underlying53 bz77 (.cons (.pl rfl) (.nil)) rfl lenStep rfl rfl (by decide) (by decide) rfl fun b30 => ?_)
      obtain ⟨hk33, hF⟩ := ckh hF
      refine WL.step (WO.appendC (enc := encStep) Try.underlying53 ap77 lenStep oneStep (.pl rfl) rfl (.pl rfl) (i := 5) rfl (m2 := 0) rfl (hk33) rfl fun A31 c32 => ?_)
      refine WL.q (Y.nilCheck (.pl rfl)) rfl ?_
      refine WL.q (Y.fieldAddr0 (off := 17) (ft := 53) Try.underlying183 rfl cells53 (.pl rfl)) rfl ?_
      refine WL.step (WO.storeB (cs' := (Value.slice A3 (types2).length c4 :: (Value.slice A7 (calls6).length c8 :: ((encRel ahead10) ++ (Value.slice A11 (states13).length c12 :: (Value.int .u16 (borI .u16 placed15 (shlI .u16 1 (IntKind.u64.wrap i21))) :: (Value.slice A31 ((out18 ++ ([(Step.mk i21 r27.2.1)] : List Step))).length c32 :: (Value.map (some b19) :: [])))))))) cells53 (.pl rfl) (.pl rfl) rfl (i := 4) rfl (ltl (m := 19) (by decide) rfl) (rfl) ?_)
      refine WL.next hQ15 (.cons (i := 0) rfl (.cons (i := 1) rfl (.cons (i := 5) rfl (.cons (i := 6) rfl (.nil))))) ?_
      refine W.seq fun K16 hK16 => ?_
      -- region 11: search.go:99
      refine W.seqR fun Q17 hQ17 => ?_
      refine WL.q (Y.move (.pl rfl)) rfl ?_
      obtain ⟨r34, hr34, hF⟩ := bnd hF
      refine WL.step (WO.call (γ := (List Hd × Option Addr × Nat)) (fun g => .bool r34.2.2.2.2) (fun g => ([cBx b1 183 (Value.slice A3 (types2).length c4 :: (Value.slice A7 (calls6).length c8 :: ((encRel ahead10) ++ (Value.slice A11 (r34.1).length c12 :: (Value.int .u16 r34.2.1 :: (Value.slice g.2.1 (r34.2.2.1).length g.2.2 :: (Value.map (some b19) :: []))))))), cN encSl (innSl (eI .i64) 1 3) 1 A11 c12 47 g.1 r34.1, cR encStep 2 g.2.1 g.2.2 77 r34.2.2.1, cMS Value.bool (some b19) r34.2.2.2.1, cR encStep 2 (some ⟨b30, 0, none⟩) (([(Step.mk i21 r27.2.1)] : List Step)).length 77 ([(Step.mk i21 r27.2.1)] : List Step), cR (eI .i64) 1 (hd14.getD x22.thing.toNat ((none, 0) : Hd)).1 (hd14.getD x22.thing.toNat ((none, 0) : Hd)).2 3 x25, cBx b23 51 (encCall x22)] ++ T)) (fun g => True) isGo94 (.cons (.pl rfl) (.nil)) rfl (fun wz hw => ih (T := ([cR encStep 2 (some ⟨b30, 0, none⟩) (([(Step.mk i21 r27.2.1)] : List Step)).length 77 ([(Step.mk i21 r27.2.1)] : List Step), cR (eI .i64) 1 (hd14.getD x22.thing.toNat ((none, 0) : Hd)).1 (hd14.getD x22.thing.toNat ((none, 0) : Hd)).2 3 x25, cBx b23 51 (encCall x22)] ++ T)) (b1 := b1) (A3 := A3) (c4 := c4) (A7 := A7) (c8 := c8) (A11 := A11) (c12 := c12) (hd14 := (hd14.set x22.thing.toNat ((A28, c29) : Hd))) (A16 := A31) (c17 := c32) (b19 := b19) (hr34) (St.cong (L := ([cBx b1 183 (Value.slice A3 (types2).length c4 :: (Value.slice A7 (calls6).length c8 :: ((encRel ahead10) ++ (Value.slice A11 (states13).length c12 :: (Value.int .u16 (borI .u16 placed15 (shlI .u16 1 (IntKind.u64.wrap i21))) :: (Value.slice A31 ((out18 ++ ([(Step.mk i21 r27.2.1)] : List Step))).length c32 :: (Value.map (some b19) :: []))))))), cN encSl (innSl (eI .i64) 1 3) 1 A11 c12 47 (hd14.set x22.thing.toNat ((A28, c29) : Hd)) (states13.set x22.thing.toNat r27.1), cR encStep 2 A31 c32 77 (out18 ++ ([(Step.mk i21 r27.2.1)] : List Step)), cMS Value.bool (some b19) failed20, cR encStep 2 (some ⟨b30, 0, none⟩) (([(Step.mk i21 r27.2.1)] : List Step)).length 77 ([(Step.mk i21 r27.2.1)] : List Step), cR (eI .i64) 1 (hd14.getD x22.thing.toNat ((none, 0) : Hd)).1 (hd14.getD x22.thing.toNat ((none, 0) : Hd)).2 3 x25, cBx b23 51 (encCall x22)] ++ T)) (hw.pickK 7 [4, 1, 5, 6, 0, 2, 3] rfl) (by simp only [List.length_set, List.nil_append, List.cons_append])) hs5 hs9) ?_)
      rintro ⟨hd35, A36, c37⟩ -
      refine WL.next hQ17 (.cons (i := 0) rfl (.cons (i := 1) rfl (.cons (i := 5) rfl (.cons (i := 6) rfl (.cons (i := 111) rfl (.nil)))))) ?_
      refine W.cond (.pl rfl) (fun hC18 => ?_) (fun hC18 => ?_)
      · replace hF := cpos hC18 hF
        -- region 12: search.go:100
        refine W.seqR fun Q19 hQ19 => ?_
        refine WL.q (Y.assign (.pl rfl)) rfl ?_
        refine WL.next hQ19 (.cons (i := 4) rfl (.nil)) ?_
        obtain rfl := Option.some.inj hF
        refine W.retV (fn := Try.f127) (vs := [.bool true]) Try.results127 ⟨.tmp rfl, trivial⟩ (fun _ _ h => h) (fun wz hw => ?_)
        exact hR _ _ ⟨(hd35, A36, c37), trivial, rfl, (hw.pickK 7 [0, 1, 2, 3] rfl)⟩
      · replace hF := cneg hC18 hF
        refine W.skip ?_
        refine W.go hK16 (.cons (i := 0) rfl (.cons (i := 1) rfl (.cons (i := 5) rfl (.cons (i := 6) rfl (.nil))))) ?_
        -- region 13: search.go:102
        refine W.seqT 8 (by kernel_rfl) (by kernel_rfl) fun Q20 hQ20 => ?_
        refine WS.q (Y.move (.pl rfl)) rfl ?_
        refine WS.q (Y.nilCheck (.pl rfl)) rfl ?_
        refine WS.q (Y.fieldAddr0 (off := 15) (ft := 142) Try.underlying183 rfl cells142 (.pl rfl)) rfl ?_
        refine WS.q (Y.loadB (v := .slice A11 (r34.1).length c12) Try.underlying142 rfl (.pl rfl) (i := 0) rfl (rfl)) rfl ?_
        refine WS.q (Y.fieldAddr0 (off := 1) (ft := 3) Try.underlying51 rfl cells3 (.pl rfl)) rfl ?_
        refine WS.q (Y.loadB (v := .int .i64 x22.thing) Try.underlying3 rfl (.pl rfl) (i := 6) rfl (rfl)) rfl ?_
        refine WS.q (Y.move (.pl rfl)) rfl ?_
        obtain ⟨x38, hx38, hF⟩ := bnd hF
        refine WS.q (Y.nEl Try.underlying142 cells47 (i := 1) rfl (.pl rfl) rfl (.pl rfl) (ix_lt (hx38))) rfl ?_
        refine WS.tail ?_
        refine WL.ent (Ent.hole (h0 := ((none, 0) : Hd)) (i := 1) rfl (ix_get (hx38))) ?_
        refine WL.step (WO.storeH (enc := encSl) (inn := (innSl (eI .i64) 1 3)) (h0 := ((none, 0) : Hd)) (h' := (((hd14.getD x22.thing.toNat ((none, 0) : Hd)).1, (hd14.getD x22.thing.toNat ((none, 0) : Hd)).2) : Hd)) (a := x38) (a' := x25) (idx := x22.thing) (j := 0) cells47 (.pl rfl) (.pl rfl) rfl lenSl (i := 1) rfl (ix_get (hx38)) rfl (by decide) rfl (.pickN 7 [5, 0, 1, 2, 3, 4, 6] rfl) ?_)
        refine WL.next hQ20 (.cons (i := 0) rfl (.cons (i := 1) rfl (.nil))) ?_
        -- region 14: search.go:103
        refine W.seqR fun Q21 hQ21 => ?_
        refine WL.q (Y.move (.pl rfl)) rfl ?_
        refine WL.q (Y.nilCheck (.pl rfl)) rfl ?_
        refine WL.q (Y.fieldAddr0 (off := 16) (ft := 112) Try.underlying183 rfl cells112 (.pl rfl)) rfl ?_
        refine WL.q (Y.loadB (v := .int .u16 r34.2.1) Try.underlying112 rfl (.pl rfl) (i := 2) rfl (rfl)) rfl ?_
        refine WL.q (Y.move (.pl rfl)) rfl ?_
        refine WL.q (Y.conv Try.underlying3 Try.underlying179 (.pl rfl)) rfl ?_
        refine WL.q (Y.shl (.pl rfl) (.pl rfl) (wrapU_nn rfl _)) rfl ?_
        refine WL.q (Y.bclr (.pl rfl) (.pl rfl)) rfl ?_
        refine WL.q (Y.nilCheck (.pl rfl)) rfl ?_
        refine WL.q (Y.fieldAddr0 (off := 16) (ft := 112) Try.underlying183 rfl cells112 (.pl rfl)) rfl ?_
        refine WL.step (WO.storeB (cs' := (Value.slice A3 (types2).length c4 :: (Value.slice A7 (calls6).length c8 :: ((encRel ahead10) ++ (Value.slice A11 (r34.1).length c12 :: (Value.int .u16 (bclrI .u16 r34.2.1 (shlI .u16 1 (IntKind.u64.wrap i21))) :: (Value.slice A36 (r34.2.2.1).length c37 :: (Value.map (some b19) :: [])))))))) cells112 (.pl rfl) (.pl rfl) rfl (i := 2) rfl (ltl (m := 19) (by decide) rfl) (rfl) ?_)
        refine WL.next hQ21 (.cons (i := 0) rfl (.nil)) ?_
        -- region 15: search.go:104
        refine W.seqT 14 (by kernel_rfl) (by kernel_rfl) fun Q22 hQ22 => ?_
        refine WS.q (Y.move (.pl rfl)) rfl ?_
        refine WS.q (Y.move (.pl rfl)) rfl ?_
        refine WS.q (Y.nilCheck (.pl rfl)) rfl ?_
        refine WS.q (Y.fieldAddr0 (off := 17) (ft := 53) Try.underlying183 rfl cells53 (.pl rfl)) rfl ?_
        refine WS.q (Y.loadB (v := .slice A36 (r34.2.2.1).length c37) Try.underlying53 rfl (.pl rfl) (i := 2) rfl (rfl)) rfl ?_
        refine WS.q (Y.move (.pl rfl)) rfl ?_
        refine WS.q (Y.nilCheck (.pl rfl)) rfl ?_
        refine WS.q (Y.fieldAddr0 (off := 17) (ft := 53) Try.underlying183 rfl cells53 (.pl rfl)) rfl ?_
        refine WS.q (Y.loadB (v := .slice A36 (r34.2.2.1).length c37) Try.underlying53 rfl (.pl rfl) (i := 2) rfl (rfl)) rfl ?_
        refine WS.q (Y.len Try.underlying53 (.pl rfl)) rfl ?_
        obtain ⟨hk39, hF⟩ := ckh hF
        refine WS.q (Y.sub (.pl rfl) (.pl rfl) (ok64_lt (hk39))) rfl ?_
        obtain ⟨hk40, hF⟩ := ckh hF
        refine WS.q (Y.sliceR0 Try.underlying53 cells77 (i := 3) rfl (.pl rfl) rfl (.pl rfl) (hk40)) rfl ?_
        refine WS.q (Y.nilCheck (.pl rfl)) rfl ?_
        refine WS.q (Y.fieldAddr0 (off := 17) (ft := 53) Try.underlying183 rfl cells53 (.pl rfl)) rfl ?_
        refine WS.tail ?_
        refine WL.step (WO.storeB (cs' := (Value.slice A3 (types2).length c4 :: (Value.slice A7 (calls6).length c8 :: ((encRel ahead10) ++ (Value.slice A11 (r34.1).length c12 :: (Value.int .u16 (bclrI .u16 r34.2.1 (shlI .u16 1 (IntKind.u64.wrap i21))) :: (Value.slice A36 ((r34.2.2.1.take (((r34.2.2.1).length : Int) - 1).toNat)).length c37 :: (Value.map (some b19) :: [])))))))) cells53 (.pl rfl) (.pl rfl) rfl (i := 2) rfl (ltl (m := 19) (by decide) rfl) (rfl) ?_)
        refine WL.next hQ22 (.nil) ?_
        -- region 16: search.go:105
        refine W.seqR fun Q23 hQ23 => ?_
        refine WL.q (Y.assign (.pl rfl)) rfl ?_
        refine WL.next hQ23 (.cons (i := 4) rfl (.nil)) ?_
        obtain rfl := Option.some.inj hF
        refine W.retV (fn := Try.f127) (vs := [.bool false]) Try.results127 ⟨.tmp rfl, trivial⟩ (fun _ _ h => h) (fun wz hw => ?_)
        exact hR _ _ ⟨((hd35.set x22.thing.toNat (((hd14.getD x22.thing.toNat ((none, 0) : Hd)).1, (hd14.getD x22.thing.toNat ((none, 0) : Hd)).2) : Hd)), A36, c37), trivial, rfl, (St.cong (L := ([cBx b1 183 (Value.slice A3 (types2).length c4 :: (Value.slice A7 (calls6).length c8 :: ((encRel ahead10) ++ (Value.slice A11 (r34.1).length c12 :: (Value.int .u16 (bclrI .u16 r34.2.1 (shlI .u16 1 (IntKind.u64.wrap i21))) :: (Value.slice A36 ((r34.2.2.1.take (((r34.2.2.1).length : Int) - 1).toNat)).length c37 :: (Value.map (some b19) :: []))))))), cN encSl (innSl (eI .i64) 1 3) 1 A11 c12 47 (hd35.set x22.thing.toNat (((hd14.getD x22.thing.toNat ((none, 0) : Hd)).1, (hd14.getD x22.thing.toNat ((none, 0) : Hd)).2) : Hd)) (r34.1.set x22.thing.toNat x25), cR encStep 2 A36 c37 77 (r34.2.2.1.take (((r34.2.2.1).length : Int) - 1).toNat), cMS Value.bool (some b19) r34.2.2.2.1] ++ T)) ((St.trunc (enc := encStep) (sz := 2) (j := (((r34.2.2.1).length : Int) - 1).toNat) hw lenStep (i := 3) rfl).pickK 7 [2, 0, 3, 4] rfl) (by simp only [List.length_set, List.nil_append, List.cons_append]))⟩

def search_finder_run_L7 (N : Nat) (self : (List Int) → (List Call) → Rel → (List (List Int)) → Int → (List Step) → (List (ByteArray × Bool)) → Option ((List (List Int)) × Int × (List Step) × (List (ByteArray × Bool)) × Bool)) (calls6 : (List Call)) (types2 : (List Int)) (ahead10 : Rel) : ((List (List Int)) × Int × (List Step) × (List (ByteArray × Bool)) × Int) → Option (((List (List Int)) × Int × (List Step) × (List (ByteArray × Bool)) × Int) ⊕ (((List (List Int)) × Int × (List Step) × (List (ByteArray × Bool))) ⊕ ((List (List Int)) × Int × (List Step) × (List (ByteArray × Bool)) × Bool)))
  | (states30, placed32, out35, failed36, v37) =>
    cond (decide (v37 < ((calls6).length : Int)))
      (bd (search_finder_place N self types2 calls6 ahead10 states30 placed32 out35 failed36 v37) fun (r38 : ((List (List Int)) × Int × (List Step) × (List (ByteArray × Bool)) × Bool)) =>
      cond r38.2.2.2.2
        (some (.inr (.inr (r38.1, r38.2.1, r38.2.2.1, r38.2.2.2.1, true))))
        (ck (ok64 (v37 + 1)) <|
        some (.inl (r38.1, r38.2.1, r38.2.2.1, r38.2.2.2.1, (v37 + 1)))))
      (some (.inr (.inl (states30, placed32, out35, failed36))))

def search_finder_run_B (N : Nat) (self : (List Int) → (List Call) → Rel → (List (List Int)) → Int → (List Step) → (List (ByteArray × Bool)) → Option ((List (List Int)) × Int × (List Step) × (List (ByteArray × Bool)) × Bool)) (types2 : (List Int)) (calls6 : (List Call)) (ahead10 : Rel) (states13 : (List (List Int))) (placed15 : Int) (out18 : (List Step)) (failed20 : (List (ByteArray × Bool))) : Option ((List (List Int)) × Int × (List Step) × (List (ByteArray × Bool)) × Bool) :=
  bd (search_finder_complete N types2 calls6 ahead10 states13 placed15 out18 failed20) fun (r21 : Bool) =>
  cond r21
    (some (states13, placed15, out18, failed20, true))
    (bd (search_finder_key N types2 calls6 ahead10 states13 placed15 out18 failed20) fun (r22 : ByteArray) =>
    cond ((mgetS failed20 r22).getD false)
      (some (states13, placed15, out18, failed20, false))
      (bd (α := (((List (List Int)) × Int × (List Step) × (List (ByteArray × Bool))) ⊕ ((List (List Int)) × Int × (List Step) × (List (ByteArray × Bool)) × Bool))) (iter (search_finder_run_L7 N self calls6 types2 ahead10) N (states13, placed15, out18, failed20, 0)) <|
      Sum.elim (fun (states23, placed25, out28, failed29) => 
        some (states23, placed25, out28, (mputS failed29 r22 true), false)) (fun p => some p)))
def search_finder_run (N : Nat) : Nat → (List Int) → (List Call) → Rel → (List (List Int)) → Int → (List Step) → (List (ByteArray × Bool)) → Option ((List (List Int)) × Int × (List Step) × (List (ByteArray × Bool)) × Bool)
  | 0 => fun _ _ _ _ _ _ _ => none
  | M + 1 => search_finder_run_B N (search_finder_run N M)

theorem search_finder_run_ok_B {N : Nat} {self : (List Int) → (List Call) → Rel → (List (List Int)) → Int → (List Step) → (List (ByteArray × Bool)) → Option ((List (List Int)) × Int × (List Step) × (List (ByteArray × Bool)) × Bool)} (ih : ∀ {types2 : (List Int)} {calls6 : (List Call)} {ahead10 : Rel} {states13 : (List (List Int))} {placed15 : Int} {out18 : (List Step)} {failed20 : (List (ByteArray × Bool))} {b1 : Nat} {A3 : Option Addr} {c4 : Nat} {A7 : Option Addr} {c8 : Nat} {A11 : Option Addr} {c12 : Nat} {hd14 : List Hd} {A16 : Option Addr} {c17 : Nat} {b19 : Nat} {res : ((List (List Int)) × Int × (List Step) × (List (ByteArray × Bool)) × Bool)} (hF : self types2 calls6 ahead10 states13 placed15 out18 failed20 = some res) {w0 w : World} {T : List Chunk} (hw : St w0.heap.size w0 ([cBx b1 183 (Value.slice A3 (types2).length c4 :: (Value.slice A7 (calls6).length c8 :: ((encRel ahead10) ++ (Value.slice A11 (states13).length c12 :: (Value.int .u16 placed15 :: (Value.slice A16 (out18).length c17 :: (Value.map (some b19) :: []))))))), cN encSl (innSl (eI .i64) 1 3) 1 A11 c12 47 hd14 states13, cR encStep 2 A16 c17 77 out18, cMS Value.bool (some b19) failed20] ++ T) w) (hs5 : SlIn (eI .i64) 1 w0 (.slice A3 (types2).length c4) types2) (hs9 : SlIn encCall 7 w0 (.slice A7 (calls6).length c8) calls6), Calls Try.prog 94 (List.toArray [.pointer (some ⟨b1, 0, none⟩)]) w (fun e w' => ∃ g : (List Hd × Option Addr × Nat), (True) ∧ e = .returned (.bool res.2.2.2.2) ∧ St w0.heap.size w0 ([cBx b1 183 (Value.slice A3 (types2).length c4 :: (Value.slice A7 (calls6).length c8 :: ((encRel ahead10) ++ (Value.slice A11 (res.1).length c12 :: (Value.int .u16 res.2.1 :: (Value.slice g.2.1 (res.2.2.1).length g.2.2 :: (Value.map (some b19) :: []))))))), cN encSl (innSl (eI .i64) 1 3) 1 A11 c12 47 g.1 res.1, cR encStep 2 g.2.1 g.2.2 77 res.2.2.1, cMS Value.bool (some b19) res.2.2.2.1] ++ T) w')) {types2 : (List Int)} {calls6 : (List Call)} {ahead10 : Rel} {states13 : (List (List Int))} {placed15 : Int} {out18 : (List Step)} {failed20 : (List (ByteArray × Bool))} {b1 : Nat} {A3 : Option Addr} {c4 : Nat} {A7 : Option Addr} {c8 : Nat} {A11 : Option Addr} {c12 : Nat} {hd14 : List Hd} {A16 : Option Addr} {c17 : Nat} {b19 : Nat} {res : ((List (List Int)) × Int × (List Step) × (List (ByteArray × Bool)) × Bool)} (hF : search_finder_run_B N self types2 calls6 ahead10 states13 placed15 out18 failed20 = some res) {w0 w : World} {T : List Chunk} (hw : St w0.heap.size w0 ([cBx b1 183 (Value.slice A3 (types2).length c4 :: (Value.slice A7 (calls6).length c8 :: ((encRel ahead10) ++ (Value.slice A11 (states13).length c12 :: (Value.int .u16 placed15 :: (Value.slice A16 (out18).length c17 :: (Value.map (some b19) :: []))))))), cN encSl (innSl (eI .i64) 1 3) 1 A11 c12 47 hd14 states13, cR encStep 2 A16 c17 77 out18, cMS Value.bool (some b19) failed20] ++ T) w) (hs5 : SlIn (eI .i64) 1 w0 (.slice A3 (types2).length c4) types2) (hs9 : SlIn encCall 7 w0 (.slice A7 (calls6).length c8) calls6) :
    Calls Try.prog 94 (List.toArray [.pointer (some ⟨b1, 0, none⟩)]) w (fun e w' => ∃ g : (List Hd × Option Addr × Nat), (True) ∧ e = .returned (.bool res.2.2.2.2) ∧ St w0.heap.size w0 ([cBx b1 183 (Value.slice A3 (types2).length c4 :: (Value.slice A7 (calls6).length c8 :: ((encRel ahead10) ++ (Value.slice A11 (res.1).length c12 :: (Value.int .u16 res.2.1 :: (Value.slice g.2.1 (res.2.2.1).length g.2.2 :: (Value.map (some b19) :: []))))))), cN encSl (innSl (eI .i64) 1 3) 1 A11 c12 47 g.1 res.1, cR encStep 2 g.2.1 g.2.2 77 res.2.2.1, cMS Value.bool (some b19) res.2.2.2.1] ++ T) w') := by
  refine W.enter (n := 32) Try.func94 rfl rfl Sub.refl (by simp) hw fun R hR => ?_
  unfold search_finder_run_B at hF
  -- region 0: search.go:108
  refine W.seqR fun Q1 hQ1 => ?_
  refine WL.q (Y.assign (.pl rfl)) rfl ?_
  refine WL.next hQ1 (.cons (i := 0) rfl (.nil)) ?_
  refine W.seq fun K2 hK2 => ?_
  -- region 1: search.go:109
  refine W.seqR fun Q3 hQ3 => ?_
  refine WL.q (Y.move (.pl rfl)) rfl ?_
  obtain ⟨r21, hr21, hF⟩ := bnd hF
  refine WL.step (WO.call (γ := Unit) (fun g => .bool r21) (fun g => ([cBx b1 183 (Value.slice A3 (types2).length c4 :: (Value.slice A7 (calls6).length c8 :: ((encRel ahead10) ++ (Value.slice A11 (states13).length c12 :: (Value.int .u16 placed15 :: (Value.slice A16 (out18).length c17 :: (Value.map (some b19) :: []))))))), cN encSl (innSl (eI .i64) 1 3) 1 A11 c12 47 hd14 states13, cR encStep 2 A16 c17 77 out18, cMS Value.bool (some b19) failed20] ++ T)) (fun g => True) isGo125 (.cons (.pl rfl) (.nil)) rfl (fun wz hw => search_finder_complete_ok (T := ([] ++ T)) (hr21) (hw.pickK 4 [0, 1, 2, 3] rfl) hs5 hs9) ?_)
  rintro _ -
  refine WL.next hQ3 (.cons (i := 0) rfl (.cons (i := 6) rfl (.nil))) ?_
  refine W.cond (.pl rfl) (fun hC4 => ?_) (fun hC4 => ?_)
  · replace hF := cpos hC4 hF
    -- region 2: search.go:110
    refine W.seqR fun Q5 hQ5 => ?_
    refine WL.q (Y.assign (.pl rfl)) rfl ?_
    refine WL.next hQ5 (.cons (i := 2) rfl (.nil)) ?_
    obtain rfl := Option.some.inj hF
    refine W.retV (fn := Try.f94) (vs := [.bool true]) Try.results94 ⟨.tmp rfl, trivial⟩ (fun _ _ h => h) (fun wz hw => ?_)
    exact hR _ _ ⟨(hd14, A16, c17), trivial, rfl, (hw.pickK 4 [0, 1, 2, 3] rfl)⟩
  · replace hF := cneg hC4 hF
    refine W.skip ?_
    refine W.go hK2 (.cons (i := 0) rfl (.nil)) ?_
    -- region 3: search.go:112
    refine W.seqR fun Q6 hQ6 => ?_
    refine WL.q (Y.move (.pl rfl)) rfl ?_
    obtain ⟨r22, hr22, hF⟩ := bnd hF
    refine WL.step (WO.call (γ := Unit) (fun g => .string r22) (fun g => ([cBx b1 183 (Value.slice A3 (types2).length c4 :: (Value.slice A7 (calls6).length c8 :: ((encRel ahead10) ++ (Value.slice A11 (states13).length c12 :: (Value.int .u16 placed15 :: (Value.slice A16 (out18).length c17 :: (Value.map (some b19) :: []))))))), cN encSl (innSl (eI .i64) 1 3) 1 A11 c12 47 hd14 states13, cR encStep 2 A16 c17 77 out18, cMS Value.bool (some b19) failed20] ++ T)) (fun g => True) isGo126 (.cons (.pl rfl) (.nil)) rfl (fun wz hw => search_finder_key_ok (T := ([] ++ T)) (hr22) (hw.pickK 4 [0, 1, 2, 3] rfl) hs5 hs9) ?_)
    rintro _ -
    refine WL.q (Y.assign (.pl rfl)) rfl ?_
    refine WL.next hQ6 (.cons (i := 0) rfl (.cons (i := 3) rfl (.nil))) ?_
    refine W.seq fun K7 hK7 => ?_
    -- region 4: search.go:113
    refine W.seqR fun Q8 hQ8 => ?_
    refine WL.q (Y.move (.pl rfl)) rfl ?_
    refine WL.q (Y.nilCheck (.pl rfl)) rfl ?_
    refine WL.q (Y.fieldAddr0 (off := 18) (ft := 181) Try.underlying183 rfl cells181 (.pl rfl)) rfl ?_
    refine WL.q (Y.loadB (v := .map (some b19)) Try.underlying181 rfl (.pl rfl) (i := 0) rfl (rfl)) rfl ?_
    refine WL.q (Y.move (.pl rfl)) rfl ?_
    refine WL.q (Y.mgetS (f := Value.bool) (dv := false) Try.underlying181 Try.underlying9 zero4 (.pl rfl) (.pl rfl) (i := 3) rfl) rfl ?_
    refine WL.next hQ8 (.cons (i := 0) rfl (.cons (i := 3) rfl (.cons (i := 14) rfl (.nil)))) ?_
    refine W.cond (.pl rfl) (fun hC9 => ?_) (fun hC9 => ?_)
    · replace hF := cpos hC9 hF
      -- region 5: search.go:114
      refine W.seqR fun Q10 hQ10 => ?_
      refine WL.q (Y.assign (.pl rfl)) rfl ?_
      refine WL.next hQ10 (.cons (i := 2) rfl (.nil)) ?_
      obtain rfl := Option.some.inj hF
      refine W.retV (fn := Try.f94) (vs := [.bool false]) Try.results94 ⟨.tmp rfl, trivial⟩ (fun _ _ h => h) (fun wz hw => ?_)
      exact hR _ _ ⟨(hd14, A16, c17), trivial, rfl, (hw.pickK 4 [0, 1, 2, 3] rfl)⟩
    · replace hF := cneg hC9 hF
      refine W.skip ?_
      refine W.go hK7 (.cons (i := 0) rfl (.cons (i := 3) rfl (.nil))) ?_
      obtain ⟨o11, hF11, hF⟩ := bnd hF
      refine W.join7 (Em := fun (states23 : (List (List Int))) (placed25 : Int) (out28 : (List Step)) (failed29 : (List (ByteArray × Bool))) (hd24 : List Hd) (A26 : Option Addr) (c27 : Nat) => []) (M := fun states23 placed25 out28 failed29 hd24 A26 c27 => ([cBx b1 183 (Value.slice A3 (types2).length c4 :: (Value.slice A7 (calls6).length c8 :: ((encRel ahead10) ++ (Value.slice A11 (states23).length c12 :: (Value.int .u16 placed25 :: (Value.slice A26 (out28).length c27 :: (Value.map (some b19) :: []))))))), cN encSl (innSl (eI .i64) 1 3) 1 A11 c12 47 hd24 states23, cR encStep 2 A26 c27 77 out28, cMS Value.bool (some b19) failed29] ++ T)) (I := fun states23 placed25 out28 failed29 hd24 A26 c27 => (.inl (states23, placed25, out28, failed29)) = o11) (.cons (i := 0) rfl (.cons (i := 3) rfl (.nil))) (fun K12 hK12 => ?_) ?_
      · -- up to
        -- region 6: search.go:116
        refine W.seqR fun Q13 hQ13 => ?_
        refine WL.q (Y.move (.pl rfl)) rfl ?_
        refine WL.q (Y.nilCheck (.pl rfl)) rfl ?_
        refine WL.q (Y.fieldAddr0 (off := 1) (ft := 44) Try.underlying183 rfl cells44 (.pl rfl)) rfl ?_
        refine WL.q (Y.loadB (v := .slice A7 (calls6).length c8) Try.underlying44 rfl (.pl rfl) (i := 0) rfl (rfl)) rfl ?_
        refine WL.q (Y.len Try.underlying44 (.pl rfl)) rfl ?_
        refine WL.q (Y.move (.pl rfl)) rfl ?_
        refine WL.next hQ13 (.cons (i := 0) rfl (.cons (i := 3) rfl (.cons (i := 19) rfl (.cons (i := 20) rfl (.nil))))) ?_
        refine W.block ?_
        refine W.loop8 (Em := fun (states30 : (List (List Int))) (placed32 : Int) (out35 : (List Step)) (failed36 : (List (ByteArray × Bool))) (v37 : Int) (hd31 : List Hd) (A33 : Option Addr) (c34 : Nat) => [(20, .int .i64 v37)]) (M := fun states30 placed32 out35 failed36 v37 hd31 A33 c34 => ([cBx b1 183 (Value.slice A3 (types2).length c4 :: (Value.slice A7 (calls6).length c8 :: ((encRel ahead10) ++ (Value.slice A11 (states30).length c12 :: (Value.int .u16 placed32 :: (Value.slice A33 (out35).length c34 :: (Value.map (some b19) :: []))))))), cN encSl (innSl (eI .i64) 1 3) 1 A11 c12 47 hd31 states30, cR encStep 2 A33 c34 77 out35, cMS Value.bool (some b19) failed36] ++ T)) (I := fun states30 placed32 out35 failed36 v37 hd31 A33 c34 k14 => iter (search_finder_run_L7 N self calls6 types2 ahead10) k14 (states30, placed32, out35, failed36, v37) = some o11) states13 placed15 out18 failed20 0 hd14 A16 c17 N (hF11) (.cons rfl (.nil)) (.cons (i := 0) rfl (.cons (i := 3) rfl (.cons (i := 19) rfl (.nil)))) (fun wz hw => hw.pickK 4 [0, 1, 2, 3] rfl) (fun states30 placed32 out35 failed36 v37 hd31 A33 c34 k14 hI K15 hK15 => ?_)
        obtain ⟨k14, t14, rfl, hF14, hN14⟩ := iter_step hI
        -- region 7: search.go:116
        refine W.seqR fun Q16 hQ16 => ?_
        refine WL.q (Y.lss (.pl rfl) (.pl rfl)) rfl ?_
        refine WL.next hQ16 (.cons (i := 0) rfl (.cons (i := 3) rfl (.cons (i := 19) rfl (.cons (i := 20) rfl (.cons (i := 21) rfl (.nil)))))) ?_
        refine W.seq fun K17 hK17 => ?_
        refine W.cond (.pl rfl) (fun hC18 => ?_) (fun hC18 => ?_)
        · replace hF14 := cpos hC18 hF14
          refine W.skip ?_
          refine W.go hK17 (.cons (i := 0) rfl (.cons (i := 3) rfl (.cons (i := 19) rfl (.cons (i := 20) rfl (.nil))))) ?_
          refine W.seq fun K19 hK19 => ?_
          refine W.block ?_
          -- region 8: search.go:116
          refine W.seqR fun Q20 hQ20 => ?_
          refine WL.q (Y.move (.pl rfl)) rfl ?_
          refine WL.q (Y.assign (.pl rfl)) rfl ?_
          refine WL.next hQ20 (.cons (i := 0) rfl (.cons (i := 3) rfl (.cons (i := 4) rfl (.cons (i := 19) rfl (.cons (i := 20) rfl (.nil)))))) ?_
          -- region 9: search.go:117
          refine W.seqR fun Q21 hQ21 => ?_
          refine WL.q (Y.move (.pl rfl)) rfl ?_
          refine WL.q (Y.move (.pl rfl)) rfl ?_
          obtain ⟨r38, hr38, hF14⟩ := bnd hF14
          refine WL.step (WO.call (γ := (List Hd × Option Addr × Nat)) (fun g => .bool r38.2.2.2.2) (fun g => ([cBx b1 183 (Value.slice A3 (types2).length c4 :: (Value.slice A7 (calls6).length c8 :: ((encRel ahead10) ++ (Value.slice A11 (r38.1).length c12 :: (Value.int .u16 r38.2.1 :: (Value.slice g.2.1 (r38.2.2.1).length g.2.2 :: (Value.map (some b19) :: []))))))), cN encSl (innSl (eI .i64) 1 3) 1 A11 c12 47 g.1 r38.1, cR encStep 2 g.2.1 g.2.2 77 r38.2.2.1, cMS Value.bool (some b19) r38.2.2.2.1] ++ T)) (fun g => True) isGo127 (.cons (.pl rfl) (.cons (.pl rfl) (.nil))) rfl (fun wz hw => search_finder_place_ok ih (T := ([] ++ T)) (b1 := b1) (A3 := A3) (c4 := c4) (A7 := A7) (c8 := c8) (A11 := A11) (c12 := c12) (hd14 := hd31) (A16 := A33) (c17 := c34) (b19 := b19) (hr38) (hw.pickK 4 [0, 1, 2, 3] rfl) hs5 hs9) ?_)
          rintro ⟨hd39, A40, c41⟩ -
          refine WL.next hQ21 (.cons (i := 0) rfl (.cons (i := 3) rfl (.cons (i := 19) rfl (.cons (i := 20) rfl (.cons (i := 25) rfl (.nil)))))) ?_
          refine W.cond (.pl rfl) (fun hC22 => ?_) (fun hC22 => ?_)
          · replace hF14 := cpos hC22 hF14
            -- region 10: search.go:118
            refine W.seqR fun Q23 hQ23 => ?_
            refine WL.q (Y.assign (.pl rfl)) rfl ?_
            refine WL.next hQ23 (.cons (i := 2) rfl (.nil)) ?_
            obtain rfl := Option.some.inj hF14
            obtain rfl := einr hN14
            obtain rfl := Option.some.inj hF
            refine W.retV (fn := Try.f94) (vs := [.bool true]) Try.results94 ⟨.tmp rfl, trivial⟩ (fun _ _ h => h) (fun wz hw => ?_)
            exact hR _ _ ⟨(hd39, A40, c41), trivial, rfl, (hw.pickK 4 [0, 1, 2, 3] rfl)⟩
          · replace hF14 := cneg hC22 hF14
            refine W.skip ?_
            refine W.go hK19 (.cons (i := 0) rfl (.cons (i := 3) rfl (.cons (i := 19) rfl (.cons (i := 20) rfl (.nil))))) ?_
            -- region 11: search.go:116
            refine W.reg ?_
            obtain ⟨hk42, hF14⟩ := ckh hF14
            refine WL.q (Y.add (.pl rfl) (.pl rfl) (ok64_lt (hk42))) rfl ?_
            refine WL.q (Y.move (.pl rfl)) rfl ?_
            refine WL.nil ?_
            obtain rfl := Option.some.inj hF14
            exact W.again8 hK15 r38.1 r38.2.1 r38.2.2.1 r38.2.2.2.1 (v37 + 1) hd39 A40 c41 k14 hN14 (Nat.lt_succ_self _) (.cons rfl (.nil)) (.cons (i := 0) rfl (.cons (i := 3) rfl (.cons (i := 19) rfl (.nil)))) (fun wz hw => hw.pickK 4 [0, 1, 2, 3] rfl)
        · replace hF14 := cneg hC18 hF14
          refine W.exit ?_
          obtain rfl := Option.some.inj hF14
          exact W.joinAt7 hK12 states30 placed32 out35 failed36 hd31 A33 c34 (einr hN14) (.nil) (.cons (i := 0) rfl (.cons (i := 3) rfl (.nil))) (fun wz hw => hw.pickK 4 [0, 1, 2, 3] rfl)
      · -- behind
        rintro states23 placed25 out28 failed29 hd24 A26 c27 rfl
        -- region 12: search.go:121
        refine W.seqR fun Q25 hQ25 => ?_
        refine WL.q (Y.move (.pl rfl)) rfl ?_
        refine WL.q (Y.nilCheck (.pl rfl)) rfl ?_
        refine WL.q (Y.fieldAddr0 (off := 18) (ft := 181) Try.underlying183 rfl cells181 (.pl rfl)) rfl ?_
        refine WL.q (Y.loadB (v := .map (some b19)) Try.underlying181 rfl (.pl rfl) (i := 0) rfl (rfl)) rfl ?_
        refine WL.q (Y.move (.pl rfl)) rfl ?_
        refine WL.step (WO.msetS (f := Value.bool) (a := true) Try.underlying181 Try.underlying9 (.pl rfl) (.pl rfl) (.pl rfl) (i := 3) rfl ?_)
        refine WL.next hQ25 (.nil) ?_
        -- region 13: search.go:122
        refine W.seqR fun Q26 hQ26 => ?_
        refine WL.q (Y.assign (.pl rfl)) rfl ?_
        refine WL.next hQ26 (.cons (i := 2) rfl (.nil)) ?_
        obtain rfl := Option.some.inj hF
        refine W.retV (fn := Try.f94) (vs := [.bool false]) Try.results94 ⟨.tmp rfl, trivial⟩ (fun _ _ h => h) (fun wz hw => ?_)
        exact hR _ _ ⟨(hd24, A26, c27), trivial, rfl, (hw.pickK 4 [0, 1, 2, 3] rfl)⟩
theorem search_finder_run_ok {N : Nat} {M : Nat} : ∀ {types2 : (List Int)} {calls6 : (List Call)} {ahead10 : Rel} {states13 : (List (List Int))} {placed15 : Int} {out18 : (List Step)} {failed20 : (List (ByteArray × Bool))} {b1 : Nat} {A3 : Option Addr} {c4 : Nat} {A7 : Option Addr} {c8 : Nat} {A11 : Option Addr} {c12 : Nat} {hd14 : List Hd} {A16 : Option Addr} {c17 : Nat} {b19 : Nat} {res : ((List (List Int)) × Int × (List Step) × (List (ByteArray × Bool)) × Bool)} (hF : search_finder_run N M types2 calls6 ahead10 states13 placed15 out18 failed20 = some res) {w0 w : World} {T : List Chunk} (hw : St w0.heap.size w0 ([cBx b1 183 (Value.slice A3 (types2).length c4 :: (Value.slice A7 (calls6).length c8 :: ((encRel ahead10) ++ (Value.slice A11 (states13).length c12 :: (Value.int .u16 placed15 :: (Value.slice A16 (out18).length c17 :: (Value.map (some b19) :: []))))))), cN encSl (innSl (eI .i64) 1 3) 1 A11 c12 47 hd14 states13, cR encStep 2 A16 c17 77 out18, cMS Value.bool (some b19) failed20] ++ T) w) (hs5 : SlIn (eI .i64) 1 w0 (.slice A3 (types2).length c4) types2) (hs9 : SlIn encCall 7 w0 (.slice A7 (calls6).length c8) calls6),
    Calls Try.prog 94 (List.toArray [.pointer (some ⟨b1, 0, none⟩)]) w (fun e w' => ∃ g : (List Hd × Option Addr × Nat), (True) ∧ e = .returned (.bool res.2.2.2.2) ∧ St w0.heap.size w0 ([cBx b1 183 (Value.slice A3 (types2).length c4 :: (Value.slice A7 (calls6).length c8 :: ((encRel ahead10) ++ (Value.slice A11 (res.1).length c12 :: (Value.int .u16 res.2.1 :: (Value.slice g.2.1 (res.2.2.1).length g.2.2 :: (Value.map (some b19) :: []))))))), cN encSl (innSl (eI .i64) 1 3) 1 A11 c12 47 g.1 res.1, cR encStep 2 g.2.1 g.2.2 77 res.2.2.1, cMS Value.bool (some b19) res.2.2.2.1] ++ T) w') := by
  induction M with
  | zero => exact fun hF => nomatch (show (none : Option _) = some _ from hF)
  | succ M ih => exact fun hF => search_finder_run_ok_B ih hF

/-- slices.Clone -/
theorem slices_Clone_api_Step_api_Step_ok {xs : List Step} (hb : limB 16 xs.length = true) (w : World) {v : Value} (h : SlIn encStep 2 w v xs) :
    Made Try.prog 95 [v] w (fun g : Option Addr × Nat => .slice g.1 xs.length g.2) (fun g => [cR encStep 2 g.1 g.2 77 xs]) (fun _ => True) := by
  obtain ⟨A1, c1, rfl, hc1, hs⟩ := h.form
  refine W.enter (n := 8) Try.func95 rfl rfl Sub.refl (by simp) (St.start w) fun R hR => ?_
  refine W.seqR fun Q1 hQ1 => ?_
  refine WL.q (Y.assign (.pl rfl)) rfl ?_
  refine WL.next hQ1 (.cons (i := 0) rfl (.nil)) ?_
  refine W.seq fun K2 hK2 => ?_
  refine W.seqR fun Q3 hQ3 => ?_
  refine WL.q (Y.move (.pl rfl)) rfl ?_
  refine WL.q (Y.eqNil Try.underlying53 (.pl rfl)) rfl ?_
  refine WL.next hQ3 (.cons (i := 0) rfl (.cons (i := 4) rfl (.nil))) ?_
  refine W.cond (.pl rfl) (fun hC => ?_) (fun hC => ?_)
  · refine W.seqR fun Q4 hQ4 => ?_
    refine WL.q (Y.assign (.pl rfl)) rfl ?_
    refine WL.next hQ4 (.cons (i := 2) rfl (.nil)) ?_
    have hx : xs = [] := by
      cases xs with
      | nil => rfl
      | cons a r =>
        have := (hs.okA' (idx := 0) ⟨Int.le_refl _, by simp⟩).1
        rw [Option.isNone_iff_eq_none] at hC
        rw [hC] at this; cases this
    subst hx
    refine W.retV (fn := Try.f95) (vs := [.slice none 0 0]) Try.results95 ⟨.tmp rfl, trivial⟩ (fun _ _ h => h) (fun w hw => ?_)
    exact hR _ _ ⟨(none, 0), trivial, rfl, St.nilR hw encStep 2 77⟩
  · refine W.skip ?_
    refine W.go hK2 (.cons (i := 0) rfl (.nil)) ?_
    obtain ⟨a1, rfl⟩ : ∃ a, A1 = some a := by cases A1 with
      | none => cases hC
      | some a => exact ⟨a, rfl⟩
    refine W.seqR fun Q5 hQ5 => ?_
    refine WL.step (WO.bsliceC (enc := encStep) (ys := []) Try.underlying53 bz77 (.nil) rfl lenStep rfl rfl (by decide) (by decide) rfl fun b => ?_)
    refine WL.q (Y.move (.pl rfl)) rfl ?_
    refine WL.step (WO.appendS (enc := encStep) (ys := xs) (xs := []) Try.underlying53 ap77 lenStep oneStep (.pl rfl) rfl (.pl rfl) (i := 0) rfl (fun w hw => hs.mono hw) (by simpa using hb) rfl fun A c => ?_)
    refine WL.q (Y.assign (.pl rfl)) rfl ?_
    refine WL.next hQ5 (.cons (i := 2) rfl (.nil)) ?_
    refine W.retV (fn := Try.f95) (vs := [.slice A xs.length c]) Try.results95 ⟨.tmp rfl, trivial⟩ (fun _ _ h => h) (fun w hw => ?_)
    exact hR _ _ ⟨(A, c), trivial, rfl, hw⟩

def search_Smallest_L3 (N : Nat) (types1 : (List Int)) : ((List (List Int)) × Int) → Option (((List (List Int)) × Int) ⊕ (List (List Int)))
  | (states21, v23) =>
    cond (decide (v23 < ((types1).length : Int)))
      (bd (ix types1 v23) fun (x24 : Int) =>
      bd (object_Start N x24) fun (r25 : ((List Int) × Int)) =>
      ck (limB 24 ((states21).length + (([r25.1] : List (List Int))).length)) <|
      ck (ok64 (v23 + 1)) <|
      some (.inl ((states21 ++ ([r25.1] : List (List Int))), (v23 + 1))))
      (some (.inr states21))

def search_Smallest (N : Nat) (types1 : (List Int)) (calls6 : (List Call)) (ahead11 : Rel) : Option ((List Step) × Bool) :=
  bd (α := (List (List Int))) (iter (search_Smallest_L3 N types1) N ([], 0)) <|
  fun (states17 : (List (List Int))) => 
    bd (search_finder_run N N types1 calls6 ahead11 states17 0 ([] : (List Step)) ([] : List (ByteArray × Bool))) fun (r33 : ((List (List Int)) × Int × (List Step) × (List (ByteArray × Bool)) × Bool)) =>
    cond (!r33.2.2.2.2)
      (some ([], false))
      (ck (limB 16 (r33.2.2.1).length) <|
      some (r33.2.2.1, true))

theorem search_Smallest_ok {N : Nat} {types1 : (List Int)} {calls6 : (List Call)} {ahead11 : Rel} {res : ((List Step) × Bool)} (hF : search_Smallest N types1 calls6 ahead11 = some res) (w : World) {v5 : Value} (hs4 : SlIn (eI .i64) 1 w v5 types1) {v10 : Value} (hs9 : SlIn encCall 7 w v10 calls6) :
    Made Try.prog 61 [v5, v10, .agg (encRel ahead11).toArray] w (fun g : (Option Addr × Nat) => .tuple #[.slice g.1 (res.1).length g.2, .bool res.2]) (fun g => [cR encStep 2 g.1 g.2 77 res.1]) (fun g => True) := by
  obtain ⟨A2, c3, rfl, hcc3, hs4⟩ := hs4.form
  obtain ⟨A7, c8, rfl, hcc8, hs9⟩ := hs9.form
  refine W.enter (n := 49) Try.func61 rfl rfl Sub.refl (by simp) (St.start w) fun R hR => ?_
  unfold search_Smallest at hF
  -- region 0: search.go:126
  refine W.seqR fun Q1 hQ1 => ?_
  refine WL.step (WO.boxA (.pl rfl) rfl fun b12 => ?_)
  refine WL.q (Y.assign (.pl rfl)) rfl ?_
  refine WL.q (Y.assign (.pl rfl)) rfl ?_
  refine WL.next hQ1 (.cons (i := 0) rfl (.cons (i := 1) rfl (.cons (i := 5) rfl (.nil)))) ?_
  -- region 1: search.go:127
  refine W.seqR fun Q2 hQ2 => ?_
  refine WL.q (Y.move (.pl rfl)) rfl ?_
  refine WL.q (Y.move (.pl rfl)) rfl ?_
  refine WL.q (Y.loadBA (ds := (encRel ahead11)) Try.underlying115 rfl cells115 (.pl rfl) (i := 0) rfl rfl subW) rfl ?_
  refine WL.step (WO.mmakeS Value.bool rfl fun b13 => ?_)
  refine WL.q (Y.buildF (cs := (Value.slice A2 (types1).length c3 :: (Value.slice A7 (calls6).length c8 :: ((encRel ahead11) ++ (Value.slice none 0 0 :: (Value.int .u16 0 :: (Value.slice none 0 0 :: (Value.map (some b13) :: []))))))).toArray) shape183 (.cons (.pl rfl) (.cons (.pl rfl) (.cons (.pl rfl) (.cons (.pl rfl) (.nil))))) (by kernel_rfl)) rfl ?_
  refine WL.step (WO.boxA (.pl rfl) rfl fun b14 => ?_)
  refine WL.q (Y.assign (.pl rfl)) rfl ?_
  refine WL.next hQ2 (.cons (i := 0) rfl (.cons (i := 8) rfl (.nil))) ?_
  obtain ⟨o3, hF3, hF⟩ := bnd hF
  refine W.join4 (Em := fun (states17 : (List (List Int))) (A15 : Option Addr) (c16 : Nat) (hd18 : List Hd) => []) (M := fun states17 A15 c16 hd18 => [cBx b14 183 (Value.slice A2 (types1).length c3 :: (Value.slice A7 (calls6).length c8 :: ((encRel ahead11) ++ (Value.slice A15 (states17).length c16 :: (Value.int .u16 0 :: (Value.slice none 0 0 :: (Value.map (some b13) :: []))))))), cN encSl (innSl (eI .i64) 1 3) 1 A15 c16 47 hd18 states17, cMS Value.bool (some b13) ([] : List (ByteArray × Bool))]) (I := fun states17 A15 c16 hd18 => states17 = o3) (.cons (i := 8) rfl (.nil)) (fun K4 hK4 => ?_) ?_
  · -- up to
    -- region 2: search.go:128
    refine W.seqR fun Q5 hQ5 => ?_
    refine WL.q (Y.move (.pl rfl)) rfl ?_
    refine WL.q (Y.len Try.underlying47 (.pl rfl)) rfl ?_
    refine WL.q (Y.move (.pl rfl)) rfl ?_
    refine WL.next hQ5 (.cons (i := 8) rfl (.cons (i := 19) rfl (.cons (i := 20) rfl (.cons (i := 21) rfl (.nil))))) ?_
    refine W.block ?_
    refine W.loop5 (Em := fun (states21 : (List (List Int))) (v23 : Int) (A19 : Option Addr) (c20 : Nat) (hd22 : List Hd) => [(21, .int .i64 v23)]) (M := fun states21 v23 A19 c20 hd22 => [cBx b14 183 (Value.slice A2 (types1).length c3 :: (Value.slice A7 (calls6).length c8 :: ((encRel ahead11) ++ (Value.slice A19 (states21).length c20 :: (Value.int .u16 0 :: (Value.slice none 0 0 :: (Value.map (some b13) :: []))))))), cN encSl (innSl (eI .i64) 1 3) 1 A19 c20 47 hd22 states21, cMS Value.bool (some b13) ([] : List (ByteArray × Bool))]) (I := fun states21 v23 A19 c20 hd22 k6 => iter (search_Smallest_L3 N types1) k6 (states21, v23) = some o3) [] 0 none 0 [] N (hF3) (.cons rfl (.nil)) (.cons (i := 8) rfl (.cons (i := 19) rfl (.cons (i := 20) rfl (.nil)))) (fun wz hw => (St.nilN (hw.pick [0, 1] rfl) encSl (innSl (eI .i64) 1 3) 1 47).pick [1, 0, 2] rfl) (fun states21 v23 A19 c20 hd22 k6 hI K7 hK7 => ?_)
    obtain ⟨k6, t6, rfl, hF6, hN6⟩ := iter_step hI
    -- region 3: search.go:128
    refine W.seqR fun Q8 hQ8 => ?_
    refine WL.q (Y.lss (.pl rfl) (.pl rfl)) rfl ?_
    refine WL.next hQ8 (.cons (i := 8) rfl (.cons (i := 19) rfl (.cons (i := 20) rfl (.cons (i := 21) rfl (.cons (i := 22) rfl (.nil)))))) ?_
    refine W.seq fun K9 hK9 => ?_
    refine W.cond (.pl rfl) (fun hC10 => ?_) (fun hC10 => ?_)
    · replace hF6 := cpos hC10 hF6
      refine W.skip ?_
      refine W.go hK9 (.cons (i := 8) rfl (.cons (i := 19) rfl (.cons (i := 20) rfl (.cons (i := 21) rfl (.nil))))) ?_
      refine W.seq fun K11 hK11 => ?_
      refine W.block ?_
      -- region 4: search.go:128
      refine W.seqR fun Q12 hQ12 => ?_
      obtain ⟨x24, hx24, hF6⟩ := bnd hF6
      refine WL.q (Y.slEl Try.underlying47 cells3 hs4 (.pl rfl) (.pl rfl) (ix_lt (hx24))) rfl ?_
      refine WL.q (Y.loadS (enc := (eI .i64)) (v := .int .i64 x24) (j := 0) Try.underlying3 rfl hs4 (.pl rfl) (hx24) rfl rfl) rfl ?_
      refine WL.q (Y.assign (.pl rfl)) rfl ?_
      refine WL.next hQ12 (.cons (i := 8) rfl (.cons (i := 10) rfl (.cons (i := 19) rfl (.cons (i := 20) rfl (.cons (i := 21) rfl (.nil)))))) ?_
      -- region 5: search.go:129
      refine W.seqR fun Q13 hQ13 => ?_
      refine WL.q (Y.move (.pl rfl)) rfl ?_
      obtain ⟨r25, hr25, hF6⟩ := bnd hF6
      refine WL.step (WO.callM isGo74 (.cons (.pl rfl) (.nil)) rfl (fun wz hw => object_Start_ok (hr25) wz ) ?_)
      rintro ⟨A26, c27⟩ -
      refine WL.q (Y.move (.pl rfl)) rfl ?_
      refine WL.q (Y.extract (.pl rfl) rfl) rfl ?_
      refine WL.q (Y.extract (.pl rfl) rfl) rfl ?_
      refine WL.q (Y.assign (.pl rfl)) rfl ?_
      refine WL.q (Y.assign (.pl rfl)) rfl ?_
      refine WL.next hQ13 (.cons (i := 8) rfl (.cons (i := 11) rfl (.cons (i := 19) rfl (.cons (i := 20) rfl (.cons (i := 21) rfl (.nil)))))) ?_
      -- region 6: search.go:130
      refine W.reg ?_
      refine WL.q (Y.move (.pl rfl)) rfl ?_
      refine WL.q (Y.move (.pl rfl)) rfl ?_
      refine WL.q (Y.nilCheck (.pl rfl)) rfl ?_
      refine WL.q (Y.fieldAddr0 (off := 15) (ft := 142) Try.underlying183 rfl cells142 (.pl rfl)) rfl ?_
      refine WL.q (Y.loadB (v := .slice A19 (states21).length c20) Try.underlying142 rfl (.pl rfl) (i := 1) rfl (rfl)) rfl ?_
      refine WL.q (Y.move (.pl rfl)) rfl ?_
      refine WL.step (WO.bsliceN (enc := encSl) (inn := (innSl (eI .i64) 1 3)) (hs := ([((A26, c27) : Hd)] : List Hd)) (xs := ([r25.1] : List (List Int))) Try.underlying142 bz47 (.cons (.pl rfl) (.nil)) rfl rfl rfl rfl rfl lenSl (by decide) (by decide) (.pick [0, 1, 2, 3] rfl) rfl fun b28 => ?_)
      obtain ⟨hk31, hF6⟩ := ckh hF6
      refine WL.step (WO.appendN (enc := encSl) (inn := (innSl (eI .i64) 1 3)) (hs := hd22) Try.underlying142 ap47 lenSl oneSl (.pl rfl) rfl (.pl rfl) (i := 1) rfl (hk31) rfl fun A29 c30 => ?_)
      refine WL.q (Y.nilCheck (.pl rfl)) rfl ?_
      refine WL.q (Y.fieldAddr0 (off := 15) (ft := 142) Try.underlying183 rfl cells142 (.pl rfl)) rfl ?_
      refine WL.step (WO.storeB (cs' := (Value.slice A2 (types1).length c3 :: (Value.slice A7 (calls6).length c8 :: ((encRel ahead11) ++ (Value.slice A29 ((states21 ++ ([r25.1] : List (List Int)))).length c30 :: (Value.int .u16 0 :: (Value.slice none 0 0 :: (Value.map (some b13) :: [])))))))) cells142 (.pl rfl) (.pl rfl) rfl (i := 1) rfl (ltl (m := 19) (by decide) rfl) (rfl) ?_)
      refine WL.nil ?_
      refine W.go hK11 (.cons (i := 8) rfl (.cons (i := 19) rfl (.cons (i := 20) rfl (.cons (i := 21) rfl (.nil))))) ?_
      -- region 7: search.go:128
      refine W.reg ?_
      obtain ⟨hk32, hF6⟩ := ckh hF6
      refine WL.q (Y.add (.pl rfl) (.pl rfl) (ok64_lt (hk32))) rfl ?_
      refine WL.q (Y.move (.pl rfl)) rfl ?_
      refine WL.nil ?_
      obtain rfl := Option.some.inj hF6
      exact W.again5 hK7 (states21 ++ ([r25.1] : List (List Int))) (v23 + 1) A29 c30 (hd22 ++ ([((A26, c27) : Hd)] : List Hd)) k6 hN6 (Nat.lt_succ_self _) (.cons rfl (.nil)) (.cons (i := 8) rfl (.cons (i := 19) rfl (.cons (i := 20) rfl (.nil)))) (fun wz hw => hw.pick [1, 0, 2] rfl)
    · replace hF6 := cneg hC10 hF6
      refine W.exit ?_
      obtain rfl := Option.some.inj hF6
      exact W.joinAt4 hK4 states21 A19 c20 hd22 (einr hN6) (.nil) (.cons (i := 8) rfl (.nil)) (fun wz hw => hw.pick [0, 1, 2] rfl)
  · -- behind
    rintro states17 A15 c16 hd18 rfl
    refine W.seq fun K16 hK16 => ?_
    -- region 8: search.go:132
    refine W.seqR fun Q17 hQ17 => ?_
    refine WL.q (Y.move (.pl rfl)) rfl ?_
    obtain ⟨r33, hr33, hF⟩ := bnd hF
    refine WL.step (WO.call (γ := (List Hd × Option Addr × Nat)) (fun g => .bool r33.2.2.2.2) (fun g => [cBx b14 183 (Value.slice A2 (types1).length c3 :: (Value.slice A7 (calls6).length c8 :: ((encRel ahead11) ++ (Value.slice A15 (r33.1).length c16 :: (Value.int .u16 r33.2.1 :: (Value.slice g.2.1 (r33.2.2.1).length g.2.2 :: (Value.map (some b13) :: []))))))), cN encSl (innSl (eI .i64) 1 3) 1 A15 c16 47 g.1 r33.1, cR encStep 2 g.2.1 g.2.2 77 r33.2.2.1, cMS Value.bool (some b13) r33.2.2.2.1]) (fun g => True) isGo94 (.cons (.pl rfl) (.nil)) rfl (fun wz hw => search_finder_run_ok (T := []) (hr33) ((St.nilR (hw) encStep 2 77).pick [1, 2, 0, 3] rfl) hs4 hs9) ?_)
    rintro ⟨hd34, A35, c36⟩ -
    refine WL.q (Y.not (.pl rfl)) rfl ?_
    refine WL.next hQ17 (.cons (i := 8) rfl (.cons (i := 43) rfl (.nil))) ?_
    refine W.cond (.pl rfl) (fun hC18 => ?_) (fun hC18 => ?_)
    · replace hF := cpos hC18 hF
      -- region 9: search.go:133
      refine W.seqR fun Q19 hQ19 => ?_
      refine WL.q (Y.assign (.pl rfl)) rfl ?_
      refine WL.q (Y.assign (.pl rfl)) rfl ?_
      refine WL.next hQ19 (.cons (i := 6) rfl (.cons (i := 7) rfl (.nil))) ?_
      obtain rfl := Option.some.inj hF
      refine W.retV (fn := Try.f61) (vs := [.slice none 0 0, .bool false]) Try.results61 ⟨.tmp rfl, ⟨.tmp rfl, trivial⟩⟩ (fun _ _ h => h) (fun wz hw => ?_)
      exact hR _ _ ⟨(none, 0), trivial, rfl, ((St.nilR (hw.pick [] rfl) encStep 2 77).pick [0] rfl)⟩
    · replace hF := cneg hC18 hF
      refine W.skip ?_
      refine W.go hK16 (.cons (i := 8) rfl (.nil)) ?_
      -- region 10: search.go:135
      refine W.seqR fun Q20 hQ20 => ?_
      refine WL.q (Y.move (.pl rfl)) rfl ?_
      refine WL.q (Y.nilCheck (.pl rfl)) rfl ?_
      refine WL.q (Y.fieldAddr0 (off := 17) (ft := 53) Try.underlying183 rfl cells53 (.pl rfl)) rfl ?_
      refine WL.q (Y.loadB (v := .slice A35 (r33.2.2.1).length c36) Try.underlying53 rfl (.pl rfl) (i := 0) rfl (rfl)) rfl ?_
      obtain ⟨hk37, hF⟩ := ckh hF
      refine WL.step (WO.callM isGo95 (.cons (.pl rfl) (.nil)) rfl (fun wz hw => slices_Clone_api_Step_api_Step_ok (hk37) wz (SlIn.ofRow lenStep hw (i := 2) rfl)) ?_)
      rintro ⟨A38, c39⟩ -
      refine WL.q (Y.assign (.pl rfl)) rfl ?_
      refine WL.q (Y.assign (.pl rfl)) rfl ?_
      refine WL.next hQ20 (.cons (i := 6) rfl (.cons (i := 7) rfl (.nil))) ?_
      obtain rfl := Option.some.inj hF
      refine W.retV (fn := Try.f61) (vs := [.slice A38 (r33.2.2.1).length c39, .bool true]) Try.results61 ⟨.tmp rfl, ⟨.tmp rfl, trivial⟩⟩ (fun _ _ h => h) (fun wz hw => ?_)
      exact hR _ _ ⟨(A38, c39), trivial, rfl, (hw.pick [0] rfl)⟩

def search_Find (N : Nat) (types1 : (List Int)) (l6 : (List Event)) : Option ((List Step) × Bool × Int) :=
  bd (search_Calls N types1 l6) fun (r11 : ((List Call) × Int)) =>
  cond (!(decide (r11.2 = 0)))
    (some ([], false, r11.2))
    (bd (history_Ahead N r11.1) fun (r14 : (Int × (List Int) × Int)) =>
    bd (search_Smallest N types1 r11.1 (Rel.mk r14.1 r14.2.1)) fun (r16 : ((List Step) × Bool)) =>
    some (r16.1, r16.2, 0))

theorem search_Find_ok {N : Nat} {types1 : (List Int)} {l6 : (List Event)} {res : ((List Step) × Bool × Int)} (hF : search_Find N types1 l6 = some res) (w : World) {v5 : Value} (hs4 : SlIn (eI .i64) 1 w v5 types1) {v10 : Value} (hs9 : SlIn encEvent 4 w v10 l6) :
    Made Try.prog 31 [v5, v10] w (fun g : (Option Addr × Nat) => .tuple #[.slice g.1 (res.1).length g.2, .bool res.2.1, .int .i64 res.2.2]) (fun g => [cR encStep 2 g.1 g.2 77 res.1]) (fun g => True) := by
  obtain ⟨A2, c3, rfl, hcc3, hs4⟩ := hs4.form
  obtain ⟨A7, c8, rfl, hcc8, hs9⟩ := hs9.form
  refine W.enter (n := 36) Try.func31 rfl rfl Sub.refl (by simp) (St.start w) fun R hR => ?_
  unfold search_Find at hF
  -- region 0: search.go:149
  refine W.seqR fun Q1 hQ1 => ?_
  refine WL.q (Y.assign (.pl rfl)) rfl ?_
  refine WL.q (Y.assign (.pl rfl)) rfl ?_
  refine WL.q (Y.assign (.pl rfl)) rfl ?_
  refine WL.next hQ1 (.cons (i := 0) rfl (.cons (i := 1) rfl (.nil))) ?_
  -- region 1: search.go:150
  refine W.seqR fun Q2 hQ2 => ?_
  refine WL.q (Y.move (.pl rfl)) rfl ?_
  refine WL.q (Y.move (.pl rfl)) rfl ?_
  obtain ⟨r11, hr11, hF⟩ := bnd hF
  refine WL.step (WO.callM isGo59 (.cons (.pl rfl) (.cons (.pl rfl) (.nil))) rfl (fun wz hw => search_Calls_ok (hr11) wz (hs4.mono hw) (hs9.mono hw)) ?_)
  rintro ⟨A12, c13⟩ -
  refine WL.q (Y.move (.pl rfl)) rfl ?_
  refine WL.q (Y.extract (.pl rfl) rfl) rfl ?_
  refine WL.q (Y.extract (.pl rfl) rfl) rfl ?_
  refine WL.q (Y.assign (.pl rfl)) rfl ?_
  refine WL.q (Y.assign (.pl rfl)) rfl ?_
  refine WL.next hQ2 (.cons (i := 0) rfl (.cons (i := 7) rfl (.cons (i := 8) rfl (.nil)))) ?_
  refine W.seq fun K3 hK3 => ?_
  -- region 2: search.go:151
  refine W.seqR fun Q4 hQ4 => ?_
  refine WL.q (Y.move (.pl rfl)) rfl ?_
  refine WL.q (Y.neq (.pl rfl) (.pl rfl)) rfl ?_
  refine WL.next hQ4 (.cons (i := 0) rfl (.cons (i := 7) rfl (.cons (i := 8) rfl (.cons (i := 20) rfl (.nil))))) ?_
  refine W.cond (.pl rfl) (fun hC5 => ?_) (fun hC5 => ?_)
  · replace hF := cpos hC5 hF
    -- region 3: search.go:152
    refine W.seqR fun Q6 hQ6 => ?_
    refine WL.q (Y.move (.pl rfl)) rfl ?_
    refine WL.q (Y.assign (.pl rfl)) rfl ?_
    refine WL.q (Y.assign (.pl rfl)) rfl ?_
    refine WL.q (Y.assign (.pl rfl)) rfl ?_
    refine WL.next hQ6 (.cons (i := 4) rfl (.cons (i := 5) rfl (.cons (i := 6) rfl (.nil)))) ?_
    obtain rfl := Option.some.inj hF
    refine W.retV (fn := Try.f31) (vs := [.slice none 0 0, .bool false, .int .i64 r11.2]) Try.results31 ⟨.tmp rfl, ⟨.tmp rfl, ⟨.tmp rfl, trivial⟩⟩⟩ (fun _ _ h => h) (fun wz hw => ?_)
    exact hR _ _ ⟨(none, 0), trivial, rfl, ((St.nilR (hw.pick [] rfl) encStep 2 77).pick [0] rfl)⟩
  · replace hF := cneg hC5 hF
    refine W.skip ?_
    refine W.go hK3 (.cons (i := 0) rfl (.cons (i := 7) rfl (.nil))) ?_
    -- region 4: search.go:154
    refine W.seqR fun Q7 hQ7 => ?_
    refine WL.q (Y.move (.pl rfl)) rfl ?_
    obtain ⟨r14, hr14, hF⟩ := bnd hF
    refine WL.step (WO.callP isGo60 (.cons (.pl rfl) (.nil)) rfl (fun wz hw => history_Ahead_ok (hr14) wz (SlIn.ofRow lenCall hw (i := 0) rfl)) ?_)
    refine WL.q (Y.move (.pl rfl)) rfl ?_
    refine WL.q (Y.extract (.pl rfl) rfl) rfl ?_
    refine WL.q (Y.extract (.pl rfl) rfl) rfl ?_
    refine WL.step (WO.alloc (cs := (encRel (Rel.mk 0 [])).toArray) zero115 rfl rfl fun b15 => ?_)
    refine WL.step (WO.storeBA (ds := (encRel (Rel.mk r14.1 r14.2.1))) (cs' := (encRel (Rel.mk r14.1 r14.2.1))) cells115 (.pl rfl) (.pl rfl) rfl (oneRel _) (i := 0) rfl (lel (o := 0) (l := 13) (m := 13) (by decide) rfl rfl) (putW rfl) ?_)
    refine WL.q (Y.assign (.pl rfl)) rfl ?_
    refine WL.next hQ7 (.cons (i := 0) rfl (.cons (i := 7) rfl (.cons (i := 9) rfl (.nil)))) ?_
    -- region 5: search.go:155
    refine W.seqR fun Q8 hQ8 => ?_
    refine WL.q (Y.move (.pl rfl)) rfl ?_
    refine WL.q (Y.move (.pl rfl)) rfl ?_
    refine WL.q (Y.loadBA (ds := (encRel (Rel.mk r14.1 r14.2.1))) Try.underlying115 rfl cells115 (.pl rfl) (i := 0) rfl rfl subW) rfl ?_
    obtain ⟨r16, hr16, hF⟩ := bnd hF
    refine WL.step (WO.callM isGo61 (.cons (.pl rfl) (.cons (.pl rfl) (.cons (.pl rfl) (.nil)))) rfl (fun wz hw => search_Smallest_ok (hr16) wz (hs4.mono hw) (SlIn.ofRow lenCall hw (i := 1) rfl)) ?_)
    rintro ⟨A17, c18⟩ -
    refine WL.q (Y.move (.pl rfl)) rfl ?_
    refine WL.q (Y.extract (.pl rfl) rfl) rfl ?_
    refine WL.q (Y.extract (.pl rfl) rfl) rfl ?_
    refine WL.q (Y.assign (.pl rfl)) rfl ?_
    refine WL.q (Y.assign (.pl rfl)) rfl ?_
    refine WL.next hQ8 (.cons (i := 11) rfl (.cons (i := 12) rfl (.nil))) ?_
    -- region 6: search.go:156
    refine W.seqR fun Q9 hQ9 => ?_
    refine WL.q (Y.move (.pl rfl)) rfl ?_
    refine WL.q (Y.move (.pl rfl)) rfl ?_
    refine WL.q (Y.assign (.pl rfl)) rfl ?_
    refine WL.q (Y.assign (.pl rfl)) rfl ?_
    refine WL.q (Y.assign (.pl rfl)) rfl ?_
    refine WL.next hQ9 (.cons (i := 4) rfl (.cons (i := 5) rfl (.cons (i := 6) rfl (.nil)))) ?_
    obtain rfl := Option.some.inj hF
    refine W.retV (fn := Try.f31) (vs := [.slice A17 (r16.1).length c18, .bool r16.2, .int .i64 0]) Try.results31 ⟨.tmp rfl, ⟨.tmp rfl, ⟨.tmp rfl, trivial⟩⟩⟩ (fun _ _ h => h) (fun wz hw => ?_)
    exact hR _ _ ⟨(A17, c18), trivial, rfl, (hw.pick [0] rfl)⟩

end Go.Proofs.Yteklmleiiiodfaa
