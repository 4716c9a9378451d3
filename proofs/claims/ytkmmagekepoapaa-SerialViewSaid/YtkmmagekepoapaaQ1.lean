/- Serial: what its code computes, and the walks. -/
import Derived.Test.YtkmmagekepoapaaProg
import Derived.Test.YtkmmagekepoapaaView
set_option linter.unusedVariables false
set_option linter.unusedSimpArgs false
set_option linter.unusedSectionVars false
set_option maxRecDepth 100000
namespace Go.Proofs.Ytkmmagekepoapaa
open Go.RowKit
structure Deed where
  who : Int
  kind : Int
  item : Int
deriving DecidableEq
def Deed.z : Deed := ⟨0, 0, 0⟩
def encDeed (x : Deed) : List Value := (Value.int .i64 x.who :: (Value.int .i64 x.kind :: (Value.int .i64 x.item :: [])))
theorem lenDeed (x : Deed) : (encDeed x).length = 3 := rfl
theorem eqDeed (x y : Deed) : eqCells [true, true, true] (encDeed x) (encDeed y) = some (decide (x = y)) := by
  cases x; cases y; simp [encDeed, eqCells, Deed.mk.injEq, Bool.beq_eq_decide_eq]
theorem oneDeed : ∀ x, ∀ v ∈ encDeed x, v.oneCell' = true := fun x => (one_cons rfl (one_cons rfl (one_cons rfl one_nil)))
structure Rel where
  n : Int
  after : List Int
deriving DecidableEq
def Rel.z : Rel := ⟨0, []⟩
def encRel (x : Rel) : List Value := (Value.int .i64 x.n :: ((encA 12 (eI .u16) 0) x.after ++ []))
theorem lenRel (x : Rel) : (encRel x).length = 13 := rfl
theorem oneRel : ∀ x, ∀ v ∈ encRel x, v.oneCell' = true := fun x => (one_cons rfl (one_app ((oneA oneI) _) one_nil))
theorem cells3 : Try.prog.cellsOf 3 = 0 + 1 := by kernel_rfl
theorem cells4 : Try.prog.cellsOf 4 = 0 + 1 := by kernel_rfl
theorem cells25 : Try.prog.cellsOf 25 = 0 + 1 := by kernel_rfl
theorem cells46 : Try.prog.cellsOf 46 = 2 + 1 := by kernel_rfl
theorem cells47 : Try.prog.cellsOf 47 = 0 + 1 := by kernel_rfl
theorem cells48 : Try.prog.cellsOf 48 = 11 + 1 := by kernel_rfl
theorem cells50 : Try.prog.cellsOf 50 = 12 + 1 := by kernel_rfl
theorem cells135 : Try.prog.cellsOf 135 = 5 + 1 := by kernel_rfl
theorem isGo16 : IsGo Try.prog 16 := ⟨_, Try.func16, by kernel_rfl, rfl⟩
theorem isGo17 : IsGo Try.prog 17 := ⟨_, Try.func17, by kernel_rfl, rfl⟩
theorem isGo19 : IsGo Try.prog 19 := ⟨_, Try.func19, by kernel_rfl, rfl⟩
theorem isGo20 : IsGo Try.prog 20 := ⟨_, Try.func20, by kernel_rfl, rfl⟩
theorem isGo24 : IsGo Try.prog 24 := ⟨_, Try.func24, by kernel_rfl, rfl⟩
theorem isGo35 : IsGo Try.prog 35 := ⟨_, Try.func35, by kernel_rfl, rfl⟩
theorem isGo36 : IsGo Try.prog 36 := ⟨_, Try.func36, by kernel_rfl, rfl⟩
theorem isGo37 : IsGo Try.prog 37 := ⟨_, Try.func37, by kernel_rfl, rfl⟩
theorem isGo38 : IsGo Try.prog 38 := ⟨_, Try.func38, by kernel_rfl, rfl⟩
theorem isGo39 : IsGo Try.prog 39 := ⟨_, Try.func39, by kernel_rfl, rfl⟩
theorem isGo40 : IsGo Try.prog 40 := ⟨_, Try.func40, by kernel_rfl, rfl⟩
theorem isGo41 : IsGo Try.prog 41 := ⟨_, Try.func41, by kernel_rfl, rfl⟩
theorem isGo63 : IsGo Try.prog 63 := ⟨_, Try.func63, by kernel_rfl, rfl⟩
theorem isGo64 : IsGo Try.prog 64 := ⟨_, Try.func64, by kernel_rfl, rfl⟩
theorem isGo65 : IsGo Try.prog 65 := ⟨_, Try.func65, by kernel_rfl, rfl⟩
theorem isGo66 : IsGo Try.prog 66 := ⟨_, Try.func66, by kernel_rfl, rfl⟩
theorem isGo67 : IsGo Try.prog 67 := ⟨_, Try.func67, by kernel_rfl, rfl⟩
theorem isGo90 : IsGo Try.prog 90 := ⟨_, Try.func90, by kernel_rfl, rfl⟩
theorem isGo91 : IsGo Try.prog 91 := ⟨_, Try.func91, by kernel_rfl, rfl⟩
theorem isGo92 : IsGo Try.prog 92 := ⟨_, Try.func92, by kernel_rfl, rfl⟩
theorem isGo93 : IsGo Try.prog 93 := ⟨_, Try.func93, by kernel_rfl, rfl⟩
theorem isGo106 : IsGo Try.prog 106 := ⟨_, Try.func106, by kernel_rfl, rfl⟩
theorem isGo107 : IsGo Try.prog 107 := ⟨_, Try.func107, by kernel_rfl, rfl⟩
theorem isGo108 : IsGo Try.prog 108 := ⟨_, Try.func108, by kernel_rfl, rfl⟩
theorem isGo109 : IsGo Try.prog 109 := ⟨_, Try.func109, by kernel_rfl, rfl⟩
theorem zero46 : ∃ i, Try.prog.info? 46 = some i ∧ i.zero = some (Value.agg #[(Value.int .i64 0), (Value.int .i64 0), (Value.int .i64 0)]) := ⟨_, rfl, by kernel_rfl⟩
theorem zero50 : ∃ i, Try.prog.info? 50 = some i ∧ i.zero = some (Value.agg #[(Value.int .i64 0), (Value.int .u16 0), (Value.int .u16 0), (Value.int .u16 0), (Value.int .u16 0), (Value.int .u16 0), (Value.int .u16 0), (Value.int .u16 0), (Value.int .u16 0), (Value.int .u16 0), (Value.int .u16 0), (Value.int .u16 0), (Value.int .u16 0)]) := ⟨_, rfl, by kernel_rfl⟩
theorem zero137 : ∃ i, Try.prog.info? 137 = some i ∧ i.zero = some (Value.agg #[(Value.int .i64 0), (Value.int .i64 0), (Value.int .i64 0), (Value.int .i64 0), (Value.int .i64 0), (Value.int .i64 0), (Value.int .i64 0), (Value.int .i64 0), (Value.int .i64 0), (Value.int .i64 0), (Value.int .i64 0), (Value.int .i64 0), (Value.int .i64 0), (Value.int .i64 0), (Value.int .i64 0), (Value.int .i64 0), (Value.int .i64 0), (Value.int .i64 0), (Value.int .i64 0), (Value.int .i64 0), (Value.int .i64 0), (Value.int .i64 0), (Value.int .i64 0), (Value.int .i64 0), (Value.int .i64 0), (Value.int .i64 0), (Value.int .i64 0), (Value.int .i64 0), (Value.int .i64 0), (Value.int .i64 0), (Value.int .i64 0), (Value.int .i64 0), (Value.int .i64 0), (Value.int .i64 0), (Value.int .i64 0), (Value.int .i64 0)]) := ⟨_, rfl, by kernel_rfl⟩
theorem zero138 : ∃ i, Try.prog.info? 138 = some i ∧ i.zero = some (Value.agg #[(Value.bool false), (Value.bool false), (Value.bool false), (Value.bool false), (Value.bool false), (Value.bool false)]) := ⟨_, rfl, by kernel_rfl⟩
theorem bz3 : ∃ i, Try.prog.info? 3 = some i ∧ i.zero = some (Value.int .i64 0) ∧ i.size = 1 := ⟨_, rfl, by kernel_rfl, by kernel_rfl⟩
theorem bz25 : ∃ i, Try.prog.info? 25 = some i ∧ i.zero = some (Value.int .i64 0) ∧ i.size = 1 := ⟨_, rfl, by kernel_rfl, by kernel_rfl⟩
theorem bz46 : ∃ i, Try.prog.info? 46 = some i ∧ i.zero = some (Value.agg #[(Value.int .i64 0), (Value.int .i64 0), (Value.int .i64 0)]) ∧ i.size = 3 := ⟨_, rfl, by kernel_rfl, by kernel_rfl⟩
theorem mka3 : ∃ i z, Try.prog.info? 3 = some i ∧ i.zero = some z ∧ i.size = 1 ∧ i.bytes = 8 ∧ z.cells = ([(Value.int .i64 0)] : List Value).toArray ∧ ([(Value.int .i64 0)] : List Value).length = 1 ∧ 0 < 1 := ⟨_, (Value.int .i64 0), rfl, by kernel_rfl, by kernel_rfl, by kernel_rfl, rfl, rfl, by decide⟩
theorem ap3 : ∃ i z, Try.prog.info? 3 = some i ∧ i.zero = some z ∧ i.size = 1 ∧ i.bytes = 8 ∧ z.cells.size = 1 ∧ 0 < 1 := ⟨_, (Value.int .i64 0), rfl, by kernel_rfl, by kernel_rfl, by kernel_rfl, by kernel_rfl, by decide⟩
theorem shape46 : Shape Try.prog 46 [(0, 1), (1, 1), (2, 1)] #[(Value.int .i64 0), (Value.int .i64 0), (Value.int .i64 0)] := ⟨_, _, Value.agg #[(Value.int .i64 0), (Value.int .i64 0), (Value.int .i64 0)], Try.underlying46, rfl, by kernel_rfl, rfl, by kernel_rfl, by decide⟩
theorem shape50 : Shape Try.prog 50 [(0, 1), (1, 12)] #[(Value.int .i64 0), (Value.int .u16 0), (Value.int .u16 0), (Value.int .u16 0), (Value.int .u16 0), (Value.int .u16 0), (Value.int .u16 0), (Value.int .u16 0), (Value.int .u16 0), (Value.int .u16 0), (Value.int .u16 0), (Value.int .u16 0), (Value.int .u16 0)] := ⟨_, _, Value.agg #[(Value.int .i64 0), (Value.int .u16 0), (Value.int .u16 0), (Value.int .u16 0), (Value.int .u16 0), (Value.int .u16 0), (Value.int .u16 0), (Value.int .u16 0), (Value.int .u16 0), (Value.int .u16 0), (Value.int .u16 0), (Value.int .u16 0), (Value.int .u16 0)], Try.underlying50, rfl, by kernel_rfl, rfl, by kernel_rfl, by decide⟩
def math_bits_Mul32 (N : Nat) (x1 : Int) (y2 : Int) : Option Unit :=
  some ()

theorem math_bits_Mul32_ok {N : Nat} {x1 : Int} {y2 : Int} {res : Unit} (hF : math_bits_Mul32 N x1 y2 = some res) (w : World) :
    Pure Try.prog 108 [.int .u32 x1, .int .u32 y2] w (.tuple #[.int .u32 (IntKind.u32.wrap (shrI .u64 (IntKind.u64.wrap ((IntKind.u64.wrap x1) * (IntKind.u64.wrap y2))) 32)), .int .u32 (IntKind.u32.wrap (IntKind.u64.wrap ((IntKind.u64.wrap x1) * (IntKind.u64.wrap y2))))]) := by
  refine W.enter (n := 17) Try.func108 rfl rfl Sub.refl (by simp) (St.start w) fun R hR => ?_
  unfold math_bits_Mul32 at hF
  -- region 0: bits.go:459
  refine W.seqR fun Q1 hQ1 => ?_
  refine WL.q (Y.assign (.pl rfl)) rfl ?_
  refine WL.q (Y.assign (.pl rfl)) rfl ?_
  refine WL.next hQ1 (.cons (i := 0) rfl (.cons (i := 1) rfl (.nil))) ?_
  -- region 1: bits.go:460
  refine W.seqR fun Q2 hQ2 => ?_
  refine WL.q (Y.move (.pl rfl)) rfl ?_
  refine WL.q (Y.conv Try.underlying197 Try.underlying200 (.pl rfl)) rfl ?_
  refine WL.q (Y.move (.pl rfl)) rfl ?_
  refine WL.q (Y.conv Try.underlying197 Try.underlying200 (.pl rfl)) rfl ?_
  refine WL.q (Y.mulW (.pl rfl) (.pl rfl)) rfl ?_
  refine WL.q (Y.assign (.pl rfl)) rfl ?_
  refine WL.next hQ2 (.cons (i := 6) rfl (.nil)) ?_
  -- region 2: bits.go:461
  refine W.seqR fun Q3 hQ3 => ?_
  refine WL.q (Y.move (.pl rfl)) rfl ?_
  refine WL.q (Y.shr (.pl rfl) (.pl rfl) (by decide)) rfl ?_
  refine WL.q (Y.conv Try.underlying200 Try.underlying197 (.pl rfl)) rfl ?_
  refine WL.q (Y.move (.pl rfl)) rfl ?_
  refine WL.q (Y.conv Try.underlying200 Try.underlying197 (.pl rfl)) rfl ?_
  refine WL.q (Y.assign (.pl rfl)) rfl ?_
  refine WL.q (Y.assign (.pl rfl)) rfl ?_
  refine WL.next hQ3 (.cons (i := 4) rfl (.cons (i := 5) rfl (.nil))) ?_
  obtain rfl := Option.some.inj hF
  refine W.retV (fn := Try.f108) (vs := [.int .u32 (IntKind.u32.wrap (shrI .u64 (IntKind.u64.wrap ((IntKind.u64.wrap x1) * (IntKind.u64.wrap y2))) 32)), .int .u32 (IntKind.u32.wrap (IntKind.u64.wrap ((IntKind.u64.wrap x1) * (IntKind.u64.wrap y2))))]) Try.results108 ⟨.tmp rfl, ⟨.tmp rfl, trivial⟩⟩ (fun _ _ h => h) (fun wz hw => ?_)
  exact hR _ _ ⟨rfl, (hw.pick [] rfl)⟩

def math_bits_Mul64 (N : Nat) (x1 : Int) (y2 : Int) : Option Unit :=
  some ()

theorem math_bits_Mul64_ok {N : Nat} {x1 : Int} {y2 : Int} {res : Unit} (hF : math_bits_Mul64 N x1 y2 = some res) (w : World) :
    Pure Try.prog 109 [.int .u64 x1, .int .u64 y2] w (.tuple #[.int .u64 (IntKind.u64.wrap ((IntKind.u64.wrap ((IntKind.u64.wrap ((shrI .u64 x1 32) * (shrI .u64 y2 32))) + (shrI .u64 (IntKind.u64.wrap ((IntKind.u64.wrap ((shrI .u64 x1 32) * (bandI .u64 y2 4294967295))) + (shrI .u64 (IntKind.u64.wrap ((bandI .u64 x1 4294967295) * (bandI .u64 y2 4294967295))) 32))) 32))) + (shrI .u64 (IntKind.u64.wrap ((bandI .u64 (IntKind.u64.wrap ((IntKind.u64.wrap ((shrI .u64 x1 32) * (bandI .u64 y2 4294967295))) + (shrI .u64 (IntKind.u64.wrap ((bandI .u64 x1 4294967295) * (bandI .u64 y2 4294967295))) 32))) 4294967295) + (IntKind.u64.wrap ((bandI .u64 x1 4294967295) * (shrI .u64 y2 32))))) 32))), .int .u64 (IntKind.u64.wrap (x1 * y2))]) := by
  refine W.enter (n := 51) Try.func109 rfl rfl Sub.refl (by simp) (St.start w) fun R hR => ?_
  unfold math_bits_Mul64 at hF
  -- region 0: bits.go:470
  refine W.seqR fun Q1 hQ1 => ?_
  refine WL.q (Y.assign (.pl rfl)) rfl ?_
  refine WL.q (Y.assign (.pl rfl)) rfl ?_
  refine WL.next hQ1 (.cons (i := 0) rfl (.cons (i := 1) rfl (.nil))) ?_
  -- region 1: bits.go:472
  refine W.seqR fun Q2 hQ2 => ?_
  refine WL.q (Y.move (.pl rfl)) rfl ?_
  refine WL.q (Y.band (.pl rfl) (.pl rfl)) rfl ?_
  refine WL.q (Y.assign (.pl rfl)) rfl ?_
  refine WL.next hQ2 (.cons (i := 0) rfl (.cons (i := 1) rfl (.cons (i := 6) rfl (.nil)))) ?_
  -- region 2: bits.go:473
  refine W.seqR fun Q3 hQ3 => ?_
  refine WL.q (Y.move (.pl rfl)) rfl ?_
  refine WL.q (Y.shr (.pl rfl) (.pl rfl) (by decide)) rfl ?_
  refine WL.q (Y.assign (.pl rfl)) rfl ?_
  refine WL.next hQ3 (.cons (i := 0) rfl (.cons (i := 1) rfl (.cons (i := 6) rfl (.cons (i := 7) rfl (.nil))))) ?_
  -- region 3: bits.go:474
  refine W.seqR fun Q4 hQ4 => ?_
  refine WL.q (Y.move (.pl rfl)) rfl ?_
  refine WL.q (Y.band (.pl rfl) (.pl rfl)) rfl ?_
  refine WL.q (Y.assign (.pl rfl)) rfl ?_
  refine WL.next hQ4 (.cons (i := 0) rfl (.cons (i := 1) rfl (.cons (i := 6) rfl (.cons (i := 7) rfl (.cons (i := 8) rfl (.nil)))))) ?_
  -- region 4: bits.go:475
  refine W.seqR fun Q5 hQ5 => ?_
  refine WL.q (Y.move (.pl rfl)) rfl ?_
  refine WL.q (Y.shr (.pl rfl) (.pl rfl) (by decide)) rfl ?_
  refine WL.q (Y.assign (.pl rfl)) rfl ?_
  refine WL.next hQ5 (.cons (i := 0) rfl (.cons (i := 1) rfl (.cons (i := 6) rfl (.cons (i := 7) rfl (.cons (i := 8) rfl (.cons (i := 9) rfl (.nil))))))) ?_
  -- region 5: bits.go:476
  refine W.seqR fun Q6 hQ6 => ?_
  refine WL.q (Y.move (.pl rfl)) rfl ?_
  refine WL.q (Y.move (.pl rfl)) rfl ?_
  refine WL.q (Y.mulW (.pl rfl) (.pl rfl)) rfl ?_
  refine WL.q (Y.assign (.pl rfl)) rfl ?_
  refine WL.next hQ6 (.cons (i := 0) rfl (.cons (i := 1) rfl (.cons (i := 6) rfl (.cons (i := 7) rfl (.cons (i := 8) rfl (.cons (i := 9) rfl (.cons (i := 10) rfl (.nil)))))))) ?_
  -- region 6: bits.go:477
  refine W.seqR fun Q7 hQ7 => ?_
  refine WL.q (Y.move (.pl rfl)) rfl ?_
  refine WL.q (Y.move (.pl rfl)) rfl ?_
  refine WL.q (Y.mulW (.pl rfl) (.pl rfl)) rfl ?_
  refine WL.q (Y.move (.pl rfl)) rfl ?_
  refine WL.q (Y.shr (.pl rfl) (.pl rfl) (by decide)) rfl ?_
  refine WL.q (Y.addW (.pl rfl) (.pl rfl)) rfl ?_
  refine WL.q (Y.assign (.pl rfl)) rfl ?_
  refine WL.next hQ7 (.cons (i := 0) rfl (.cons (i := 1) rfl (.cons (i := 6) rfl (.cons (i := 7) rfl (.cons (i := 9) rfl (.cons (i := 11) rfl (.nil))))))) ?_
  -- region 7: bits.go:478
  refine W.seqR fun Q8 hQ8 => ?_
  refine WL.q (Y.move (.pl rfl)) rfl ?_
  refine WL.q (Y.band (.pl rfl) (.pl rfl)) rfl ?_
  refine WL.q (Y.assign (.pl rfl)) rfl ?_
  refine WL.next hQ8 (.cons (i := 0) rfl (.cons (i := 1) rfl (.cons (i := 6) rfl (.cons (i := 7) rfl (.cons (i := 9) rfl (.cons (i := 11) rfl (.cons (i := 12) rfl (.nil)))))))) ?_
  -- region 8: bits.go:479
  refine W.seqR fun Q9 hQ9 => ?_
  refine WL.q (Y.move (.pl rfl)) rfl ?_
  refine WL.q (Y.shr (.pl rfl) (.pl rfl) (by decide)) rfl ?_
  refine WL.q (Y.assign (.pl rfl)) rfl ?_
  refine WL.next hQ9 (.cons (i := 0) rfl (.cons (i := 1) rfl (.cons (i := 6) rfl (.cons (i := 7) rfl (.cons (i := 9) rfl (.cons (i := 12) rfl (.cons (i := 13) rfl (.nil)))))))) ?_
  -- region 9: bits.go:480
  refine W.seqR fun Q10 hQ10 => ?_
  refine WL.q (Y.move (.pl rfl)) rfl ?_
  refine WL.q (Y.move (.pl rfl)) rfl ?_
  refine WL.q (Y.move (.pl rfl)) rfl ?_
  refine WL.q (Y.mulW (.pl rfl) (.pl rfl)) rfl ?_
  refine WL.q (Y.addW (.pl rfl) (.pl rfl)) rfl ?_
  refine WL.q (Y.assign (.pl rfl)) rfl ?_
  refine WL.next hQ10 (.cons (i := 0) rfl (.cons (i := 1) rfl (.cons (i := 7) rfl (.cons (i := 9) rfl (.cons (i := 12) rfl (.cons (i := 13) rfl (.nil))))))) ?_
  -- region 10: bits.go:481
  refine W.seqR fun Q11 hQ11 => ?_
  refine WL.q (Y.move (.pl rfl)) rfl ?_
  refine WL.q (Y.move (.pl rfl)) rfl ?_
  refine WL.q (Y.mulW (.pl rfl) (.pl rfl)) rfl ?_
  refine WL.q (Y.move (.pl rfl)) rfl ?_
  refine WL.q (Y.addW (.pl rfl) (.pl rfl)) rfl ?_
  refine WL.q (Y.move (.pl rfl)) rfl ?_
  refine WL.q (Y.shr (.pl rfl) (.pl rfl) (by decide)) rfl ?_
  refine WL.q (Y.addW (.pl rfl) (.pl rfl)) rfl ?_
  refine WL.q (Y.assign (.pl rfl)) rfl ?_
  refine WL.next hQ11 (.cons (i := 0) rfl (.cons (i := 1) rfl (.cons (i := 4) rfl (.nil)))) ?_
  -- region 11: bits.go:482
  refine W.seqR fun Q12 hQ12 => ?_
  refine WL.q (Y.move (.pl rfl)) rfl ?_
  refine WL.q (Y.move (.pl rfl)) rfl ?_
  refine WL.q (Y.mulW (.pl rfl) (.pl rfl)) rfl ?_
  refine WL.q (Y.assign (.pl rfl)) rfl ?_
  refine WL.next hQ12 (.cons (i := 4) rfl (.cons (i := 5) rfl (.nil))) ?_
  obtain rfl := Option.some.inj hF
  refine W.retV (fn := Try.f109) (vs := [.int .u64 (IntKind.u64.wrap ((IntKind.u64.wrap ((IntKind.u64.wrap ((shrI .u64 x1 32) * (shrI .u64 y2 32))) + (shrI .u64 (IntKind.u64.wrap ((IntKind.u64.wrap ((shrI .u64 x1 32) * (bandI .u64 y2 4294967295))) + (shrI .u64 (IntKind.u64.wrap ((bandI .u64 x1 4294967295) * (bandI .u64 y2 4294967295))) 32))) 32))) + (shrI .u64 (IntKind.u64.wrap ((bandI .u64 (IntKind.u64.wrap ((IntKind.u64.wrap ((shrI .u64 x1 32) * (bandI .u64 y2 4294967295))) + (shrI .u64 (IntKind.u64.wrap ((bandI .u64 x1 4294967295) * (bandI .u64 y2 4294967295))) 32))) 4294967295) + (IntKind.u64.wrap ((bandI .u64 x1 4294967295) * (shrI .u64 y2 32))))) 32))), .int .u64 (IntKind.u64.wrap (x1 * y2))]) Try.results109 ⟨.tmp rfl, ⟨.tmp rfl, trivial⟩⟩ (fun _ _ h => h) (fun wz hw => ?_)
  exact hR _ _ ⟨rfl, (hw.pick [] rfl)⟩

def math_bits_Mul (N : Nat) (x1 : Int) (y2 : Int) : Option (Int × Int) :=
  cond false
    (bd (math_bits_Mul32 N (IntKind.u32.wrap x1) (IntKind.u32.wrap y2)) fun (r3 : Unit) =>
    some ((IntKind.u64.wrap (IntKind.u32.wrap (shrI .u64 (IntKind.u64.wrap ((IntKind.u64.wrap (IntKind.u32.wrap x1)) * (IntKind.u64.wrap (IntKind.u32.wrap y2)))) 32))), (IntKind.u64.wrap (IntKind.u32.wrap (IntKind.u64.wrap ((IntKind.u64.wrap (IntKind.u32.wrap x1)) * (IntKind.u64.wrap (IntKind.u32.wrap y2))))))))
    (bd (math_bits_Mul64 N x1 y2) fun (r4 : Unit) =>
    some ((IntKind.u64.wrap ((IntKind.u64.wrap ((IntKind.u64.wrap ((shrI .u64 x1 32) * (shrI .u64 y2 32))) + (shrI .u64 (IntKind.u64.wrap ((IntKind.u64.wrap ((shrI .u64 x1 32) * (bandI .u64 y2 4294967295))) + (shrI .u64 (IntKind.u64.wrap ((bandI .u64 x1 4294967295) * (bandI .u64 y2 4294967295))) 32))) 32))) + (shrI .u64 (IntKind.u64.wrap ((bandI .u64 (IntKind.u64.wrap ((IntKind.u64.wrap ((shrI .u64 x1 32) * (bandI .u64 y2 4294967295))) + (shrI .u64 (IntKind.u64.wrap ((bandI .u64 x1 4294967295) * (bandI .u64 y2 4294967295))) 32))) 4294967295) + (IntKind.u64.wrap ((bandI .u64 x1 4294967295) * (shrI .u64 y2 32))))) 32))), (IntKind.u64.wrap (x1 * y2))))

theorem math_bits_Mul_ok {N : Nat} {x1 : Int} {y2 : Int} {res : (Int × Int)} (hF : math_bits_Mul N x1 y2 = some res) (w : World) :
    Pure Try.prog 92 [.int .u64 x1, .int .u64 y2] w (.tuple #[.int .u64 res.1, .int .u64 res.2]) := by
  refine W.enter (n := 30) Try.func92 rfl rfl Sub.refl (by simp) (St.start w) fun R hR => ?_
  unfold math_bits_Mul at hF
  -- region 0: bits.go:445
  refine W.seqR fun Q1 hQ1 => ?_
  refine WL.q (Y.assign (.pl rfl)) rfl ?_
  refine WL.q (Y.assign (.pl rfl)) rfl ?_
  refine WL.next hQ1 (.cons (i := 0) rfl (.cons (i := 1) rfl (.nil))) ?_
  refine W.seq fun K2 hK2 => ?_
  refine W.cond (.pl rfl) (fun hC3 => ?_) (fun hC3 => ?_)
  · replace hF := cpos hC3 hF
    -- region 1: bits.go:447
    refine W.seqR fun Q4 hQ4 => ?_
    refine WL.q (Y.move (.pl rfl)) rfl ?_
    refine WL.q (Y.conv Try.underlying98 Try.underlying197 (.pl rfl)) rfl ?_
    refine WL.q (Y.move (.pl rfl)) rfl ?_
    refine WL.q (Y.conv Try.underlying98 Try.underlying197 (.pl rfl)) rfl ?_
    obtain ⟨r3, hr3, hF⟩ := bnd hF
    refine WL.step (WO.callP isGo108 (.cons (.pl rfl) (.cons (.pl rfl) (.nil))) rfl (fun wz hw => math_bits_Mul32_ok (hr3) wz ) ?_)
    refine WL.q (Y.move (.pl rfl)) rfl ?_
    refine WL.q (Y.extract (.pl rfl) rfl) rfl ?_
    refine WL.q (Y.extract (.pl rfl) rfl) rfl ?_
    refine WL.q (Y.assign (.pl rfl)) rfl ?_
    refine WL.q (Y.assign (.pl rfl)) rfl ?_
    refine WL.next hQ4 (.cons (i := 6) rfl (.cons (i := 7) rfl (.nil))) ?_
    -- region 2: bits.go:448
    refine W.seqR fun Q5 hQ5 => ?_
    refine WL.q (Y.move (.pl rfl)) rfl ?_
    refine WL.q (Y.conv Try.underlying197 Try.underlying98 (.pl rfl)) rfl ?_
    refine WL.q (Y.move (.pl rfl)) rfl ?_
    refine WL.q (Y.conv Try.underlying197 Try.underlying98 (.pl rfl)) rfl ?_
    refine WL.q (Y.assign (.pl rfl)) rfl ?_
    refine WL.q (Y.assign (.pl rfl)) rfl ?_
    refine WL.next hQ5 (.cons (i := 4) rfl (.cons (i := 5) rfl (.nil))) ?_
    obtain rfl := Option.some.inj hF
    refine W.retV (fn := Try.f92) (vs := [.int .u64 (IntKind.u64.wrap (IntKind.u32.wrap (shrI .u64 (IntKind.u64.wrap ((IntKind.u64.wrap (IntKind.u32.wrap x1)) * (IntKind.u64.wrap (IntKind.u32.wrap y2)))) 32))), .int .u64 (IntKind.u64.wrap (IntKind.u32.wrap (IntKind.u64.wrap ((IntKind.u64.wrap (IntKind.u32.wrap x1)) * (IntKind.u64.wrap (IntKind.u32.wrap y2))))))]) Try.results92 ⟨.tmp rfl, ⟨.tmp rfl, trivial⟩⟩ (fun _ _ h => h) (fun wz hw => ?_)
    exact hR _ _ ⟨rfl, (hw.pick [] rfl)⟩
  · replace hF := cneg hC3 hF
    refine W.skip ?_
    refine W.go hK2 (.cons (i := 0) rfl (.cons (i := 1) rfl (.nil))) ?_
    -- region 3: bits.go:450
    refine W.seqR fun Q6 hQ6 => ?_
    refine WL.q (Y.move (.pl rfl)) rfl ?_
    refine WL.q (Y.move (.pl rfl)) rfl ?_
    obtain ⟨r4, hr4, hF⟩ := bnd hF
    refine WL.step (WO.callP isGo109 (.cons (.pl rfl) (.cons (.pl rfl) (.nil))) rfl (fun wz hw => math_bits_Mul64_ok (hr4) wz ) ?_)
    refine WL.q (Y.move (.pl rfl)) rfl ?_
    refine WL.q (Y.extract (.pl rfl) rfl) rfl ?_
    refine WL.q (Y.extract (.pl rfl) rfl) rfl ?_
    refine WL.q (Y.assign (.pl rfl)) rfl ?_
    refine WL.q (Y.assign (.pl rfl)) rfl ?_
    refine WL.next hQ6 (.cons (i := 8) rfl (.cons (i := 9) rfl (.nil))) ?_
    -- region 4: bits.go:451
    refine W.seqR fun Q7 hQ7 => ?_
    refine WL.q (Y.move (.pl rfl)) rfl ?_
    refine WL.q (Y.move (.pl rfl)) rfl ?_
    refine WL.q (Y.assign (.pl rfl)) rfl ?_
    refine WL.q (Y.assign (.pl rfl)) rfl ?_
    refine WL.next hQ7 (.cons (i := 4) rfl (.cons (i := 5) rfl (.nil))) ?_
    obtain rfl := Option.some.inj hF
    refine W.retV (fn := Try.f92) (vs := [.int .u64 (IntKind.u64.wrap ((IntKind.u64.wrap ((IntKind.u64.wrap ((shrI .u64 x1 32) * (shrI .u64 y2 32))) + (shrI .u64 (IntKind.u64.wrap ((IntKind.u64.wrap ((shrI .u64 x1 32) * (bandI .u64 y2 4294967295))) + (shrI .u64 (IntKind.u64.wrap ((bandI .u64 x1 4294967295) * (bandI .u64 y2 4294967295))) 32))) 32))) + (shrI .u64 (IntKind.u64.wrap ((bandI .u64 (IntKind.u64.wrap ((IntKind.u64.wrap ((shrI .u64 x1 32) * (bandI .u64 y2 4294967295))) + (shrI .u64 (IntKind.u64.wrap ((bandI .u64 x1 4294967295) * (bandI .u64 y2 4294967295))) 32))) 4294967295) + (IntKind.u64.wrap ((bandI .u64 x1 4294967295) * (shrI .u64 y2 32))))) 32))), .int .u64 (IntKind.u64.wrap (x1 * y2))]) Try.results92 ⟨.tmp rfl, ⟨.tmp rfl, trivial⟩⟩ (fun _ _ h => h) (fun wz hw => ?_)
    exact hR _ _ ⟨rfl, (hw.pick [] rfl)⟩

def slices_Repeat_int_int_L3 (N : Nat) : ((List Int) × Int) → Option (((List Int) × Int) ⊕ (List Int))
  | (newslice11, n12) =>
    cond (decide (n12 < ((newslice11).length : Int)))
      (ck (slB (newslice11).length n12 ((newslice11).length : Int)) <|
      ck (slB (newslice11).length 0 n12) <|
      ck (ok64 (n12 + (((min ((newslice11.drop n12.toNat)).length ((newslice11.take n12.toNat)).length) : Nat) : Int))) <|
      some (.inl ((ovr newslice11 n12.toNat ((newslice11.take n12.toNat).take (min ((newslice11.drop n12.toNat)).length ((newslice11.take n12.toNat)).length))), (n12 + (((min ((newslice11.drop n12.toNat)).length ((newslice11.take n12.toNat)).length) : Nat) : Int)))))
      (some (.inr newslice11))

def slices_Repeat_int_int (N : Nat) (x1 : (List Int)) (count6 : Int) : Option (List Int) :=
  bd (α := Unit) (cond (decide (count6 < 0))
      (none)
      (some ())) <|
  fun _ => 
    bd (math_bits_Mul N (IntKind.u64.wrap ((x1).length : Int)) (IntKind.u64.wrap count6)) fun (r7 : (Int × Int)) =>
    bd (α := Unit) (cond ((decide (0 < r7.1)) || (decide (9223372036854775807 < r7.2)))
        (none)
        (some ())) <|
    fun _ => 
      ck (mkB 8 (IntKind.i64.wrap r7.2)) <|
      bd (α := (List Int)) (iter (slices_Repeat_int_int_L3 N) N ((ovr (List.replicate (IntKind.i64.wrap r7.2).toNat (0 : Int)) (0 : Int).toNat (x1.take (min ((List.replicate (IntKind.i64.wrap r7.2).toNat (0 : Int))).length (x1).length))), (((min ((List.replicate (IntKind.i64.wrap r7.2).toNat (0 : Int))).length (x1).length) : Nat) : Int))) <|
      fun (newslice10 : (List Int)) => 
        some newslice10

theorem slices_Repeat_int_int_ok {N : Nat} {x1 : (List Int)} {count6 : Int} {res : (List Int)} (hF : slices_Repeat_int_int N x1 count6 = some res) (w : World) {v5 : Value} (hs4 : SlIn (eI .i64) 1 w v5 x1) :
    Made Try.prog 65 [v5, .int .i64 count6] w (fun g : (Option Addr × Nat) => .slice g.1 (res).length g.2) (fun g => [cR (eI .i64) 1 g.1 g.2 3 res]) (fun g => True) := by
  obtain ⟨A2, c3, rfl, hcc3, hs4⟩ := hs4.form
  refine W.enter (n := 48) Try.func65 rfl rfl Sub.refl (by simp) (St.start w) fun R hR => ?_
  unfold slices_Repeat_int_int at hF
  -- region 0: slices.go:514
  refine W.seqR fun Q1 hQ1 => ?_
  refine WL.q (Y.assign (.pl rfl)) rfl ?_
  refine WL.next hQ1 (.cons (i := 0) rfl (.cons (i := 1) rfl (.nil))) ?_
  obtain ⟨o2, hF2, hF⟩ := bnd hF
  refine W.join0 (Em := []) (M := []) (I := () = o2) (.cons (i := 0) rfl (.cons (i := 1) rfl (.nil))) (fun K3 hK3 => ?_) ?_
  · -- up to
    -- region 1: slices.go:515
    refine W.seqR fun Q4 hQ4 => ?_
    refine WL.q (Y.move (.pl rfl)) rfl ?_
    refine WL.q (Y.lss (.pl rfl) (.pl rfl)) rfl ?_
    refine WL.next hQ4 (.cons (i := 0) rfl (.cons (i := 1) rfl (.cons (i := 10) rfl (.nil)))) ?_
    refine W.cond (.pl rfl) (fun hC5 => ?_) (fun hC5 => ?_)
    · replace hF2 := cpos hC5 hF2
      exact nomatch hF2
    · replace hF2 := cneg hC5 hF2
      refine W.skip ?_
      exact W.joinAt0 hK3  (Option.some.inj hF2) (.nil) (.cons (i := 0) rfl (.cons (i := 1) rfl (.nil))) (fun wz hw => hw.pick [] rfl)
  · -- behind
    rintro  rfl
    -- region 3: slices.go:520
    refine W.seqR fun Q6 hQ6 => ?_
    refine WL.q (Y.move (.pl rfl)) rfl ?_
    refine WL.q (Y.len Try.underlying23 (.pl rfl)) rfl ?_
    refine WL.q (Y.conv Try.underlying3 Try.underlying98 (.pl rfl)) rfl ?_
    refine WL.q (Y.move (.pl rfl)) rfl ?_
    refine WL.q (Y.conv Try.underlying3 Try.underlying98 (.pl rfl)) rfl ?_
    obtain ⟨r7, hr7, hF⟩ := bnd hF
    refine WL.step (WO.callP isGo92 (.cons (.pl rfl) (.cons (.pl rfl) (.nil))) rfl (fun wz hw => math_bits_Mul_ok (hr7) wz ) ?_)
    refine WL.q (Y.move (.pl rfl)) rfl ?_
    refine WL.q (Y.extract (.pl rfl) rfl) rfl ?_
    refine WL.q (Y.extract (.pl rfl) rfl) rfl ?_
    refine WL.q (Y.assign (.pl rfl)) rfl ?_
    refine WL.q (Y.assign (.pl rfl)) rfl ?_
    refine WL.next hQ6 (.cons (i := 0) rfl (.cons (i := 5) rfl (.cons (i := 6) rfl (.nil)))) ?_
    obtain ⟨o7, hF7, hF⟩ := bnd hF
    refine W.join0 (Em := []) (M := []) (I := () = o7) (.cons (i := 0) rfl (.cons (i := 6) rfl (.nil))) (fun K8 hK8 => ?_) ?_
    · -- up to
      -- region 4: slices.go:521
      refine W.seqR fun Q9 hQ9 => ?_
      refine WL.q (Y.move (.pl rfl)) rfl ?_
      refine WL.q (Y.gtr (.pl rfl) (.pl rfl)) rfl ?_
      refine WL.q (Y.move (.pl rfl)) rfl ?_
      refine WL.g (.pl rfl rfl rfl) (fun hg => Y.move (.pl rfl)) rfl ?_
      refine WL.g (.pl rfl rfl rfl) (fun hg => Y.gtr (.gd (hg) rfl) (.pl rfl)) rfl ?_
      refine WL.q (Y.or (.pl rfl) (fun h2 => .gd (eqf h2) rfl)) rfl ?_
      refine WL.next hQ9 (.cons (i := 0) rfl (.cons (i := 6) rfl (.cons (i := 26) rfl (.nil)))) ?_
      refine W.cond (.pl rfl) (fun hC10 => ?_) (fun hC10 => ?_)
      · replace hF7 := cpos hC10 hF7
        exact nomatch hF7
      · replace hF7 := cneg hC10 hF7
        refine W.skip ?_
        exact W.joinAt0 hK8  (Option.some.inj hF7) (.nil) (.cons (i := 0) rfl (.cons (i := 6) rfl (.nil))) (fun wz hw => hw.pick [] rfl)
    · -- behind
      rintro  rfl
      -- region 6: slices.go:525
      refine W.seqR fun Q11 hQ11 => ?_
      refine WL.q (Y.move (.pl rfl)) rfl ?_
      refine WL.q (Y.conv Try.underlying98 Try.underlying3 (.pl rfl)) rfl ?_
      obtain ⟨hk9, hF⟩ := ckh hF
      refine WL.step (WO.makeC (enc := (eI .i64)) (z := 0) Try.underlying23 mka3 rfl (.pl rfl) (hk9) rfl fun b8 => ?_)
      refine WL.q (Y.assign (.pl rfl)) rfl ?_
      refine WL.next hQ11 (.cons (i := 0) rfl (.cons (i := 7) rfl (.nil))) ?_
      -- region 7: slices.go:526
      refine W.seqR fun Q12 hQ12 => ?_
      refine WL.q (Y.move (.pl rfl)) rfl ?_
      refine WL.q (Y.move (.pl rfl)) rfl ?_
      refine WL.step (WO.copyV (sz := 1) (lo := 0) (xs := (List.replicate (IntKind.i64.wrap r7.2).toNat (0 : Int))) (ys := x1) Try.underlying23 cells3 rfl (fun _ => rfl) oneI (i := 0) rfl (.pl rfl) (fun h => (subA_zero h.2 _ _).symm) (.pl rfl) (fun wz hw => (hs4.mono hw)) (Int.le_refl _) (by simp) rfl ?_)
      refine WL.q (Y.assign (.pl rfl)) rfl ?_
      refine WL.next hQ12 (.cons (i := 7) rfl (.cons (i := 8) rfl (.nil))) ?_
      obtain ⟨o13, hF13, hF⟩ := bnd hF
      refine W.join1 (Em := fun (newslice10 : (List Int)) => [(7, .slice (some ⟨b8, 0, none⟩) (newslice10).length (IntKind.i64.wrap r7.2).toNat)]) (M := fun newslice10 => [cR (eI .i64) 1 (some ⟨b8, 0, none⟩) (IntKind.i64.wrap r7.2).toNat 3 newslice10]) (I := fun newslice10 => newslice10 = o13) (.nil) (fun K14 hK14 => ?_) ?_
      · -- up to
        refine W.block ?_
        refine W.loop2 (Em := fun (newslice11 : (List Int)) (n12 : Int) => [(7, .slice (some ⟨b8, 0, none⟩) (newslice11).length (IntKind.i64.wrap r7.2).toNat), (8, .int .i64 n12)]) (M := fun newslice11 n12 => [cR (eI .i64) 1 (some ⟨b8, 0, none⟩) (IntKind.i64.wrap r7.2).toNat 3 newslice11]) (I := fun newslice11 n12 k15 => iter (slices_Repeat_int_int_L3 N) k15 (newslice11, n12) = some o13) (ovr (List.replicate (IntKind.i64.wrap r7.2).toNat (0 : Int)) (0 : Int).toNat (x1.take (min ((List.replicate (IntKind.i64.wrap r7.2).toNat (0 : Int))).length (x1).length))) (((min ((List.replicate (IntKind.i64.wrap r7.2).toNat (0 : Int))).length (x1).length) : Nat) : Int) N (hF13) (.cons (eqSl (by simp)) (.cons rfl (.nil))) (.nil) (fun wz hw => hw.pick [0] rfl) (fun newslice11 n12 k15 hI K16 hK16 => ?_)
        obtain ⟨k15, t15, rfl, hF15, hN15⟩ := iter_step hI
        refine W.seq fun K17 hK17 => ?_
        -- region 8: slices.go:527
        refine W.seqR fun Q18 hQ18 => ?_
        refine WL.q (Y.move (.pl rfl)) rfl ?_
        refine WL.q (Y.move (.pl rfl)) rfl ?_
        refine WL.q (Y.len Try.underlying23 (.pl rfl)) rfl ?_
        refine WL.q (Y.lss (.pl rfl) (.pl rfl)) rfl ?_
        refine WL.next hQ18 (.cons (i := 7) rfl (.cons (i := 8) rfl (.cons (i := 37) rfl (.nil)))) ?_
        refine W.cond (.pl rfl) (fun hC19 => ?_) (fun hC19 => ?_)
        · replace hF15 := cpos hC19 hF15
          refine W.skip ?_
          refine W.go hK17 (.cons (i := 7) rfl (.cons (i := 8) rfl (.nil))) ?_
          refine W.block ?_
          -- region 9: slices.go:528
          refine W.regX 7 (by kernel_rfl) ?_
          refine WX.pure 0 #[true, false, false, false, false, false, false, false, false, false] rfl (by kernel_rfl) (fun _ _ => Y.move (.pl rfl)) rfl ?_
          refine WX.pure 1 #[true, true, false, false, false, false, false, false, false, false] rfl (by kernel_rfl) (fun _ _ => Y.move (.pl rfl)) rfl ?_
          refine WX.pure 2 #[true, true, true, false, false, false, false, false, false, false] rfl (by kernel_rfl) (fun _ _ => Y.move (.pl rfl)) rfl ?_
          obtain ⟨hk13, hF15⟩ := ckh hF15
          refine WX.take 3 #[true, true, true, true, false, false, false, false, false, false] (fun wz hw => St.tail [] hw) rfl (by kernel_rfl) (Y.sliceR1 Try.underlying23 cells3 (i := 0) rfl (.pl rfl) rfl (.pl rfl) (hk13)) rfl ?_
          refine WX.pure 4 #[true, true, true, true, true, false, false, false, false, false] rfl (by kernel_rfl) (fun _ _ => Y.move (.pl rfl)) rfl ?_
          refine WX.pure 5 #[true, true, true, true, true, true, false, false, false, false] rfl (by kernel_rfl) (fun _ _ => Y.move (.pl rfl)) rfl ?_
          obtain ⟨hk14, hF15⟩ := ckh hF15
          refine WX.take 6 #[true, true, true, true, true, true, true, false, false, false] (fun wz hw => St.tail [] hw) rfl (by kernel_rfl) (Y.sliceR0 Try.underlying23 cells3 (i := 0) rfl (.pl rfl) rfl (.pl rfl) (hk14)) rfl ?_
          refine WX.stop #[true, true, true, true, true, true, true, true, false, false] (fun wz hw => St.tail [] hw) rfl (by kernel_rfl) (WO.copyV (sz := 1) (lo := n12) (xs := newslice11) (ys := (newslice11.take n12.toNat)) Try.underlying23 cells3 rfl (fun _ => rfl) oneI (i := 0) rfl (.pl rfl) (fun _ => rfl) (.pl rfl) (fun wz hw => (SlIn.sub0 (SlIn.ofRow (enc := (eI .i64)) (sz := 1) (fun _ => rfl) hw (i := 0) rfl) (slB_nat0 (hk14)))) (slB_le (hk13)).1 (fit1 (hk13)) rfl ?_)
          obtain ⟨hk15, hF15⟩ := ckh hF15
          refine WA.take 8 #[true, true, true, true, true, true, true, true, true, false] rfl (by kernel_rfl) (fun _ _ => Y.add (.pl rfl) (.pl rfl) (ok64_lt (hk15))) rfl ?_
          refine WA.take 9 #[true, true, true, true, true, true, true, true, true, true] rfl (by kernel_rfl) (fun _ _ => Y.assign (.pl rfl)) rfl ?_
          refine WA.done (by kernel_rfl) ?_
          obtain rfl := Option.some.inj hF15
          exact W.again2 hK16 (ovr newslice11 n12.toNat ((newslice11.take n12.toNat).take (min ((newslice11.drop n12.toNat)).length ((newslice11.take n12.toNat)).length))) (n12 + (((min ((newslice11.drop n12.toNat)).length ((newslice11.take n12.toNat)).length) : Nat) : Int)) k15 hN15 (Nat.lt_succ_self _) (.cons (eqSl (by simp)) (.cons rfl (.nil))) (.nil) (fun wz hw => hw.pick [0] rfl)
        · replace hF15 := cneg hC19 hF15
          refine W.exit ?_
          obtain rfl := Option.some.inj hF15
          exact W.joinAt1 hK14 newslice11 (einr hN15) (.cons rfl (.nil)) (.nil) (fun wz hw => hw.pick [0] rfl)
      · -- behind
        rintro newslice10 rfl
        -- region 10: slices.go:530
        refine W.seqR fun Q21 hQ21 => ?_
        refine WL.q (Y.move (.pl rfl)) rfl ?_
        refine WL.q (Y.assign (.pl rfl)) rfl ?_
        refine WL.next hQ21 (.cons (i := 4) rfl (.nil)) ?_
        obtain rfl := Option.some.inj hF
        refine W.retV (fn := Try.f65) (vs := [.slice (some ⟨b8, 0, none⟩) (newslice10).length (IntKind.i64.wrap r7.2).toNat]) Try.results65 ⟨.tmp rfl, trivial⟩ (fun _ _ h => h) (fun wz hw => ?_)
        exact hR _ _ ⟨((some ⟨b8, 0, none⟩), (IntKind.i64.wrap r7.2).toNat), trivial, rfl, (hw.pick [0] rfl)⟩

def serial_sources_L3 (N : Nat) (sequence6 : (List Int)) (l1 : (List Deed)) : ((List Int) × Int) → Option (((List Int) × Int) ⊕ (List Int))
  | (out18, v20) =>
    cond (decide (v20 < ((sequence6).length : Int)))
      (bd (ix sequence6 v20) fun (x21 : Int) =>
      bd (ix l1 x21) fun (x22 : Deed) =>
      cond (decide (x22.kind = 0))
        (bd (ix (out18.drop ((l1).length : Int).toNat) x22.item) fun (x24 : Int) =>
        bd (ix out18 x21) fun (x25 : Int) =>
        ck (ok64 (v20 + 1)) <|
        some (.inl ((out18.set x21.toNat x24), (v20 + 1))))
        (cond (decide (x22.kind = 1))
          (bd (ix (out18.drop ((l1).length : Int).toNat) x22.item) fun (x27 : Int) =>
          ck (ok64 (v20 + 1)) <|
          some (.inl ((out18.set (((l1).length : Int) + x22.item).toNat x21), (v20 + 1))))
          (ck (ok64 (v20 + 1)) <|
          some (.inl (out18, (v20 + 1))))))
      (some (.inr out18))

def serial_sources (N : Nat) (l1 : (List Deed)) (sequence6 : (List Int)) : Option (List Int) :=
  ck (ok64 (((l1).length : Int) + 6)) <|
  bd (slices_Repeat_int_int N ([(-1)] : List Int) (((l1).length : Int) + 6)) fun (r13 : (List Int)) =>
  ck (slB (r13).length ((l1).length : Int) ((r13).length : Int)) <|
  bd (α := (List Int)) (iter (serial_sources_L3 N sequence6 l1) N (r13, 0)) <|
  fun (out17 : (List Int)) => 
    some out17

theorem serial_sources_ok {N : Nat} {l1 : (List Deed)} {sequence6 : (List Int)} {res : (List Int)} (hF : serial_sources N l1 sequence6 = some res) (w : World) {v5 : Value} (hs4 : SlIn encDeed 3 w v5 l1) {v10 : Value} (hs9 : SlIn (eI .i64) 1 w v10 sequence6) :
    Made Try.prog 37 [v5, v10] w (fun g : (Option Addr × Nat) => .slice g.1 (res).length g.2) (fun g => [cR (eI .i64) 1 g.1 g.2 3 res]) (fun g => True) := by
  obtain ⟨A2, c3, rfl, hcc3, hs4⟩ := hs4.form
  obtain ⟨A7, c8, rfl, hcc8, hs9⟩ := hs9.form
  refine W.enter (n := 50) Try.func37 rfl rfl Sub.refl (by simp) (St.start w) fun R hR => ?_
  unfold serial_sources at hF
  -- region 0: serial.go:59
  refine W.seqR fun Q1 hQ1 => ?_
  refine WL.q (Y.assign (.pl rfl)) rfl ?_
  refine WL.next hQ1 (.cons (i := 0) rfl (.cons (i := 1) rfl (.nil))) ?_
  -- region 1: serial.go:60
  refine W.seqR fun Q2 hQ2 => ?_
  refine WL.step (WO.bsliceC (enc := (eI .i64)) (ys := ([(-1)] : List Int)) Try.underlying23 bz3 (.cons (.pl rfl) (.nil)) rfl (fun _ => rfl) rfl rfl (by decide) (by decide) rfl fun b11 => ?_)
  refine WL.q (Y.move (.pl rfl)) rfl ?_
  refine WL.q (Y.len Try.underlying40 (.pl rfl)) rfl ?_
  obtain ⟨hk12, hF⟩ := ckh hF
  refine WL.q (Y.add (.pl rfl) (.pl rfl) (ok64_lt (hk12))) rfl ?_
  obtain ⟨r13, hr13, hF⟩ := bnd hF
  refine WL.step (WO.callM isGo65 (.cons (.pl rfl) (.cons (.pl rfl) (.nil))) rfl (fun wz hw => slices_Repeat_int_int_ok (hr13) wz (SlIn.ofRow (fun _ => rfl) hw (i := 0) rfl)) ?_)
  rintro ⟨A14, c15⟩ -
  refine WL.q (Y.assign (.pl rfl)) rfl ?_
  refine WL.next hQ2 (.cons (i := 0) rfl (.cons (i := 1) rfl (.cons (i := 5) rfl (.nil)))) ?_
  -- region 2: serial.go:61
  refine W.seqR fun Q3 hQ3 => ?_
  refine WL.q (Y.move (.pl rfl)) rfl ?_
  refine WL.q (Y.move (.pl rfl)) rfl ?_
  refine WL.q (Y.len Try.underlying40 (.pl rfl)) rfl ?_
  obtain ⟨hk16, hF⟩ := ckh hF
  refine WL.q (Y.sliceR1 Try.underlying23 cells3 (i := 0) rfl (.pl rfl) rfl (.pl rfl) (hk16)) rfl ?_
  refine WL.q (Y.assign (.pl rfl)) rfl ?_
  refine WL.next hQ3 (.cons (i := 0) rfl (.cons (i := 1) rfl (.cons (i := 5) rfl (.cons (i := 6) rfl (.nil))))) ?_
  obtain ⟨o4, hF4, hF⟩ := bnd hF
  refine W.join1 (Em := fun (out17 : (List Int)) => [(5, .slice A14 (out17).length c15)]) (M := fun out17 => [cR (eI .i64) 1 A14 c15 3 out17]) (I := fun out17 => out17 = o4) (.nil) (fun K5 hK5 => ?_) ?_
  · -- up to
    -- region 3: serial.go:62
    refine W.seqR fun Q6 hQ6 => ?_
    refine WL.q (Y.move (.pl rfl)) rfl ?_
    refine WL.q (Y.len Try.underlying23 (.pl rfl)) rfl ?_
    refine WL.q (Y.move (.pl rfl)) rfl ?_
    refine WL.next hQ6 (.cons (i := 0) rfl (.cons (i := 5) rfl (.cons (i := 6) rfl (.cons (i := 19) rfl (.cons (i := 20) rfl (.cons (i := 21) rfl (.nil))))))) ?_
    refine W.block ?_
    refine W.loop2 (Em := fun (out18 : (List Int)) (v20 : Int) => [(5, .slice A14 (out18).length c15), (6, .slice (subA A14 c15 ((l1).length : Int).toNat 1) ((out18.drop ((l1).length : Int).toNat)).length (c15 - ((l1).length : Int).toNat)), (21, .int .i64 v20)]) (M := fun out18 v20 => [cR (eI .i64) 1 A14 c15 3 out18]) (I := fun out18 v20 k7 => iter (serial_sources_L3 N sequence6 l1) k7 (out18, v20) = some o4 ∧ slB (out18).length ((l1).length : Int) ((out18).length : Int) = true) r13 0 N (⟨hF4, (hk16)⟩) (.cons rfl (.cons rfl (.cons rfl (.nil)))) (.cons (i := 0) rfl (.cons (i := 19) rfl (.cons (i := 20) rfl (.nil)))) (fun wz hw => hw.pick [0] rfl) (fun out18 v20 k7 hI K8 hK8 => ?_)
    obtain ⟨hI, hs19⟩ := hI
    obtain ⟨k7, t7, rfl, hF7, hN7⟩ := iter_step hI
    -- region 4: serial.go:62
    refine W.seqR fun Q9 hQ9 => ?_
    refine WL.q (Y.lss (.pl rfl) (.pl rfl)) rfl ?_
    refine WL.next hQ9 (.cons (i := 0) rfl (.cons (i := 5) rfl (.cons (i := 6) rfl (.cons (i := 19) rfl (.cons (i := 20) rfl (.cons (i := 21) rfl (.cons (i := 22) rfl (.nil)))))))) ?_
    refine W.seq fun K10 hK10 => ?_
    refine W.cond (.pl rfl) (fun hC11 => ?_) (fun hC11 => ?_)
    · replace hF7 := cpos hC11 hF7
      refine W.skip ?_
      refine W.go hK10 (.cons (i := 0) rfl (.cons (i := 5) rfl (.cons (i := 6) rfl (.cons (i := 19) rfl (.cons (i := 20) rfl (.cons (i := 21) rfl (.nil))))))) ?_
      refine W.seq fun K12 hK12 => ?_
      refine W.block ?_
      -- region 5: serial.go:62
      refine W.seqR fun Q13 hQ13 => ?_
      obtain ⟨x21, hx21, hF7⟩ := bnd hF7
      refine WL.q (Y.slEl Try.underlying23 cells3 hs9 (.pl rfl) (.pl rfl) (ix_lt (hx21))) rfl ?_
      refine WL.q (Y.loadS (enc := (eI .i64)) (v := .int .i64 x21) (j := 0) Try.underlying3 rfl hs9 (.pl rfl) (hx21) rfl rfl) rfl ?_
      refine WL.q (Y.assign (.pl rfl)) rfl ?_
      refine WL.next hQ13 (.cons (i := 0) rfl (.cons (i := 5) rfl (.cons (i := 6) rfl (.cons (i := 8) rfl (.cons (i := 19) rfl (.cons (i := 20) rfl (.cons (i := 21) rfl (.nil)))))))) ?_
      -- region 6: serial.go:63
      refine W.seqR fun Q14 hQ14 => ?_
      refine WL.q (Y.move (.pl rfl)) rfl ?_
      refine WL.q (Y.move (.pl rfl)) rfl ?_
      obtain ⟨x22, hx22, hF7⟩ := bnd hF7
      refine WL.q (Y.slEl Try.underlying40 cells46 hs4 (.pl rfl) (.pl rfl) (ix_lt (hx22))) rfl ?_
      refine WL.q (Y.loadSA (enc := encDeed) (ds := (encDeed x22)) (j := 0) Try.underlying46 rfl cells46 hs4 (.pl rfl) (hx22) rfl rfl subW) rfl ?_
      refine WL.step (WO.alloc (cs := (encDeed (Deed.mk 0 0 0)).toArray) zero46 rfl rfl fun b23 => ?_)
      refine WL.step (WO.storeBA (ds := (encDeed x22)) (cs' := (encDeed x22)) cells46 (.pl rfl) (.pl rfl) rfl (oneDeed _) (i := 0) rfl (lel (o := 0) (l := 3) (m := 3) (by decide) rfl rfl) (putW rfl) ?_)
      refine WL.next hQ14 (.cons (i := 0) rfl (.cons (i := 5) rfl (.cons (i := 6) rfl (.cons (i := 8) rfl (.cons (i := 9) rfl (.cons (i := 19) rfl (.cons (i := 20) rfl (.cons (i := 21) rfl (.nil))))))))) ?_
      -- region 7: serial.go:63
      refine W.seqR fun Q15 hQ15 => ?_
      refine WL.q (Y.fieldAddr0 (off := 1) (ft := 3) Try.underlying46 rfl cells3 (.pl rfl)) rfl ?_
      refine WL.q (Y.loadB (v := .int .i64 x22.kind) Try.underlying3 rfl (.pl rfl) (i := 0) rfl (rfl)) rfl ?_
      refine WL.next hQ15 (.cons (i := 0) rfl (.cons (i := 5) rfl (.cons (i := 6) rfl (.cons (i := 8) rfl (.cons (i := 9) rfl (.cons (i := 19) rfl (.cons (i := 20) rfl (.cons (i := 21) rfl (.cons (i := 30) rfl (.nil)))))))))) ?_
      refine W.block ?_
      -- region 8: serial.go:64
      refine W.seqR fun Q16 hQ16 => ?_
      refine WL.q (Y.eql (.pl rfl) (.pl rfl)) rfl ?_
      refine WL.q (Y.assign (.pl rfl)) rfl ?_
      refine WL.next hQ16 (.cons (i := 0) rfl (.cons (i := 5) rfl (.cons (i := 6) rfl (.cons (i := 8) rfl (.cons (i := 9) rfl (.cons (i := 19) rfl (.cons (i := 20) rfl (.cons (i := 21) rfl (.cons (i := 30) rfl (.cons (i := 31) rfl (.nil))))))))))) ?_
      refine W.cond (.pl rfl) (fun hC17 => ?_) (fun hC17 => ?_)
      · replace hF7 := cpos hC17 hF7
        -- region 9: serial.go:65
        refine W.reg ?_
        refine WL.q (Y.move (.pl rfl)) rfl ?_
        refine WL.q (Y.move (.pl rfl)) rfl ?_
        refine WL.q (Y.move (.pl rfl)) rfl ?_
        refine WL.q (Y.fieldAddr0 (off := 2) (ft := 3) Try.underlying46 rfl cells3 (.pl rfl)) rfl ?_
        refine WL.q (Y.loadB (v := .int .i64 x22.item) Try.underlying3 rfl (.pl rfl) (i := 0) rfl (rfl)) rfl ?_
        obtain ⟨x24, hx24, hF7⟩ := bnd hF7
        refine WL.q (Y.viewEl (xs := out18) Try.underlying23 cells3 (i := 1) rfl (.pl rfl) (.pl rfl) (slB_le (hs19)).1 (ix_lt (hx24)) (ix_lt (ix_view1 (slB_le (hs19)).1 (hx24))).2) rfl ?_
        refine WL.q (Y.loadR (enc := (eI .i64)) (v := .int .i64 x24) (a := x24) (idx := (((l1).length : Int) + x22.item)) (j := 0) Try.underlying3 rfl (fun _ => rfl) (i := 1) rfl (.pl rfl) (ix_get (ix_view1 (slB_le (hs19)).1 (hx24))) rfl rfl) rfl ?_
        obtain ⟨x25, hx25, hF7⟩ := bnd hF7
        refine WL.q (Y.rowEl Try.underlying23 cells3 (i := 1) rfl (.pl rfl) rfl (.pl rfl) (ix_lt (hx25))) rfl ?_
        refine WL.step (WO.storeS (enc := (eI .i64)) (a := x25) (a' := x24) (idx := x21) (j := 0) cells3 (.pl rfl) (.pl rfl) rfl (fun _ => rfl) (i := 1) rfl (ix_get (hx25)) rfl (by decide) rfl ?_)
        refine WL.nil ?_
        refine W.go hK12 (.cons (i := 0) rfl (.cons (i := 5) rfl (.cons (i := 6) rfl (.cons (i := 19) rfl (.cons (i := 20) rfl (.cons (i := 21) rfl (.nil))))))) ?_
        -- region 12: serial.go:62
        refine W.reg ?_
        obtain ⟨hk26, hF7⟩ := ckh hF7
        refine WL.q (Y.add (.pl rfl) (.pl rfl) (ok64_lt (hk26))) rfl ?_
        refine WL.q (Y.move (.pl rfl)) rfl ?_
        refine WL.nil ?_
        obtain rfl := Option.some.inj hF7
        exact W.again2 hK8 (out18.set x21.toNat x24) (v20 + 1) k7 ⟨hN7, ((by simpa only [List.length_set] using (hs19)))⟩ (Nat.lt_succ_self _) (.cons (eqSl (by simp)) (.cons (eqSl (by simp)) (.cons rfl (.nil)))) (.cons (i := 0) rfl (.cons (i := 19) rfl (.cons (i := 20) rfl (.nil)))) (fun wz hw => hw.pick [1] rfl)
      · replace hF7 := cneg hC17 hF7
        -- region 10: serial.go:66
        refine W.seqR fun Q20 hQ20 => ?_
        refine WL.q (Y.eql (.pl rfl) (.pl rfl)) rfl ?_
        refine WL.q (Y.assign (.pl rfl)) rfl ?_
        refine WL.next hQ20 (.cons (i := 0) rfl (.cons (i := 5) rfl (.cons (i := 6) rfl (.cons (i := 8) rfl (.cons (i := 9) rfl (.cons (i := 19) rfl (.cons (i := 20) rfl (.cons (i := 21) rfl (.cons (i := 41) rfl (.nil)))))))))) ?_
        refine W.cond (.pl rfl) (fun hC21 => ?_) (fun hC21 => ?_)
        · replace hF7 := cpos hC21 hF7
          -- region 11: serial.go:67
          refine W.reg ?_
          refine WL.q (Y.move (.pl rfl)) rfl ?_
          refine WL.q (Y.fieldAddr0 (off := 2) (ft := 3) Try.underlying46 rfl cells3 (.pl rfl)) rfl ?_
          refine WL.q (Y.loadB (v := .int .i64 x22.item) Try.underlying3 rfl (.pl rfl) (i := 0) rfl (rfl)) rfl ?_
          refine WL.q (Y.move (.pl rfl)) rfl ?_
          obtain ⟨x27, hx27, hF7⟩ := bnd hF7
          refine WL.q (Y.viewEl (xs := out18) Try.underlying23 cells3 (i := 1) rfl (.pl rfl) (.pl rfl) (slB_le (hs19)).1 (ix_lt (hx27)) (ix_lt (ix_view1 (slB_le (hs19)).1 (hx27))).2) rfl ?_
          refine WL.step (WO.storeS (enc := (eI .i64)) (a := x27) (a' := x21) (idx := (((l1).length : Int) + x22.item)) (j := 0) cells3 (.pl rfl) (.pl rfl) rfl (fun _ => rfl) (i := 1) rfl (ix_get (ix_view1 (slB_le (hs19)).1 (hx27))) rfl (by decide) rfl ?_)
          refine WL.nil ?_
          refine W.go hK12 (.cons (i := 0) rfl (.cons (i := 5) rfl (.cons (i := 6) rfl (.cons (i := 19) rfl (.cons (i := 20) rfl (.cons (i := 21) rfl (.nil))))))) ?_
          -- region 12: serial.go:62
          refine W.reg ?_
          obtain ⟨hk28, hF7⟩ := ckh hF7
          refine WL.q (Y.add (.pl rfl) (.pl rfl) (ok64_lt (hk28))) rfl ?_
          refine WL.q (Y.move (.pl rfl)) rfl ?_
          refine WL.nil ?_
          obtain rfl := Option.some.inj hF7
          exact W.again2 hK8 (out18.set (((l1).length : Int) + x22.item).toNat x21) (v20 + 1) k7 ⟨hN7, ((by simpa only [List.length_set] using (hs19)))⟩ (Nat.lt_succ_self _) (.cons (eqSl (by simp)) (.cons (eqSl (by simp)) (.cons rfl (.nil)))) (.cons (i := 0) rfl (.cons (i := 19) rfl (.cons (i := 20) rfl (.nil)))) (fun wz hw => hw.pick [1] rfl)
        · replace hF7 := cneg hC21 hF7
          refine W.skip ?_
          refine W.go hK12 (.cons (i := 0) rfl (.cons (i := 5) rfl (.cons (i := 6) rfl (.cons (i := 19) rfl (.cons (i := 20) rfl (.cons (i := 21) rfl (.nil))))))) ?_
          -- region 12: serial.go:62
          refine W.reg ?_
          obtain ⟨hk29, hF7⟩ := ckh hF7
          refine WL.q (Y.add (.pl rfl) (.pl rfl) (ok64_lt (hk29))) rfl ?_
          refine WL.q (Y.move (.pl rfl)) rfl ?_
          refine WL.nil ?_
          obtain rfl := Option.some.inj hF7
          exact W.again2 hK8 out18 (v20 + 1) k7 ⟨hN7, (hs19)⟩ (Nat.lt_succ_self _) (.cons rfl (.cons rfl (.cons rfl (.nil)))) (.cons (i := 0) rfl (.cons (i := 19) rfl (.cons (i := 20) rfl (.nil)))) (fun wz hw => hw.pick [1] rfl)
    · replace hF7 := cneg hC11 hF7
      refine W.exit ?_
      obtain rfl := Option.some.inj hF7
      exact W.joinAt1 hK5 out18 (einr hN7) (.cons rfl (.nil)) (.nil) (fun wz hw => hw.pick [0] rfl)
  · -- behind
    rintro out17 rfl
    -- region 13: serial.go:70
    refine W.seqR fun Q25 hQ25 => ?_
    refine WL.q (Y.move (.pl rfl)) rfl ?_
    refine WL.q (Y.assign (.pl rfl)) rfl ?_
    refine WL.next hQ25 (.cons (i := 4) rfl (.nil)) ?_
    obtain rfl := Option.some.inj hF
    refine W.retV (fn := Try.f37) (vs := [.slice A14 (out17).length c15]) Try.results37 ⟨.tmp rfl, trivial⟩ (fun _ _ h => h) (fun wz hw => ?_)
    exact hR _ _ ⟨(A14, c15), trivial, rfl, (hw.pick [0] rfl)⟩

def serial_Check_L3 (N : Nat) (l1 : (List Deed)) : Int → Option (Int ⊕ (Unit ⊕ (Int × Int)))
  | v6 =>
    cond (decide (v6 < ((l1).length : Int)))
      (bd (ix l1 v6) fun (x7 : Deed) =>
      cond ((((((decide (x7.who < 0)) || (decide (6 ≤ x7.who))) || (decide (x7.kind < 0))) || (decide (4 < x7.kind))) || (decide (x7.item < 0))) || (decide (6 ≤ x7.item)))
        (some (.inr (.inr (v6, 3))))
        (ck (ok64 (v6 + 1)) <|
        some (.inl (v6 + 1))))
      (some (.inr (.inl ())))

def serial_Check (N : Nat) (l1 : (List Deed)) : Option (Int × Int) :=
  cond (decide (60 < ((l1).length : Int)))
    (some (0, 2))
    (bd (α := (Unit ⊕ (Int × Int))) (iter (serial_Check_L3 N l1) N 0) <|
    Sum.elim (fun _ => 
      some (0, 0)) (fun p => some p))

theorem serial_Check_ok {N : Nat} {l1 : (List Deed)} {res : (Int × Int)} (hF : serial_Check N l1 = some res) (w : World) {v5 : Value} (hs4 : SlIn encDeed 3 w v5 l1) :
    Pure Try.prog 36 [v5] w (.tuple #[.int .i64 res.1, .int .i64 res.2]) := by
  obtain ⟨A2, c3, rfl, hcc3, hs4⟩ := hs4.form
  refine W.enter (n := 46) Try.func36 rfl rfl Sub.refl (by simp) (St.start w) fun R hR => ?_
  unfold serial_Check at hF
  -- region 0: serial.go:14
  refine W.seqR fun Q1 hQ1 => ?_
  refine WL.q (Y.assign (.pl rfl)) rfl ?_
  refine WL.q (Y.assign (.pl rfl)) rfl ?_
  refine WL.next hQ1 (.cons (i := 0) rfl (.nil)) ?_
  refine W.seq fun K2 hK2 => ?_
  -- region 1: serial.go:15
  refine W.seqR fun Q3 hQ3 => ?_
  refine WL.q (Y.move (.pl rfl)) rfl ?_
  refine WL.q (Y.len Try.underlying40 (.pl rfl)) rfl ?_
  refine WL.q (Y.gtr (.pl rfl) (.pl rfl)) rfl ?_
  refine WL.next hQ3 (.cons (i := 0) rfl (.cons (i := 8) rfl (.nil))) ?_
  refine W.cond (.pl rfl) (fun hC4 => ?_) (fun hC4 => ?_)
  · replace hF := cpos hC4 hF
    -- region 2: serial.go:16
    refine W.seqR fun Q5 hQ5 => ?_
    refine WL.q (Y.assign (.pl rfl)) rfl ?_
    refine WL.q (Y.assign (.pl rfl)) rfl ?_
    refine WL.next hQ5 (.cons (i := 2) rfl (.cons (i := 3) rfl (.nil))) ?_
    obtain rfl := Option.some.inj hF
    refine W.retV (fn := Try.f36) (vs := [.int .i64 0, .int .i64 2]) Try.results36 ⟨.tmp rfl, ⟨.tmp rfl, trivial⟩⟩ (fun _ _ h => h) (fun wz hw => ?_)
    exact hR _ _ ⟨rfl, (hw.pick [] rfl)⟩
  · replace hF := cneg hC4 hF
    refine W.skip ?_
    refine W.go hK2 (.cons (i := 0) rfl (.nil)) ?_
    obtain ⟨o6, hF6, hF⟩ := bnd hF
    refine W.join0 (Em := []) (M := []) (I := (.inl ()) = o6) (.nil) (fun K7 hK7 => ?_) ?_
    · -- up to
      -- region 3: serial.go:18
      refine W.seqR fun Q8 hQ8 => ?_
      refine WL.q (Y.move (.pl rfl)) rfl ?_
      refine WL.q (Y.len Try.underlying40 (.pl rfl)) rfl ?_
      refine WL.q (Y.move (.pl rfl)) rfl ?_
      refine WL.next hQ8 (.cons (i := 9) rfl (.cons (i := 10) rfl (.cons (i := 11) rfl (.nil)))) ?_
      refine W.block ?_
      refine W.loop1 (Em := fun (v6 : Int) => [(11, .int .i64 v6)]) (M := fun v6 => []) (I := fun v6 k9 => iter (serial_Check_L3 N l1) k9 v6 = some o6) 0 N (hF6) (.cons rfl (.nil)) (.cons (i := 9) rfl (.cons (i := 10) rfl (.nil))) (fun wz hw => hw.pick [] rfl) (fun v6 k9 hI K10 hK10 => ?_)
      obtain ⟨k9, t9, rfl, hF9, hN9⟩ := iter_step hI
      -- region 4: serial.go:18
      refine W.seqR fun Q11 hQ11 => ?_
      refine WL.q (Y.lss (.pl rfl) (.pl rfl)) rfl ?_
      refine WL.next hQ11 (.cons (i := 9) rfl (.cons (i := 10) rfl (.cons (i := 11) rfl (.cons (i := 12) rfl (.nil))))) ?_
      refine W.seq fun K12 hK12 => ?_
      refine W.cond (.pl rfl) (fun hC13 => ?_) (fun hC13 => ?_)
      · replace hF9 := cpos hC13 hF9
        refine W.skip ?_
        refine W.go hK12 (.cons (i := 9) rfl (.cons (i := 10) rfl (.cons (i := 11) rfl (.nil)))) ?_
        refine W.seq fun K14 hK14 => ?_
        refine W.block ?_
        -- region 5: serial.go:18
        refine W.seqR fun Q15 hQ15 => ?_
        refine WL.q (Y.move (.pl rfl)) rfl ?_
        obtain ⟨x7, hx7, hF9⟩ := bnd hF9
        refine WL.q (Y.slEl Try.underlying40 cells46 hs4 (.pl rfl) (.pl rfl) (ix_lt (hx7))) rfl ?_
        refine WL.q (Y.loadSA (enc := encDeed) (ds := (encDeed x7)) (j := 0) Try.underlying46 rfl cells46 hs4 (.pl rfl) (hx7) rfl rfl subW) rfl ?_
        refine WL.step (WO.alloc (cs := (encDeed (Deed.mk 0 0 0)).toArray) zero46 rfl rfl fun b8 => ?_)
        refine WL.q (Y.assign (.pl rfl)) rfl ?_
        refine WL.step (WO.storeBA (ds := (encDeed x7)) (cs' := (encDeed x7)) cells46 (.pl rfl) (.pl rfl) rfl (oneDeed _) (i := 0) rfl (lel (o := 0) (l := 3) (m := 3) (by decide) rfl rfl) (putW rfl) ?_)
        refine WL.next hQ15 (.cons (i := 4) rfl (.cons (i := 5) rfl (.cons (i := 9) rfl (.cons (i := 10) rfl (.cons (i := 11) rfl (.nil)))))) ?_
        -- region 6: serial.go:19
        refine W.seqR fun Q16 hQ16 => ?_
        refine WL.q (Y.fieldAddr0 (off := 0) (ft := 3) Try.underlying46 rfl cells3 (.pl rfl)) rfl ?_
        refine WL.q (Y.loadB (v := .int .i64 x7.who) Try.underlying3 rfl (.pl rfl) (i := 0) rfl (rfl)) rfl ?_
        refine WL.q (Y.lss (.pl rfl) (.pl rfl)) rfl ?_
        refine WL.q (Y.move (.pl rfl)) rfl ?_
        refine WL.g (.pl rfl rfl rfl) (fun hg => Y.fieldAddr0 (off := 0) (ft := 3) Try.underlying46 rfl cells3 (.pl rfl)) rfl ?_
        refine WL.g (.pl rfl rfl rfl) (fun hg => Y.loadB (v := .int .i64 x7.who) Try.underlying3 rfl (.gd (hg) rfl) (i := 0) rfl (rfl)) rfl ?_
        refine WL.g (.pl rfl rfl rfl) (fun hg => Y.geq (.gd (hg) rfl) (.pl rfl)) rfl ?_
        refine WL.q (Y.or (.pl rfl) (fun h2 => .gd (eqf h2) rfl)) rfl ?_
        refine WL.q (Y.move (.pl rfl)) rfl ?_
        refine WL.g (.pl rfl rfl rfl) (fun hg => Y.fieldAddr0 (off := 1) (ft := 3) Try.underlying46 rfl cells3 (.pl rfl)) rfl ?_
        refine WL.g (.pl rfl rfl rfl) (fun hg => Y.loadB (v := .int .i64 x7.kind) Try.underlying3 rfl (.gd (hg) rfl) (i := 0) rfl (rfl)) rfl ?_
        refine WL.g (.pl rfl rfl rfl) (fun hg => Y.lss (.gd (hg) rfl) (.pl rfl)) rfl ?_
        refine WL.q (Y.or (.pl rfl) (fun h2 => .gd (eqf h2) rfl)) rfl ?_
        refine WL.q (Y.move (.pl rfl)) rfl ?_
        refine WL.g (.pl rfl rfl rfl) (fun hg => Y.fieldAddr0 (off := 1) (ft := 3) Try.underlying46 rfl cells3 (.pl rfl)) rfl ?_
        refine WL.g (.pl rfl rfl rfl) (fun hg => Y.loadB (v := .int .i64 x7.kind) Try.underlying3 rfl (.gd (hg) rfl) (i := 0) rfl (rfl)) rfl ?_
        refine WL.g (.pl rfl rfl rfl) (fun hg => Y.gtr (.gd (hg) rfl) (.pl rfl)) rfl ?_
        refine WL.q (Y.or (.pl rfl) (fun h2 => .gd (eqf h2) rfl)) rfl ?_
        refine WL.q (Y.move (.pl rfl)) rfl ?_
        refine WL.g (.pl rfl rfl rfl) (fun hg => Y.fieldAddr0 (off := 2) (ft := 3) Try.underlying46 rfl cells3 (.pl rfl)) rfl ?_
        refine WL.g (.pl rfl rfl rfl) (fun hg => Y.loadB (v := .int .i64 x7.item) Try.underlying3 rfl (.gd (hg) rfl) (i := 0) rfl (rfl)) rfl ?_
        refine WL.g (.pl rfl rfl rfl) (fun hg => Y.lss (.gd (hg) rfl) (.pl rfl)) rfl ?_
        refine WL.q (Y.or (.pl rfl) (fun h2 => .gd (eqf h2) rfl)) rfl ?_
        refine WL.q (Y.move (.pl rfl)) rfl ?_
        refine WL.g (.pl rfl rfl rfl) (fun hg => Y.fieldAddr0 (off := 2) (ft := 3) Try.underlying46 rfl cells3 (.pl rfl)) rfl ?_
        refine WL.g (.pl rfl rfl rfl) (fun hg => Y.loadB (v := .int .i64 x7.item) Try.underlying3 rfl (.gd (hg) rfl) (i := 0) rfl (rfl)) rfl ?_
        refine WL.g (.pl rfl rfl rfl) (fun hg => Y.geq (.gd (hg) rfl) (.pl rfl)) rfl ?_
        refine WL.q (Y.or (.pl rfl) (fun h2 => .gd (eqf h2) rfl)) rfl ?_
        refine WL.next hQ16 (.cons (i := 4) rfl (.cons (i := 9) rfl (.cons (i := 10) rfl (.cons (i := 11) rfl (.cons (i := 43) rfl (.nil)))))) ?_
        refine W.cond (.pl rfl) (fun hC17 => ?_) (fun hC17 => ?_)
        · replace hF9 := cpos hC17 hF9
          -- region 7: serial.go:20
          refine W.seqR fun Q18 hQ18 => ?_
          refine WL.q (Y.move (.pl rfl)) rfl ?_
          refine WL.q (Y.assign (.pl rfl)) rfl ?_
          refine WL.q (Y.assign (.pl rfl)) rfl ?_
          refine WL.next hQ18 (.cons (i := 2) rfl (.cons (i := 3) rfl (.nil))) ?_
          obtain rfl := Option.some.inj hF9
          obtain rfl := einr hN9
          obtain rfl := Option.some.inj hF
          refine W.retV (fn := Try.f36) (vs := [.int .i64 v6, .int .i64 3]) Try.results36 ⟨.tmp rfl, ⟨.tmp rfl, trivial⟩⟩ (fun _ _ h => h) (fun wz hw => ?_)
          exact hR _ _ ⟨rfl, (hw.pick [] rfl)⟩
        · replace hF9 := cneg hC17 hF9
          refine W.skip ?_
          refine W.go hK14 (.cons (i := 9) rfl (.cons (i := 10) rfl (.cons (i := 11) rfl (.nil)))) ?_
          -- region 8: serial.go:18
          refine W.reg ?_
          obtain ⟨hk9, hF9⟩ := ckh hF9
          refine WL.q (Y.add (.pl rfl) (.pl rfl) (ok64_lt (hk9))) rfl ?_
          refine WL.q (Y.move (.pl rfl)) rfl ?_
          refine WL.nil ?_
          obtain rfl := Option.some.inj hF9
          exact W.again1 hK10 (v6 + 1) k9 hN9 (Nat.lt_succ_self _) (.cons rfl (.nil)) (.cons (i := 9) rfl (.cons (i := 10) rfl (.nil))) (fun wz hw => hw.pick [] rfl)
      · replace hF9 := cneg hC13 hF9
        refine W.exit ?_
        obtain rfl := Option.some.inj hF9
        exact W.joinAt0 hK7  (einr hN9) (.nil) (.nil) (fun wz hw => hw.pick [] rfl)
    · -- behind
      rintro  rfl
      -- region 9: serial.go:23
      refine W.seqR fun Q20 hQ20 => ?_
      refine WL.q (Y.assign (.pl rfl)) rfl ?_
      refine WL.q (Y.assign (.pl rfl)) rfl ?_
      refine WL.next hQ20 (.cons (i := 2) rfl (.cons (i := 3) rfl (.nil))) ?_
      obtain rfl := Option.some.inj hF
      refine W.retV (fn := Try.f36) (vs := [.int .i64 0, .int .i64 0]) Try.results36 ⟨.tmp rfl, ⟨.tmp rfl, trivial⟩⟩ (fun _ _ h => h) (fun wz hw => ?_)
      exact hR _ _ ⟨rfl, (hw.pick [] rfl)⟩

def serial_table_others_L3 (N : Nat) (who3 : Int) (t2 : (List (List Int))) (item4 : Int) : (Int × Int) → Option ((Int × Int) ⊕ Int)
  | (out6, v7) =>
    cond (decide (v7 < 6))
      (cond (!(decide (v7 = who3)))
        (bd (ax 6 [] t2 v7) fun (x8 : (List Int)) =>
        bd (ax 6 0 x8 item4) fun (x9 : Int) =>
        ck (ok64 (v7 + 1)) <|
        some (.inl ((max out6 x9), (v7 + 1))))
        (ck (ok64 (v7 + 1)) <|
        some (.inl (out6, (v7 + 1)))))
      (some (.inr out6))

def serial_table_others (N : Nat) (t2 : (List (List Int))) (who3 : Int) (item4 : Int) : Option Int :=
  bd (α := Int) (iter (serial_table_others_L3 N who3 t2 item4) N (0, 0)) <|
  fun (out5 : Int) => 
    some out5

theorem serial_table_others_ok {N : Nat} {t2 : (List (List Int))} {who3 : Int} {item4 : Int} {b1 : Nat} {res : Int} (hF : serial_table_others N t2 who3 item4 = some res) {w0 w : World} {T : List Chunk} (hw : St w0.heap.size w0 ([cBx b1 137 ((encA 6 (encA 6 (eI .i64) 0) []) t2)] ++ T) w) :
    Calls Try.prog 93 (List.toArray [.pointer (some ⟨b1, 0, none⟩), .int .i64 who3, .int .i64 item4]) w (fun e w' => ∃ g : Unit, (True) ∧ e = .returned (.int .i64 res) ∧ St w0.heap.size w0 ([cBx b1 137 ((encA 6 (encA 6 (eI .i64) 0) []) t2)] ++ T) w') := by
  refine W.enter (n := 26) Try.func93 rfl rfl Sub.refl (by simp) hw fun R hR => ?_
  unfold serial_table_others at hF
  -- region 0: serial.go:127
  refine W.seqR fun Q1 hQ1 => ?_
  refine WL.q (Y.assign (.pl rfl)) rfl ?_
  refine WL.next hQ1 (.cons (i := 0) rfl (.cons (i := 1) rfl (.cons (i := 2) rfl (.nil)))) ?_
  -- region 1: serial.go:128
  refine W.seqR fun Q2 hQ2 => ?_
  refine WL.q (Y.assign (.pl rfl)) rfl ?_
  refine WL.next hQ2 (.cons (i := 0) rfl (.cons (i := 1) rfl (.cons (i := 2) rfl (.cons (i := 7) rfl (.nil))))) ?_
  obtain ⟨o3, hF3, hF⟩ := bnd hF
  refine W.join1 (Em := fun (out5 : Int) => [(7, .int .i64 out5)]) (M := fun out5 => ([cBx b1 137 ((encA 6 (encA 6 (eI .i64) 0) []) t2)] ++ T)) (I := fun out5 => out5 = o3) (.nil) (fun K4 hK4 => ?_) ?_
  · -- up to
    -- region 2: serial.go:129
    refine W.seqR fun Q5 hQ5 => ?_
    refine WL.q (Y.move (.pl rfl)) rfl ?_
    refine WL.next hQ5 (.cons (i := 0) rfl (.cons (i := 1) rfl (.cons (i := 2) rfl (.cons (i := 7) rfl (.cons (i := 9) rfl (.nil)))))) ?_
    refine W.block ?_
    refine W.loop2 (Em := fun (out6 : Int) (v7 : Int) => [(7, .int .i64 out6), (9, .int .i64 v7)]) (M := fun out6 v7 => ([cBx b1 137 ((encA 6 (encA 6 (eI .i64) 0) []) t2)] ++ T)) (I := fun out6 v7 k6 => iter (serial_table_others_L3 N who3 t2 item4) k6 (out6, v7) = some o3) 0 0 N (hF3) (.cons rfl (.cons rfl (.nil))) (.cons (i := 0) rfl (.cons (i := 1) rfl (.cons (i := 2) rfl (.nil)))) (fun wz hw => hw.pickK 1 [0] rfl) (fun out6 v7 k6 hI K7 hK7 => ?_)
    obtain ⟨k6, t6, rfl, hF6, hN6⟩ := iter_step hI
    -- region 3: serial.go:129
    refine W.seqR fun Q8 hQ8 => ?_
    refine WL.q (Y.lss (.pl rfl) (.pl rfl)) rfl ?_
    refine WL.next hQ8 (.cons (i := 0) rfl (.cons (i := 1) rfl (.cons (i := 2) rfl (.cons (i := 7) rfl (.cons (i := 9) rfl (.cons (i := 10) rfl (.nil))))))) ?_
    refine W.seq fun K9 hK9 => ?_
    refine W.cond (.pl rfl) (fun hC10 => ?_) (fun hC10 => ?_)
    · replace hF6 := cpos hC10 hF6
      refine W.skip ?_
      refine W.go hK9 (.cons (i := 0) rfl (.cons (i := 1) rfl (.cons (i := 2) rfl (.cons (i := 7) rfl (.cons (i := 9) rfl (.nil)))))) ?_
      refine W.seq fun K11 hK11 => ?_
      refine W.block ?_
      -- region 4: serial.go:129
      refine W.seqR fun Q12 hQ12 => ?_
      refine WL.q (Y.move (.pl rfl)) rfl ?_
      refine WL.q (Y.assign (.pl rfl)) rfl ?_
      refine WL.next hQ12 (.cons (i := 0) rfl (.cons (i := 1) rfl (.cons (i := 2) rfl (.cons (i := 7) rfl (.cons (i := 8) rfl (.cons (i := 9) rfl (.nil))))))) ?_
      -- region 5: serial.go:130
      refine W.seqR fun Q13 hQ13 => ?_
      refine WL.q (Y.move (.pl rfl)) rfl ?_
      refine WL.q (Y.move (.pl rfl)) rfl ?_
      refine WL.q (Y.neq (.pl rfl) (.pl rfl)) rfl ?_
      refine WL.next hQ13 (.cons (i := 0) rfl (.cons (i := 1) rfl (.cons (i := 2) rfl (.cons (i := 7) rfl (.cons (i := 8) rfl (.cons (i := 9) rfl (.cons (i := 14) rfl (.nil)))))))) ?_
      refine W.cond (.pl rfl) (fun hC14 => ?_) (fun hC14 => ?_)
      · replace hF6 := cpos hC14 hF6
        -- region 6: serial.go:131
        refine W.reg ?_
        refine WL.q (Y.move (.pl rfl)) rfl ?_
        refine WL.q (Y.move (.pl rfl)) rfl ?_
        refine WL.q (Y.move (.pl rfl)) rfl ?_
        refine WL.q (Y.move (.pl rfl)) rfl ?_
        refine WL.q (Y.nilCheck (.pl rfl)) rfl ?_
        obtain ⟨x8, hx8, hF6⟩ := bnd hF6
        refine WL.q (Y.arrZ Try.underlying137 cells135 (.pl rfl) (.pl rfl) (ax_lt (hx8))) rfl ?_
        obtain ⟨x9, hx9, hF6⟩ := bnd hF6
        refine WL.q (Y.arrZ Try.underlying135 cells3 (.pl rfl) (.pl rfl) (ax_lt (hx9))) rfl ?_
        refine WL.q (Y.loadB (v := .int .i64 x9) Try.underlying3 rfl (.pl rfl) (i := 0) rfl (cellsAp (pre := []) (off := 0) (post := []) (a := t2) (enc := (encA 6 (eI .i64) 0)) (d := []) (n := 6) (sz := 6) (j := item4.toNat * 1 + 0) (fun _ => lenA (sz := 1) (fun _ => rfl)) rfl (ax_nat (hx8)) (ax_get (hx8)) (cellsA0 (a := x8) (enc := (eI .i64)) (d := 0) (n := 6) (sz := 1) (j := 0) (fun _ => rfl) (ax_nat (hx9)) (ax_get (hx9)) rfl) (by omega))) rfl ?_
        refine WL.q (Y.max (.pl rfl) (.pl rfl)) rfl ?_
        refine WL.q (Y.assign (.pl rfl)) rfl ?_
        refine WL.nil ?_
        refine W.go hK11 (.cons (i := 0) rfl (.cons (i := 1) rfl (.cons (i := 2) rfl (.cons (i := 7) rfl (.cons (i := 9) rfl (.nil)))))) ?_
        -- region 7: serial.go:129
        refine W.reg ?_
        obtain ⟨hk10, hF6⟩ := ckh hF6
        refine WL.q (Y.add (.pl rfl) (.pl rfl) (ok64_lt (hk10))) rfl ?_
        refine WL.q (Y.move (.pl rfl)) rfl ?_
        refine WL.nil ?_
        obtain rfl := Option.some.inj hF6
        exact W.again2 hK7 (max out6 x9) (v7 + 1) k6 hN6 (Nat.lt_succ_self _) (.cons rfl (.cons rfl (.nil))) (.cons (i := 0) rfl (.cons (i := 1) rfl (.cons (i := 2) rfl (.nil)))) (fun wz hw => hw.pickK 1 [0] rfl)
      · replace hF6 := cneg hC14 hF6
        refine W.skip ?_
        refine W.go hK11 (.cons (i := 0) rfl (.cons (i := 1) rfl (.cons (i := 2) rfl (.cons (i := 7) rfl (.cons (i := 9) rfl (.nil)))))) ?_
        -- region 7: serial.go:129
        refine W.reg ?_
        obtain ⟨hk11, hF6⟩ := ckh hF6
        refine WL.q (Y.add (.pl rfl) (.pl rfl) (ok64_lt (hk11))) rfl ?_
        refine WL.q (Y.move (.pl rfl)) rfl ?_
        refine WL.nil ?_
        obtain rfl := Option.some.inj hF6
        exact W.again2 hK7 out6 (v7 + 1) k6 hN6 (Nat.lt_succ_self _) (.cons rfl (.cons rfl (.nil))) (.cons (i := 0) rfl (.cons (i := 1) rfl (.cons (i := 2) rfl (.nil)))) (fun wz hw => hw.pickK 1 [0] rfl)
    · replace hF6 := cneg hC10 hF6
      refine W.exit ?_
      obtain rfl := Option.some.inj hF6
      exact W.joinAt1 hK4 out6 (einr hN6) (.cons rfl (.nil)) (.nil) (fun wz hw => hw.pickK 1 [0] rfl)
  · -- behind
    rintro out5 rfl
    -- region 8: serial.go:134
    refine W.seqR fun Q18 hQ18 => ?_
    refine WL.q (Y.move (.pl rfl)) rfl ?_
    refine WL.q (Y.assign (.pl rfl)) rfl ?_
    refine WL.next hQ18 (.cons (i := 6) rfl (.nil)) ?_
    obtain rfl := Option.some.inj hF
    refine W.retV (fn := Try.f93) (vs := [.int .i64 out5]) Try.results93 ⟨.tmp rfl, trivial⟩ (fun _ _ h => h) (fun wz hw => ?_)
    exact hR _ _ ⟨(), trivial, rfl, (hw.pickK 1 [0] rfl)⟩

def serial_table_can (N : Nat) (t2 : (List (List Int))) (d3 : Deed) : Option Bool :=
  bd (ax 6 [] t2 d3.who) fun (x5 : (List Int)) =>
  bd (ax 6 0 x5 d3.item) fun (x6 : Int) =>
  bd (serial_table_others N t2 d3.who d3.item) fun (r7 : Int) =>
  bd (α := (Unit ⊕ Bool)) (bd (α := Bool) (cond (decide (d3.kind = 0))
        (some (decide (d3.kind = 0)))
        (some (decide (d3.kind = 4)))) <|
    fun (v8 : Bool) => 
      cond v8
        (some (.inr (!(decide (x6 = 0)))))
        (cond (decide (d3.kind = 1))
          (some (.inr (decide (x6 = 3))))
          (cond (decide (d3.kind = 2))
            (some (.inr ((decide (x6 = 0)) && (!(decide (r7 = 3))))))
            (some (.inl ()))))) <|
  Sum.elim (fun _ => 
    some ((!(decide (x6 = 3))) && (decide (r7 = 0)))) (fun p => some p)

theorem serial_table_can_ok {N : Nat} {t2 : (List (List Int))} {d3 : Deed} {b1 : Nat} {res : Bool} (hF : serial_table_can N t2 d3 = some res) {w0 w : World} {T : List Chunk} (hw : St w0.heap.size w0 ([cBx b1 137 ((encA 6 (encA 6 (eI .i64) 0) []) t2)] ++ T) w) :
    Calls Try.prog 67 (List.toArray [.pointer (some ⟨b1, 0, none⟩), .agg (encDeed d3).toArray]) w (fun e w' => ∃ g : Unit, (True) ∧ e = .returned (.bool res) ∧ St w0.heap.size w0 ([cBx b1 137 ((encA 6 (encA 6 (eI .i64) 0) []) t2)] ++ T) w') := by
  refine W.enter (n := 47) Try.func67 rfl rfl Sub.refl (by simp) hw fun R hR => ?_
  unfold serial_table_can at hF
  -- region 0: serial.go:138
  refine W.seqR fun Q1 hQ1 => ?_
  refine WL.step (WO.boxA (.pl rfl) rfl fun b4 => ?_)
  refine WL.q (Y.assign (.pl rfl)) rfl ?_
  refine WL.next hQ1 (.cons (i := 0) rfl (.cons (i := 3) rfl (.nil))) ?_
  -- region 1: serial.go:139
  refine W.seqX 16 (by kernel_rfl) fun K2 hK2 => ?_
  refine WX.pure 0 #[true, false, false, false, false, false, false, false, false, false, false, false, false, false, false, false, false] rfl (by kernel_rfl) (fun _ _ => Y.move (.pl rfl)) rfl ?_
  refine WX.pure 1 #[true, true, false, false, false, false, false, false, false, false, false, false, false, false, false, false, false] rfl (by kernel_rfl) (fun _ _ => Y.fieldAddr0 (off := 0) (ft := 3) Try.underlying46 rfl cells3 (.pl rfl)) rfl ?_
  refine WX.take 2 #[true, true, true, false, false, false, false, false, false, false, false, false, false, false, false, false, false] (fun wz hw => St.tail [] hw) rfl (by kernel_rfl) (Y.loadB (v := .int .i64 d3.who) Try.underlying3 rfl (.pl rfl) (i := 0) rfl (rfl)) rfl ?_
  refine WX.pure 3 #[true, true, true, true, false, false, false, false, false, false, false, false, false, false, false, false, false] rfl (by kernel_rfl) (fun _ _ => Y.fieldAddr0 (off := 2) (ft := 3) Try.underlying46 rfl cells3 (.pl rfl)) rfl ?_
  refine WX.take 4 #[true, true, true, true, true, false, false, false, false, false, false, false, false, false, false, false, false] (fun wz hw => St.tail [] hw) rfl (by kernel_rfl) (Y.loadB (v := .int .i64 d3.item) Try.underlying3 rfl (.pl rfl) (i := 0) rfl (rfl)) rfl ?_
  refine WX.pure 5 #[true, true, true, true, true, true, false, false, false, false, false, false, false, false, false, false, false] rfl (by kernel_rfl) (fun _ _ => Y.nilCheck (.pl rfl)) rfl ?_
  obtain ⟨x5, hx5, hF⟩ := bnd hF
  refine WX.pure 6 #[true, true, true, true, true, true, true, false, false, false, false, false, false, false, false, false, false] rfl (by kernel_rfl) (fun _ _ => Y.arrZ Try.underlying137 cells135 (.pl rfl) (.pl rfl) (ax_lt (hx5))) rfl ?_
  obtain ⟨x6, hx6, hF⟩ := bnd hF
  refine WX.pure 7 #[true, true, true, true, true, true, true, true, false, false, false, false, false, false, false, false, false] rfl (by kernel_rfl) (fun _ _ => Y.arrZ Try.underlying135 cells3 (.pl rfl) (.pl rfl) (ax_lt (hx6))) rfl ?_
  refine WX.take 8 #[true, true, true, true, true, true, true, true, true, false, false, false, false, false, false, false, false] (fun wz hw => St.tail [] hw) rfl (by kernel_rfl) (Y.loadB (v := .int .i64 x6) Try.underlying3 rfl (.pl rfl) (i := 1) rfl (cellsAp (pre := []) (off := 0) (post := []) (a := t2) (enc := (encA 6 (eI .i64) 0)) (d := []) (n := 6) (sz := 6) (j := d3.item.toNat * 1 + 0) (fun _ => lenA (sz := 1) (fun _ => rfl)) rfl (ax_nat (hx5)) (ax_get (hx5)) (cellsA0 (a := x5) (enc := (eI .i64)) (d := 0) (n := 6) (sz := 1) (j := 0) (fun _ => rfl) (ax_nat (hx6)) (ax_get (hx6)) rfl) (by omega))) rfl ?_
  refine WX.pure 9 #[true, true, true, true, true, true, true, true, true, true, false, false, false, false, false, false, false] rfl (by kernel_rfl) (fun _ _ => Y.move (.pl rfl)) rfl ?_
  refine WX.pure 10 #[true, true, true, true, true, true, true, true, true, true, true, false, false, false, false, false, false] rfl (by kernel_rfl) (fun _ _ => Y.fieldAddr0 (off := 0) (ft := 3) Try.underlying46 rfl cells3 (.pl rfl)) rfl ?_
  refine WX.take 11 #[true, true, true, true, true, true, true, true, true, true, true, true, false, false, false, false, false] (fun wz hw => St.tail [] hw) rfl (by kernel_rfl) (Y.loadB (v := .int .i64 d3.who) Try.underlying3 rfl (.pl rfl) (i := 0) rfl (rfl)) rfl ?_
  refine WX.pure 12 #[true, true, true, true, true, true, true, true, true, true, true, true, true, false, false, false, false] rfl (by kernel_rfl) (fun _ _ => Y.fieldAddr0 (off := 2) (ft := 3) Try.underlying46 rfl cells3 (.pl rfl)) rfl ?_
  refine WX.take 13 #[true, true, true, true, true, true, true, true, true, true, true, true, true, true, false, false, false] (fun wz hw => St.tail [] hw) rfl (by kernel_rfl) (Y.loadB (v := .int .i64 d3.item) Try.underlying3 rfl (.pl rfl) (i := 0) rfl (rfl)) rfl ?_
  obtain ⟨r7, hr7, hF⟩ := bnd hF
  refine WX.one 14 #[true, true, true, true, true, true, true, true, true, true, true, true, true, true, true, false, false] (fun wz hw => St.tail [] hw) rfl (by kernel_rfl) (WO.call (γ := Unit) (fun g => .int .i64 r7) (fun g => ([cBx b1 137 ((encA 6 (encA 6 (eI .i64) 0) []) t2), cBx b4 46 (encDeed d3)] ++ T)) (fun g => True) isGo93 (.cons (.pl rfl) (.cons (.pl rfl) (.cons (.pl rfl) (.nil)))) rfl (fun wz hw => serial_table_others_ok (T := ([cBx b4 46 (encDeed d3)] ++ T)) (hr7) (hw.pickK 2 [1, 0] rfl) ) ?_)
  rintro _ -
  refine WX.pure 15 #[true, true, true, true, true, true, true, true, true, true, true, true, true, true, true, true, false] rfl (by kernel_rfl) (fun _ _ => Y.assign (.pl rfl)) rfl ?_
  refine WX.stop #[true, true, true, true, true, true, true, true, true, true, true, true, true, true, true, true, true] (fun wz hw => hw.pickK 2 [1, 0] rfl) rfl (by kernel_rfl) (WO.q (Y.assign (.pl rfl)) rfl ?_)
  refine WA.done (by kernel_rfl) ?_
  refine KK.next hK2 (.cons (i := 3) rfl (.cons (i := 5) rfl (.cons (i := 6) rfl (.nil)))) ?_
  obtain ⟨o3, hF3, hF⟩ := bnd hF
  refine W.join0 (Em := []) (M := ([cBx b1 137 ((encA 6 (encA 6 (eI .i64) 0) []) t2)] ++ T)) (I := (.inl ()) = o3) (.cons (i := 5) rfl (.cons (i := 6) rfl (.nil))) (fun K4 hK4 => ?_) ?_
  · -- up to
    -- region 2: serial.go:140
    refine W.seqR fun Q5 hQ5 => ?_
    refine WL.q (Y.fieldAddr0 (off := 1) (ft := 3) Try.underlying46 rfl cells3 (.pl rfl)) rfl ?_
    refine WL.q (Y.loadB (v := .int .i64 d3.kind) Try.underlying3 rfl (.pl rfl) (i := 1) rfl (rfl)) rfl ?_
    refine WL.next hQ5 (.cons (i := 5) rfl (.cons (i := 6) rfl (.cons (i := 23) rfl (.nil)))) ?_
    refine W.block ?_
    obtain ⟨o6, hF6, hF3⟩ := bnd hF3
    refine W.join1 (Em := fun (v8 : Bool) => [(24, .bool v8)]) (M := fun v8 => ([cBx b1 137 ((encA 6 (encA 6 (eI .i64) 0) []) t2)] ++ T)) (I := fun v8 => v8 = o6) (.cons (i := 5) rfl (.cons (i := 6) rfl (.cons (i := 23) rfl (.nil)))) (fun K7 hK7 => ?_) ?_
    · -- up to
      -- region 3: serial.go:141
      refine W.seqR fun Q8 hQ8 => ?_
      refine WL.q (Y.eql (.pl rfl) (.pl rfl)) rfl ?_
      refine WL.q (Y.assign (.pl rfl)) rfl ?_
      refine WL.next hQ8 (.cons (i := 5) rfl (.cons (i := 6) rfl (.cons (i := 23) rfl (.cons (i := 24) rfl (.nil))))) ?_
      refine W.cond (.pl rfl) (fun hC9 => ?_) (fun hC9 => ?_)
      · replace hF6 := cpos hC9 hF6
        refine W.skip ?_
        exact W.joinAt1 hK7 (decide (d3.kind = 0)) (Option.some.inj hF6) (.cons rfl (.nil)) (.cons (i := 5) rfl (.cons (i := 6) rfl (.cons (i := 23) rfl (.nil)))) (fun wz hw => hw.pickK 2 [0] rfl)
      · replace hF6 := cneg hC9 hF6
        -- region 4: serial.go:141
        refine W.reg ?_
        refine WL.q (Y.eql (.pl rfl) (.pl rfl)) rfl ?_
        refine WL.q (Y.assign (.pl rfl)) rfl ?_
        refine WL.nil ?_
        exact W.joinAt1 hK7 (decide (d3.kind = 4)) (Option.some.inj hF6) (.cons rfl (.nil)) (.cons (i := 5) rfl (.cons (i := 6) rfl (.cons (i := 23) rfl (.nil)))) (fun wz hw => hw.pickK 2 [0] rfl)
    · -- behind
      rintro v8 rfl
      refine W.cond (.pl rfl) (fun hC11 => ?_) (fun hC11 => ?_)
      · replace hF3 := cpos hC11 hF3
        -- region 5: serial.go:142
        refine W.seqR fun Q12 hQ12 => ?_
        refine WL.q (Y.move (.pl rfl)) rfl ?_
        refine WL.q (Y.neq (.pl rfl) (.pl rfl)) rfl ?_
        refine WL.q (Y.assign (.pl rfl)) rfl ?_
        refine WL.next hQ12 (.cons (i := 4) rfl (.nil)) ?_
        obtain rfl := Option.some.inj hF3
        obtain rfl := Option.some.inj hF
        refine W.retV (fn := Try.f67) (vs := [.bool (!(decide (x6 = 0)))]) Try.results67 ⟨.tmp rfl, trivial⟩ (fun _ _ h => h) (fun wz hw => ?_)
        exact hR _ _ ⟨(), trivial, rfl, (hw.pickK 1 [0] rfl)⟩
      · replace hF3 := cneg hC11 hF3
        -- region 6: serial.go:143
        refine W.seqR fun Q13 hQ13 => ?_
        refine WL.q (Y.eql (.pl rfl) (.pl rfl)) rfl ?_
        refine WL.q (Y.assign (.pl rfl)) rfl ?_
        refine WL.next hQ13 (.cons (i := 5) rfl (.cons (i := 6) rfl (.cons (i := 23) rfl (.cons (i := 29) rfl (.nil))))) ?_
        refine W.cond (.pl rfl) (fun hC14 => ?_) (fun hC14 => ?_)
        · replace hF3 := cpos hC14 hF3
          -- region 7: serial.go:144
          refine W.seqR fun Q15 hQ15 => ?_
          refine WL.q (Y.move (.pl rfl)) rfl ?_
          refine WL.q (Y.eql (.pl rfl) (.pl rfl)) rfl ?_
          refine WL.q (Y.assign (.pl rfl)) rfl ?_
          refine WL.next hQ15 (.cons (i := 4) rfl (.nil)) ?_
          obtain rfl := Option.some.inj hF3
          obtain rfl := Option.some.inj hF
          refine W.retV (fn := Try.f67) (vs := [.bool (decide (x6 = 3))]) Try.results67 ⟨.tmp rfl, trivial⟩ (fun _ _ h => h) (fun wz hw => ?_)
          exact hR _ _ ⟨(), trivial, rfl, (hw.pickK 1 [0] rfl)⟩
        · replace hF3 := cneg hC14 hF3
          -- region 8: serial.go:145
          refine W.seqR fun Q16 hQ16 => ?_
          refine WL.q (Y.eql (.pl rfl) (.pl rfl)) rfl ?_
          refine WL.q (Y.assign (.pl rfl)) rfl ?_
          refine WL.next hQ16 (.cons (i := 5) rfl (.cons (i := 6) rfl (.cons (i := 33) rfl (.nil)))) ?_
          refine W.cond (.pl rfl) (fun hC17 => ?_) (fun hC17 => ?_)
          · replace hF3 := cpos hC17 hF3
            -- region 9: serial.go:146
            refine W.seqR fun Q18 hQ18 => ?_
            refine WL.q (Y.move (.pl rfl)) rfl ?_
            refine WL.q (Y.eql (.pl rfl) (.pl rfl)) rfl ?_
            refine WL.q (Y.move (.pl rfl)) rfl ?_
            refine WL.g (.pl rfl rfl rfl) (fun hg => Y.move (.pl rfl)) rfl ?_
            refine WL.g (.pl rfl rfl rfl) (fun hg => Y.neq (.gd (hg) rfl) (.pl rfl)) rfl ?_
            refine WL.q (Y.and (.pl rfl) (fun h2 => .gd (eqt h2) rfl)) rfl ?_
            refine WL.q (Y.assign (.pl rfl)) rfl ?_
            refine WL.next hQ18 (.cons (i := 4) rfl (.nil)) ?_
            obtain rfl := Option.some.inj hF3
            obtain rfl := Option.some.inj hF
            refine W.retV (fn := Try.f67) (vs := [.bool ((decide (x6 = 0)) && (!(decide (r7 = 3))))]) Try.results67 ⟨.tmp rfl, trivial⟩ (fun _ _ h => h) (fun wz hw => ?_)
            exact hR _ _ ⟨(), trivial, rfl, (hw.pickK 1 [0] rfl)⟩
          · replace hF3 := cneg hC17 hF3
            refine W.skip ?_
            exact W.joinAt0 hK4  (Option.some.inj hF3) (.nil) (.cons (i := 5) rfl (.cons (i := 6) rfl (.nil))) (fun wz hw => hw.pickK 1 [0] rfl)
  · -- behind
    rintro  rfl
    -- region 10: serial.go:148
    refine W.seqR fun Q19 hQ19 => ?_
    refine WL.q (Y.move (.pl rfl)) rfl ?_
    refine WL.q (Y.neq (.pl rfl) (.pl rfl)) rfl ?_
    refine WL.q (Y.move (.pl rfl)) rfl ?_
    refine WL.g (.pl rfl rfl rfl) (fun hg => Y.move (.pl rfl)) rfl ?_
    refine WL.g (.pl rfl rfl rfl) (fun hg => Y.eql (.gd (hg) rfl) (.pl rfl)) rfl ?_
    refine WL.q (Y.and (.pl rfl) (fun h2 => .gd (eqt h2) rfl)) rfl ?_
    refine WL.q (Y.assign (.pl rfl)) rfl ?_
    refine WL.next hQ19 (.cons (i := 4) rfl (.nil)) ?_
    obtain rfl := Option.some.inj hF
    refine W.retV (fn := Try.f67) (vs := [.bool ((!(decide (x6 = 3))) && (decide (r7 = 0)))]) Try.results67 ⟨.tmp rfl, trivial⟩ (fun _ _ h => h) (fun wz hw => ?_)
    exact hR _ _ ⟨(), trivial, rfl, (hw.pickK 1 [0] rfl)⟩

def serial_Locks_L3 (N : Nat) (l1 : (List Deed)) : ((List (List Int)) × (List Bool) × Bool × Bool × Int) → Option (((List (List Int)) × (List Bool) × Bool × Bool × Int) ⊕ (Bool × Bool))
  | (t11, released12, respects13, phases14, v15) =>
    cond (decide (v15 < ((l1).length : Int)))
      (bd (ix l1 v15) fun (x16 : Deed) =>
      bd (α := Bool) (cond (respects13 == true)
          (bd (serial_table_can N t11 x16) fun (r19 : Bool) =>
          some (respects13 && r19))
          (some (respects13 && false))) <|
      fun (respects18 : Bool) => 
        bd (α := Bool) (cond (decide (x16.kind = 2))
            (some (decide (x16.kind = 2)))
            (some (decide (x16.kind = 3)))) <|
        fun (v20 : Bool) => 
          cond v20
            (bd ((cond (phases14 == true) (ax 6 false released12 x16.who) (some false))) fun (x21 : Bool) =>
            bd (ax 6 [] t11 x16.who) fun (x22 : (List Int)) =>
            bd (ax 6 0 x22 x16.item) fun (x23 : Int) =>
            bd (ax 6 [] t11 x16.who) fun (x24 : (List Int)) =>
            bd (ax 6 0 x24 x16.item) fun (x25 : Int) =>
            ck (ok64 (v15 + 1)) <|
            some (.inl ((setA 6 [] t11 x16.who (setA 6 0 x24 x16.item (max x23 x16.kind))), released12, respects18, (phases14 && (!x21)), (v15 + 1))))
            (cond (decide (x16.kind = 4))
              (bd (ax 6 false released12 x16.who) fun (x27 : Bool) =>
              bd (ax 6 [] t11 x16.who) fun (x28 : (List Int)) =>
              bd (ax 6 0 x28 x16.item) fun (x29 : Int) =>
              ck (ok64 (v15 + 1)) <|
              some (.inl ((setA 6 [] t11 x16.who (setA 6 0 x28 x16.item 0)), (setA 6 false released12 x16.who true), respects18, phases14, (v15 + 1))))
              (ck (ok64 (v15 + 1)) <|
              some (.inl (t11, released12, respects18, phases14, (v15 + 1))))))
      (some (.inr (respects13, phases14)))

def serial_Locks (N : Nat) (l1 : (List Deed)) : Option (Bool × Bool × Int) :=
  bd (serial_Check N l1) fun (r6 : (Int × Int)) =>
  cond (!(decide (r6.2 = 0)))
    (some (false, false, r6.2))
    (bd (α := (Bool × Bool)) (iter (serial_Locks_L3 N l1) N ([], [], true, true, 0)) <|
    fun (respects9, phases10) => 
      some (respects9, phases10, 0))

theorem serial_Locks_ok {N : Nat} {l1 : (List Deed)} {res : (Bool × Bool × Int)} (hF : serial_Locks N l1 = some res) (w : World) {v5 : Value} (hs4 : SlIn encDeed 3 w v5 l1) :
    Pure Try.prog 40 [v5] w (.tuple #[.bool res.1, .bool res.2.1, .int .i64 res.2.2]) := by
  obtain ⟨A2, c3, rfl, hcc3, hs4⟩ := hs4.form
  refine W.enter (n := 75) Try.func40 rfl rfl Sub.refl (by simp) (St.start w) fun R hR => ?_
  unfold serial_Locks at hF
  -- region 0: serial.go:152
  refine W.seqR fun Q1 hQ1 => ?_
  refine WL.q (Y.assign (.pl rfl)) rfl ?_
  refine WL.q (Y.assign (.pl rfl)) rfl ?_
  refine WL.q (Y.assign (.pl rfl)) rfl ?_
  refine WL.next hQ1 (.cons (i := 0) rfl (.nil)) ?_
  refine W.seq fun K2 hK2 => ?_
  -- region 1: serial.go:153
  refine W.seqR fun Q3 hQ3 => ?_
  refine WL.q (Y.move (.pl rfl)) rfl ?_
  obtain ⟨r6, hr6, hF⟩ := bnd hF
  refine WL.step (WO.callP isGo36 (.cons (.pl rfl) (.nil)) rfl (fun wz hw => serial_Check_ok (hr6) wz (hs4.mono hw)) ?_)
  refine WL.q (Y.move (.pl rfl)) rfl ?_
  refine WL.q (Y.extract (.pl rfl) rfl) rfl ?_
  refine WL.q (Y.extract (.pl rfl) rfl) rfl ?_
  refine WL.q (Y.assign (.pl rfl)) rfl ?_
  refine WL.q (Y.assign (.pl rfl)) rfl ?_
  refine WL.next hQ3 (.cons (i := 0) rfl (.cons (i := 6) rfl (.nil))) ?_
  -- region 2: serial.go:153
  refine W.seqR fun Q4 hQ4 => ?_
  refine WL.q (Y.move (.pl rfl)) rfl ?_
  refine WL.q (Y.neq (.pl rfl) (.pl rfl)) rfl ?_
  refine WL.next hQ4 (.cons (i := 0) rfl (.cons (i := 6) rfl (.cons (i := 19) rfl (.nil)))) ?_
  refine W.cond (.pl rfl) (fun hC5 => ?_) (fun hC5 => ?_)
  · replace hF := cpos hC5 hF
    -- region 3: serial.go:154
    refine W.seqR fun Q6 hQ6 => ?_
    refine WL.q (Y.move (.pl rfl)) rfl ?_
    refine WL.q (Y.assign (.pl rfl)) rfl ?_
    refine WL.q (Y.assign (.pl rfl)) rfl ?_
    refine WL.q (Y.assign (.pl rfl)) rfl ?_
    refine WL.next hQ6 (.cons (i := 2) rfl (.cons (i := 3) rfl (.cons (i := 4) rfl (.nil)))) ?_
    obtain rfl := Option.some.inj hF
    refine W.retV (fn := Try.f40) (vs := [.bool false, .bool false, .int .i64 r6.2]) Try.results40 ⟨.tmp rfl, ⟨.tmp rfl, ⟨.tmp rfl, trivial⟩⟩⟩ (fun _ _ h => h) (fun wz hw => ?_)
    exact hR _ _ ⟨rfl, (hw.pick [] rfl)⟩
  · replace hF := cneg hC5 hF
    refine W.skip ?_
    refine W.go hK2 (.cons (i := 0) rfl (.nil)) ?_
    -- region 4: serial.go:156
    refine W.seqR fun Q7 hQ7 => ?_
    refine WL.step (WO.alloc (cs := ((encA 6 (encA 6 (eI .i64) 0) []) []).toArray) zero137 rfl rfl fun b7 => ?_)
    refine WL.next hQ7 (.cons (i := 0) rfl (.cons (i := 7) rfl (.nil))) ?_
    -- region 5: serial.go:157
    refine W.seqR fun Q8 hQ8 => ?_
    refine WL.step (WO.alloc (cs := ((encA 6 eB false) []).toArray) zero138 rfl rfl fun b8 => ?_)
    refine WL.next hQ8 (.cons (i := 0) rfl (.cons (i := 7) rfl (.cons (i := 8) rfl (.nil)))) ?_
    -- region 6: serial.go:158
    refine W.seqR fun Q9 hQ9 => ?_
    refine WL.q (Y.assign (.pl rfl)) rfl ?_
    refine WL.q (Y.assign (.pl rfl)) rfl ?_
    refine WL.next hQ9 (.cons (i := 0) rfl (.cons (i := 7) rfl (.cons (i := 8) rfl (.cons (i := 9) rfl (.cons (i := 10) rfl (.nil)))))) ?_
    obtain ⟨o10, hF10, hF⟩ := bnd hF
    refine W.join2 (Em := fun (respects9 : Bool) (phases10 : Bool) => [(9, .bool respects9), (10, .bool phases10)]) (M := fun respects9 phases10 => []) (I := fun respects9 phases10 => (respects9, phases10) = o10) (.nil) (fun K11 hK11 => ?_) ?_
    · -- up to
      -- region 7: serial.go:159
      refine W.seqR fun Q12 hQ12 => ?_
      refine WL.q (Y.move (.pl rfl)) rfl ?_
      refine WL.q (Y.len Try.underlying40 (.pl rfl)) rfl ?_
      refine WL.q (Y.move (.pl rfl)) rfl ?_
      refine WL.next hQ12 (.cons (i := 7) rfl (.cons (i := 8) rfl (.cons (i := 9) rfl (.cons (i := 10) rfl (.cons (i := 21) rfl (.cons (i := 22) rfl (.cons (i := 23) rfl (.nil)))))))) ?_
      refine W.block ?_
      refine W.loop5 (Em := fun (t11 : (List (List Int))) (released12 : (List Bool)) (respects13 : Bool) (phases14 : Bool) (v15 : Int) => [(9, .bool respects13), (10, .bool phases14), (23, .int .i64 v15)]) (M := fun t11 released12 respects13 phases14 v15 => [cBx b7 137 ((encA 6 (encA 6 (eI .i64) 0) []) t11), cBx b8 138 ((encA 6 eB false) released12)]) (I := fun t11 released12 respects13 phases14 v15 k13 => iter (serial_Locks_L3 N l1) k13 (t11, released12, respects13, phases14, v15) = some o10) [] [] true true 0 N (hF10) (.cons rfl (.cons rfl (.cons rfl (.nil)))) (.cons (i := 7) rfl (.cons (i := 8) rfl (.cons (i := 21) rfl (.cons (i := 22) rfl (.nil))))) (fun wz hw => hw.pick [1, 0] rfl) (fun t11 released12 respects13 phases14 v15 k13 hI K14 hK14 => ?_)
      obtain ⟨k13, t13, rfl, hF13, hN13⟩ := iter_step hI
      -- region 8: serial.go:159
      refine W.seqR fun Q15 hQ15 => ?_
      refine WL.q (Y.lss (.pl rfl) (.pl rfl)) rfl ?_
      refine WL.next hQ15 (.cons (i := 7) rfl (.cons (i := 8) rfl (.cons (i := 9) rfl (.cons (i := 10) rfl (.cons (i := 21) rfl (.cons (i := 22) rfl (.cons (i := 23) rfl (.cons (i := 24) rfl (.nil))))))))) ?_
      refine W.seq fun K16 hK16 => ?_
      refine W.cond (.pl rfl) (fun hC17 => ?_) (fun hC17 => ?_)
      · replace hF13 := cpos hC17 hF13
        refine W.skip ?_
        refine W.go hK16 (.cons (i := 7) rfl (.cons (i := 8) rfl (.cons (i := 9) rfl (.cons (i := 10) rfl (.cons (i := 21) rfl (.cons (i := 22) rfl (.cons (i := 23) rfl (.nil)))))))) ?_
        refine W.seq fun K18 hK18 => ?_
        refine W.block ?_
        -- region 9: serial.go:159
        refine W.seqR fun Q19 hQ19 => ?_
        obtain ⟨x16, hx16, hF13⟩ := bnd hF13
        refine WL.q (Y.slEl Try.underlying40 cells46 hs4 (.pl rfl) (.pl rfl) (ix_lt (hx16))) rfl ?_
        refine WL.q (Y.loadSA (enc := encDeed) (ds := (encDeed x16)) (j := 0) Try.underlying46 rfl cells46 hs4 (.pl rfl) (hx16) rfl rfl subW) rfl ?_
        refine WL.step (WO.alloc (cs := (encDeed (Deed.mk 0 0 0)).toArray) zero46 rfl rfl fun b17 => ?_)
        refine WL.step (WO.storeBA (ds := (encDeed x16)) (cs' := (encDeed x16)) cells46 (.pl rfl) (.pl rfl) rfl (oneDeed _) (i := 0) rfl (lel (o := 0) (l := 3) (m := 3) (by decide) rfl rfl) (putW rfl) ?_)
        refine WL.next hQ19 (.cons (i := 7) rfl (.cons (i := 8) rfl (.cons (i := 9) rfl (.cons (i := 10) rfl (.cons (i := 12) rfl (.cons (i := 21) rfl (.cons (i := 22) rfl (.cons (i := 23) rfl (.nil))))))))) ?_
        obtain ⟨o20, hF20, hF13⟩ := bnd hF13
        refine W.join1 (Em := fun (respects18 : Bool) => [(9, .bool respects18)]) (M := fun respects18 => [cBx b7 137 ((encA 6 (encA 6 (eI .i64) 0) []) t11), cBx b8 138 ((encA 6 eB false) released12), cBx b17 46 (encDeed x16)]) (I := fun respects18 => respects18 = o20) (.cons (i := 7) rfl (.cons (i := 8) rfl (.cons (i := 10) rfl (.cons (i := 12) rfl (.cons (i := 21) rfl (.cons (i := 22) rfl (.cons (i := 23) rfl (.nil)))))))) (fun K21 hK21 => ?_) ?_
        · -- up to
          -- region 10: serial.go:160
          refine W.reg ?_
          refine WL.q (Y.move (.pl rfl)) rfl ?_
          refine WL.q (Y.move (.pl rfl)) rfl ?_
          refine WL.g (.pl rfl rfl rfl) (fun hg => Y.loadBA (ds := (encDeed x16)) Try.underlying46 rfl cells46 (.pl rfl) (i := 0) rfl rfl subW) rfl ?_
          refine bsplit (respects13 == true) (fun hg22 => ?_) (fun hg22 => ?_)
          · replace hF20 := cpos hg22 hF20
            refine WL.gd (.pl rfl rfl rfl) (hg22) ?_
            obtain ⟨r19, hr19, hF20⟩ := bnd hF20
            refine WL.step (WO.call (γ := Unit) (fun g => .bool r19) (fun g => [cBx b7 137 ((encA 6 (encA 6 (eI .i64) 0) []) t11), cBx b17 46 (encDeed x16), cBx b8 138 ((encA 6 eB false) released12)]) (fun g => True) isGo67 (.cons (.pl rfl) (.cons (.gd (hg22) rfl) (.nil))) rfl (fun wz hw => serial_table_can_ok (T := [cBx b17 46 (encDeed x16), cBx b8 138 ((encA 6 eB false) released12)]) (hr19) (hw.pick [1, 0, 2] rfl) ) ?_)
            rintro _ -
            refine WL.q (Y.and (.pl rfl) (fun _ => .pl rfl)) rfl ?_
            refine WL.q (Y.assign (.pl rfl)) rfl ?_
            refine WL.nil ?_
            exact W.joinAt1 hK21 (respects13 && r19) (Option.some.inj hF20) (.cons rfl (.nil)) (.cons (i := 7) rfl (.cons (i := 8) rfl (.cons (i := 10) rfl (.cons (i := 12) rfl (.cons (i := 21) rfl (.cons (i := 22) rfl (.cons (i := 23) rfl (.nil)))))))) (fun wz hw => hw.pick [0, 2, 1] rfl)
          · replace hF20 := cneg hg22 hF20
            refine WL.gn (.pl rfl rfl rfl) hg22 rfl ?_
            refine WL.q (Y.and (b := false) (.pl rfl) (fun h2 => (gabsA hg22 h2).elim)) rfl ?_
            refine WL.q (Y.assign (.pl rfl)) rfl ?_
            refine WL.nil ?_
            exact W.joinAt1 hK21 (respects13 && false) (Option.some.inj hF20) (.cons rfl (.nil)) (.cons (i := 7) rfl (.cons (i := 8) rfl (.cons (i := 10) rfl (.cons (i := 12) rfl (.cons (i := 21) rfl (.cons (i := 22) rfl (.cons (i := 23) rfl (.nil)))))))) (fun wz hw => hw.pick [1, 2, 0] rfl)
        · -- behind
          rintro respects18 rfl
          -- region 11: serial.go:161
          refine W.seqR fun Q23 hQ23 => ?_
          refine WL.q (Y.fieldAddr0 (off := 1) (ft := 3) Try.underlying46 rfl cells3 (.pl rfl)) rfl ?_
          refine WL.q (Y.loadB (v := .int .i64 x16.kind) Try.underlying3 rfl (.pl rfl) (i := 2) rfl (rfl)) rfl ?_
          refine WL.next hQ23 (.cons (i := 7) rfl (.cons (i := 8) rfl (.cons (i := 9) rfl (.cons (i := 10) rfl (.cons (i := 12) rfl (.cons (i := 21) rfl (.cons (i := 22) rfl (.cons (i := 23) rfl (.cons (i := 33) rfl (.nil)))))))))) ?_
          refine W.block ?_
          obtain ⟨o24, hF24, hF13⟩ := bnd hF13
          refine W.join1 (Em := fun (v20 : Bool) => [(34, .bool v20)]) (M := fun v20 => [cBx b7 137 ((encA 6 (encA 6 (eI .i64) 0) []) t11), cBx b8 138 ((encA 6 eB false) released12), cBx b17 46 (encDeed x16)]) (I := fun v20 => v20 = o24) (.cons (i := 7) rfl (.cons (i := 8) rfl (.cons (i := 9) rfl (.cons (i := 10) rfl (.cons (i := 12) rfl (.cons (i := 21) rfl (.cons (i := 22) rfl (.cons (i := 23) rfl (.cons (i := 33) rfl (.nil)))))))))) (fun K25 hK25 => ?_) ?_
          · -- up to
            -- region 12: serial.go:162
            refine W.seqR fun Q26 hQ26 => ?_
            refine WL.q (Y.eql (.pl rfl) (.pl rfl)) rfl ?_
            refine WL.q (Y.assign (.pl rfl)) rfl ?_
            refine WL.next hQ26 (.cons (i := 7) rfl (.cons (i := 8) rfl (.cons (i := 9) rfl (.cons (i := 10) rfl (.cons (i := 12) rfl (.cons (i := 21) rfl (.cons (i := 22) rfl (.cons (i := 23) rfl (.cons (i := 33) rfl (.cons (i := 34) rfl (.nil))))))))))) ?_
            refine W.cond (.pl rfl) (fun hC27 => ?_) (fun hC27 => ?_)
            · replace hF24 := cpos hC27 hF24
              refine W.skip ?_
              exact W.joinAt1 hK25 (decide (x16.kind = 2)) (Option.some.inj hF24) (.cons rfl (.nil)) (.cons (i := 7) rfl (.cons (i := 8) rfl (.cons (i := 9) rfl (.cons (i := 10) rfl (.cons (i := 12) rfl (.cons (i := 21) rfl (.cons (i := 22) rfl (.cons (i := 23) rfl (.cons (i := 33) rfl (.nil)))))))))) (fun wz hw => hw.pick [0, 1, 2] rfl)
            · replace hF24 := cneg hC27 hF24
              -- region 13: serial.go:162
              refine W.reg ?_
              refine WL.q (Y.eql (.pl rfl) (.pl rfl)) rfl ?_
              refine WL.q (Y.assign (.pl rfl)) rfl ?_
              refine WL.nil ?_
              exact W.joinAt1 hK25 (decide (x16.kind = 3)) (Option.some.inj hF24) (.cons rfl (.nil)) (.cons (i := 7) rfl (.cons (i := 8) rfl (.cons (i := 9) rfl (.cons (i := 10) rfl (.cons (i := 12) rfl (.cons (i := 21) rfl (.cons (i := 22) rfl (.cons (i := 23) rfl (.cons (i := 33) rfl (.nil)))))))))) (fun wz hw => hw.pick [0, 1, 2] rfl)
          · -- behind
            rintro v20 rfl
            refine W.cond (.pl rfl) (fun hC29 => ?_) (fun hC29 => ?_)
            · replace hF13 := cpos hC29 hF13
              -- region 14: serial.go:163
              refine W.seqR fun Q30 hQ30 => ?_
              refine WL.q (Y.move (.pl rfl)) rfl ?_
              refine WL.q (Y.move (.pl rfl)) rfl ?_
              refine WL.g (.pl rfl rfl rfl) (fun hg => Y.fieldAddr0 (off := 0) (ft := 3) Try.underlying46 rfl cells3 (.pl rfl)) rfl ?_
              refine WL.g (.pl rfl rfl rfl) (fun hg => Y.loadB (v := .int .i64 x16.who) Try.underlying3 rfl (.gd (hg) rfl) (i := 2) rfl (rfl)) rfl ?_
              obtain ⟨x21, hx21, hF13⟩ := bnd hF13
              refine WL.g (.pl rfl rfl rfl) (fun hg => Y.arrZ Try.underlying138 cells4 (.pl rfl) (.gd (hg) rfl) (ax_lt (gpos hg hx21))) rfl ?_
              refine WL.g (.pl rfl rfl rfl) (fun hg => Y.loadB (v := .bool x21) Try.underlying4 rfl (.gd (hg) rfl) (i := 1) rfl (cellsA (pre := []) (off := 0) (post := []) (a := released12) (enc := eB) (d := false) (n := 6) (sz := 1) (j := 0) (fun _ => rfl) rfl (ax_nat (gpos hg hx21)) (ax_get (gpos hg hx21)) rfl)) rfl ?_
              refine WL.g (.pl rfl rfl rfl) (fun hg => Y.not (.gd (hg) rfl)) rfl ?_
              refine WL.q (Y.and (.pl rfl) (fun h2 => .gd (eqt h2) rfl)) rfl ?_
              refine WL.q (Y.assign (.pl rfl)) rfl ?_
              refine WL.next hQ30 (.cons (i := 7) rfl (.cons (i := 8) rfl (.cons (i := 9) rfl (.cons (i := 10) rfl (.cons (i := 12) rfl (.cons (i := 21) rfl (.cons (i := 22) rfl (.cons (i := 23) rfl (.nil))))))))) ?_
              -- region 15: serial.go:164
              refine W.regT 16 (by kernel_rfl) (by kernel_rfl) ?_
              refine WS.q (Y.fieldAddr0 (off := 0) (ft := 3) Try.underlying46 rfl cells3 (.pl rfl)) rfl ?_
              refine WS.q (Y.loadB (v := .int .i64 x16.who) Try.underlying3 rfl (.pl rfl) (i := 2) rfl (rfl)) rfl ?_
              refine WS.q (Y.fieldAddr0 (off := 2) (ft := 3) Try.underlying46 rfl cells3 (.pl rfl)) rfl ?_
              refine WS.q (Y.loadB (v := .int .i64 x16.item) Try.underlying3 rfl (.pl rfl) (i := 2) rfl (rfl)) rfl ?_
              refine WS.q (Y.fieldAddr0 (off := 0) (ft := 3) Try.underlying46 rfl cells3 (.pl rfl)) rfl ?_
              refine WS.q (Y.loadB (v := .int .i64 x16.who) Try.underlying3 rfl (.pl rfl) (i := 2) rfl (rfl)) rfl ?_
              refine WS.q (Y.fieldAddr0 (off := 2) (ft := 3) Try.underlying46 rfl cells3 (.pl rfl)) rfl ?_
              refine WS.q (Y.loadB (v := .int .i64 x16.item) Try.underlying3 rfl (.pl rfl) (i := 2) rfl (rfl)) rfl ?_
              obtain ⟨x22, hx22, hF13⟩ := bnd hF13
              refine WS.q (Y.arrZ Try.underlying137 cells135 (.pl rfl) (.pl rfl) (ax_lt (hx22))) rfl ?_
              obtain ⟨x23, hx23, hF13⟩ := bnd hF13
              refine WS.q (Y.arrZ Try.underlying135 cells3 (.pl rfl) (.pl rfl) (ax_lt (hx23))) rfl ?_
              refine WS.q (Y.loadB (v := .int .i64 x23) Try.underlying3 rfl (.pl rfl) (i := 0) rfl (cellsAp (pre := []) (off := 0) (post := []) (a := t11) (enc := (encA 6 (eI .i64) 0)) (d := []) (n := 6) (sz := 6) (j := x16.item.toNat * 1 + 0) (fun _ => lenA (sz := 1) (fun _ => rfl)) rfl (ax_nat (hx22)) (ax_get (hx22)) (cellsA0 (a := x22) (enc := (eI .i64)) (d := 0) (n := 6) (sz := 1) (j := 0) (fun _ => rfl) (ax_nat (hx23)) (ax_get (hx23)) rfl) (by omega))) rfl ?_
              refine WS.q (Y.fieldAddr0 (off := 1) (ft := 3) Try.underlying46 rfl cells3 (.pl rfl)) rfl ?_
              refine WS.q (Y.loadB (v := .int .i64 x16.kind) Try.underlying3 rfl (.pl rfl) (i := 2) rfl (rfl)) rfl ?_
              refine WS.q (Y.max (.pl rfl) (.pl rfl)) rfl ?_
              obtain ⟨x24, hx24, hF13⟩ := bnd hF13
              refine WS.q (Y.arrZ Try.underlying137 cells135 (.pl rfl) (.pl rfl) (ax_lt (hx24))) rfl ?_
              obtain ⟨x25, hx25, hF13⟩ := bnd hF13
              refine WS.q (Y.arrZ Try.underlying135 cells3 (.pl rfl) (.pl rfl) (ax_lt (hx25))) rfl ?_
              refine WS.tail ?_
              refine WL.step (WO.storeB (cs' := ((encA 6 (encA 6 (eI .i64) 0) []) (setA 6 [] t11 x16.who (setA 6 0 x24 x16.item (max x23 x16.kind))))) cells3 (.pl rfl) (.pl rfl) rfl (i := 0) rfl (ltl (m := 36) (by have := ax_lt (hx24); have := ax_lt (hx25); omega) rfl) (cellsSet (pre := []) (off := 0) (post := []) (a := t11) (enc := (encA 6 (eI .i64) 0)) (d := []) (n := 6) (sz := 6) (j := x16.item.toNat * 1 + 0) (x := x24) (x' := (setA 6 0 x24 x16.item (max x23 x16.kind))) (fun _ => lenA (sz := 1) (fun _ => rfl)) rfl (ax_lt (hx24)) (ax_get (hx24)) (by have := ax_lt (hx25); omega) (cellsSet0 (a := x24) (enc := (eI .i64)) (d := 0) (n := 6) (sz := 1) (j := 0) (x := x25) (x' := (max x23 x16.kind)) (fun _ => rfl) (ax_lt (hx25)) (ax_get (hx25)) (by decide) rfl rfl) (by omega)) ?_)
              refine WL.nil ?_
              refine W.go hK18 (.cons (i := 7) rfl (.cons (i := 8) rfl (.cons (i := 9) rfl (.cons (i := 10) rfl (.cons (i := 21) rfl (.cons (i := 22) rfl (.cons (i := 23) rfl (.nil)))))))) ?_
              -- region 19: serial.go:159
              refine W.reg ?_
              obtain ⟨hk26, hF13⟩ := ckh hF13
              refine WL.q (Y.add (.pl rfl) (.pl rfl) (ok64_lt (hk26))) rfl ?_
              refine WL.q (Y.move (.pl rfl)) rfl ?_
              refine WL.nil ?_
              obtain rfl := Option.some.inj hF13
              exact W.again5 hK14 (setA 6 [] t11 x16.who (setA 6 0 x24 x16.item (max x23 x16.kind))) released12 respects18 (phases14 && (!x21)) (v15 + 1) k13 hN13 (Nat.lt_succ_self _) (.cons rfl (.cons rfl (.cons rfl (.nil)))) (.cons (i := 7) rfl (.cons (i := 8) rfl (.cons (i := 21) rfl (.cons (i := 22) rfl (.nil))))) (fun wz hw => hw.pick [0, 1] rfl)
            · replace hF13 := cneg hC29 hF13
              -- region 16: serial.go:165
              refine W.seqR fun Q33 hQ33 => ?_
              refine WL.q (Y.eql (.pl rfl) (.pl rfl)) rfl ?_
              refine WL.q (Y.assign (.pl rfl)) rfl ?_
              refine WL.next hQ33 (.cons (i := 7) rfl (.cons (i := 8) rfl (.cons (i := 9) rfl (.cons (i := 10) rfl (.cons (i := 12) rfl (.cons (i := 21) rfl (.cons (i := 22) rfl (.cons (i := 23) rfl (.cons (i := 61) rfl (.nil)))))))))) ?_
              refine W.cond (.pl rfl) (fun hC34 => ?_) (fun hC34 => ?_)
              · replace hF13 := cpos hC34 hF13
                -- region 17: serial.go:166
                refine W.seqR fun Q35 hQ35 => ?_
                refine WL.q (Y.fieldAddr0 (off := 0) (ft := 3) Try.underlying46 rfl cells3 (.pl rfl)) rfl ?_
                refine WL.q (Y.loadB (v := .int .i64 x16.who) Try.underlying3 rfl (.pl rfl) (i := 2) rfl (rfl)) rfl ?_
                obtain ⟨x27, hx27, hF13⟩ := bnd hF13
                refine WL.q (Y.arrZ Try.underlying138 cells4 (.pl rfl) (.pl rfl) (ax_lt (hx27))) rfl ?_
                refine WL.step (WO.storeB (cs' := ((encA 6 eB false) (setA 6 false released12 x16.who true))) cells4 (.pl rfl) (.pl rfl) rfl (i := 1) rfl (ltl (m := 6) (offlt (off := 0) (sz := 1) (j := 0) (ax_nat (hx27)) (by decide)) rfl) (cellsSet (pre := []) (off := 0) (post := []) (a := released12) (enc := eB) (d := false) (n := 6) (sz := 1) (j := 0) (x := x27) (x' := true) (fun _ => rfl) rfl (ax_lt (hx27)) (ax_get (hx27)) (by decide) rfl rfl) ?_)
                refine WL.next hQ35 (.cons (i := 7) rfl (.cons (i := 8) rfl (.cons (i := 9) rfl (.cons (i := 10) rfl (.cons (i := 12) rfl (.cons (i := 21) rfl (.cons (i := 22) rfl (.cons (i := 23) rfl (.nil))))))))) ?_
                -- region 18: serial.go:167
                refine W.regT 6 (by kernel_rfl) (by kernel_rfl) ?_
                refine WS.q (Y.fieldAddr0 (off := 0) (ft := 3) Try.underlying46 rfl cells3 (.pl rfl)) rfl ?_
                refine WS.q (Y.loadB (v := .int .i64 x16.who) Try.underlying3 rfl (.pl rfl) (i := 2) rfl (rfl)) rfl ?_
                refine WS.q (Y.fieldAddr0 (off := 2) (ft := 3) Try.underlying46 rfl cells3 (.pl rfl)) rfl ?_
                refine WS.q (Y.loadB (v := .int .i64 x16.item) Try.underlying3 rfl (.pl rfl) (i := 2) rfl (rfl)) rfl ?_
                obtain ⟨x28, hx28, hF13⟩ := bnd hF13
                refine WS.q (Y.arrZ Try.underlying137 cells135 (.pl rfl) (.pl rfl) (ax_lt (hx28))) rfl ?_
                obtain ⟨x29, hx29, hF13⟩ := bnd hF13
                refine WS.q (Y.arrZ Try.underlying135 cells3 (.pl rfl) (.pl rfl) (ax_lt (hx29))) rfl ?_
                refine WS.tail ?_
                refine WL.step (WO.storeB (cs' := ((encA 6 (encA 6 (eI .i64) 0) []) (setA 6 [] t11 x16.who (setA 6 0 x28 x16.item 0)))) cells3 (.pl rfl) (.pl rfl) rfl (i := 0) rfl (ltl (m := 36) (by have := ax_lt (hx28); have := ax_lt (hx29); omega) rfl) (cellsSet (pre := []) (off := 0) (post := []) (a := t11) (enc := (encA 6 (eI .i64) 0)) (d := []) (n := 6) (sz := 6) (j := x16.item.toNat * 1 + 0) (x := x28) (x' := (setA 6 0 x28 x16.item 0)) (fun _ => lenA (sz := 1) (fun _ => rfl)) rfl (ax_lt (hx28)) (ax_get (hx28)) (by have := ax_lt (hx29); omega) (cellsSet0 (a := x28) (enc := (eI .i64)) (d := 0) (n := 6) (sz := 1) (j := 0) (x := x29) (x' := 0) (fun _ => rfl) (ax_lt (hx29)) (ax_get (hx29)) (by decide) rfl rfl) (by omega)) ?_)
                refine WL.nil ?_
                refine W.go hK18 (.cons (i := 7) rfl (.cons (i := 8) rfl (.cons (i := 9) rfl (.cons (i := 10) rfl (.cons (i := 21) rfl (.cons (i := 22) rfl (.cons (i := 23) rfl (.nil)))))))) ?_
                -- region 19: serial.go:159
                refine W.reg ?_
                obtain ⟨hk30, hF13⟩ := ckh hF13
                refine WL.q (Y.add (.pl rfl) (.pl rfl) (ok64_lt (hk30))) rfl ?_
                refine WL.q (Y.move (.pl rfl)) rfl ?_
                refine WL.nil ?_
                obtain rfl := Option.some.inj hF13
                exact W.again5 hK14 (setA 6 [] t11 x16.who (setA 6 0 x28 x16.item 0)) (setA 6 false released12 x16.who true) respects18 phases14 (v15 + 1) k13 hN13 (Nat.lt_succ_self _) (.cons rfl (.cons rfl (.cons rfl (.nil)))) (.cons (i := 7) rfl (.cons (i := 8) rfl (.cons (i := 21) rfl (.cons (i := 22) rfl (.nil))))) (fun wz hw => hw.pick [0, 1] rfl)
              · replace hF13 := cneg hC34 hF13
                refine W.skip ?_
                refine W.go hK18 (.cons (i := 7) rfl (.cons (i := 8) rfl (.cons (i := 9) rfl (.cons (i := 10) rfl (.cons (i := 21) rfl (.cons (i := 22) rfl (.cons (i := 23) rfl (.nil)))))))) ?_
                -- region 19: serial.go:159
                refine W.reg ?_
                obtain ⟨hk31, hF13⟩ := ckh hF13
                refine WL.q (Y.add (.pl rfl) (.pl rfl) (ok64_lt (hk31))) rfl ?_
                refine WL.q (Y.move (.pl rfl)) rfl ?_
                refine WL.nil ?_
                obtain rfl := Option.some.inj hF13
                exact W.again5 hK14 t11 released12 respects18 phases14 (v15 + 1) k13 hN13 (Nat.lt_succ_self _) (.cons rfl (.cons rfl (.cons rfl (.nil)))) (.cons (i := 7) rfl (.cons (i := 8) rfl (.cons (i := 21) rfl (.cons (i := 22) rfl (.nil))))) (fun wz hw => hw.pick [0, 1] rfl)
      · replace hF13 := cneg hC17 hF13
        refine W.exit ?_
        obtain rfl := Option.some.inj hF13
        exact W.joinAt2 hK11 respects13 phases14 (einr hN13) (.cons rfl (.cons rfl (.nil))) (.nil) (fun wz hw => hw.pick [] rfl)
    · -- behind
      rintro respects9 phases10 rfl
      -- region 20: serial.go:170
      refine W.seqR fun Q39 hQ39 => ?_
      refine WL.q (Y.move (.pl rfl)) rfl ?_
      refine WL.q (Y.move (.pl rfl)) rfl ?_
      refine WL.q (Y.assign (.pl rfl)) rfl ?_
      refine WL.q (Y.assign (.pl rfl)) rfl ?_
      refine WL.q (Y.assign (.pl rfl)) rfl ?_
      refine WL.next hQ39 (.cons (i := 2) rfl (.cons (i := 3) rfl (.cons (i := 4) rfl (.nil)))) ?_
      obtain rfl := Option.some.inj hF
      refine W.retV (fn := Try.f40) (vs := [.bool respects9, .bool phases10, .int .i64 0]) Try.results40 ⟨.tmp rfl, ⟨.tmp rfl, ⟨.tmp rfl, trivial⟩⟩⟩ (fun _ _ h => h) (fun wz hw => ?_)
      exact hR _ _ ⟨rfl, (hw.pick [] rfl)⟩

def serial_conflict (N : Nat) (a1 : Deed) (b2 : Deed) : Option Bool :=
  cond ((((decide (a1.who = b2.who)) || (!(decide (a1.item = b2.item)))) || (decide (1 < a1.kind))) || (decide (1 < b2.kind)))
    (some false)
    (some ((decide (a1.kind = 1)) || (decide (b2.kind = 1))))

theorem serial_conflict_ok {N : Nat} {a1 : Deed} {b2 : Deed} {res : Bool} (hF : serial_conflict N a1 b2 = some res) (w : World) :
    Pure Try.prog 41 [.agg (encDeed a1).toArray, .agg (encDeed b2).toArray] w (.bool res) := by
  refine W.enter (n := 35) Try.func41 rfl rfl Sub.refl (by simp) (St.start w) fun R hR => ?_
  unfold serial_conflict at hF
  -- region 0: serial.go:26
  refine W.seqR fun Q1 hQ1 => ?_
  refine WL.step (WO.boxA (.pl rfl) rfl fun b3 => ?_)
  refine WL.step (WO.boxA (.pl rfl) rfl fun b4 => ?_)
  refine WL.q (Y.assign (.pl rfl)) rfl ?_
  refine WL.next hQ1 (.cons (i := 2) rfl (.cons (i := 3) rfl (.nil))) ?_
  refine W.seq fun K2 hK2 => ?_
  -- region 1: serial.go:27
  refine W.seqR fun Q3 hQ3 => ?_
  refine WL.q (Y.fieldAddr0 (off := 0) (ft := 3) Try.underlying46 rfl cells3 (.pl rfl)) rfl ?_
  refine WL.q (Y.loadB (v := .int .i64 a1.who) Try.underlying3 rfl (.pl rfl) (i := 1) rfl (rfl)) rfl ?_
  refine WL.q (Y.fieldAddr0 (off := 0) (ft := 3) Try.underlying46 rfl cells3 (.pl rfl)) rfl ?_
  refine WL.q (Y.loadB (v := .int .i64 b2.who) Try.underlying3 rfl (.pl rfl) (i := 0) rfl (rfl)) rfl ?_
  refine WL.q (Y.eql (.pl rfl) (.pl rfl)) rfl ?_
  refine WL.q (Y.move (.pl rfl)) rfl ?_
  refine WL.g (.pl rfl rfl rfl) (fun hg => Y.fieldAddr0 (off := 2) (ft := 3) Try.underlying46 rfl cells3 (.pl rfl)) rfl ?_
  refine WL.g (.pl rfl rfl rfl) (fun hg => Y.loadB (v := .int .i64 a1.item) Try.underlying3 rfl (.gd (hg) rfl) (i := 1) rfl (rfl)) rfl ?_
  refine WL.g (.pl rfl rfl rfl) (fun hg => Y.fieldAddr0 (off := 2) (ft := 3) Try.underlying46 rfl cells3 (.pl rfl)) rfl ?_
  refine WL.g (.pl rfl rfl rfl) (fun hg => Y.loadB (v := .int .i64 b2.item) Try.underlying3 rfl (.gd (hg) rfl) (i := 0) rfl (rfl)) rfl ?_
  refine WL.g (.pl rfl rfl rfl) (fun hg => Y.neq (.gd (hg) rfl) (.gd (hg) rfl)) rfl ?_
  refine WL.q (Y.or (.pl rfl) (fun h2 => .gd (eqf h2) rfl)) rfl ?_
  refine WL.q (Y.move (.pl rfl)) rfl ?_
  refine WL.g (.pl rfl rfl rfl) (fun hg => Y.fieldAddr0 (off := 1) (ft := 3) Try.underlying46 rfl cells3 (.pl rfl)) rfl ?_
  refine WL.g (.pl rfl rfl rfl) (fun hg => Y.loadB (v := .int .i64 a1.kind) Try.underlying3 rfl (.gd (hg) rfl) (i := 1) rfl (rfl)) rfl ?_
  refine WL.g (.pl rfl rfl rfl) (fun hg => Y.gtr (.gd (hg) rfl) (.pl rfl)) rfl ?_
  refine WL.q (Y.or (.pl rfl) (fun h2 => .gd (eqf h2) rfl)) rfl ?_
  refine WL.q (Y.move (.pl rfl)) rfl ?_
  refine WL.g (.pl rfl rfl rfl) (fun hg => Y.fieldAddr0 (off := 1) (ft := 3) Try.underlying46 rfl cells3 (.pl rfl)) rfl ?_
  refine WL.g (.pl rfl rfl rfl) (fun hg => Y.loadB (v := .int .i64 b2.kind) Try.underlying3 rfl (.gd (hg) rfl) (i := 0) rfl (rfl)) rfl ?_
  refine WL.g (.pl rfl rfl rfl) (fun hg => Y.gtr (.gd (hg) rfl) (.pl rfl)) rfl ?_
  refine WL.q (Y.or (.pl rfl) (fun h2 => .gd (eqf h2) rfl)) rfl ?_
  refine WL.next hQ3 (.cons (i := 2) rfl (.cons (i := 3) rfl (.cons (i := 26) rfl (.nil)))) ?_
  refine W.cond (.pl rfl) (fun hC4 => ?_) (fun hC4 => ?_)
  · replace hF := cpos hC4 hF
    -- region 2: serial.go:28
    refine W.seqR fun Q5 hQ5 => ?_
    refine WL.q (Y.assign (.pl rfl)) rfl ?_
    refine WL.next hQ5 (.cons (i := 4) rfl (.nil)) ?_
    obtain rfl := Option.some.inj hF
    refine W.retV (fn := Try.f41) (vs := [.bool false]) Try.results41 ⟨.tmp rfl, trivial⟩ (fun _ _ h => h) (fun wz hw => ?_)
    exact hR _ _ ⟨rfl, (hw.pick [] rfl)⟩
  · replace hF := cneg hC4 hF
    refine W.skip ?_
    refine W.go hK2 (.cons (i := 2) rfl (.cons (i := 3) rfl (.nil))) ?_
    -- region 3: serial.go:30
    refine W.seqR fun Q6 hQ6 => ?_
    refine WL.q (Y.fieldAddr0 (off := 1) (ft := 3) Try.underlying46 rfl cells3 (.pl rfl)) rfl ?_
    refine WL.q (Y.loadB (v := .int .i64 a1.kind) Try.underlying3 rfl (.pl rfl) (i := 1) rfl (rfl)) rfl ?_
    refine WL.q (Y.eql (.pl rfl) (.pl rfl)) rfl ?_
    refine WL.q (Y.move (.pl rfl)) rfl ?_
    refine WL.g (.pl rfl rfl rfl) (fun hg => Y.fieldAddr0 (off := 1) (ft := 3) Try.underlying46 rfl cells3 (.pl rfl)) rfl ?_
    refine WL.g (.pl rfl rfl rfl) (fun hg => Y.loadB (v := .int .i64 b2.kind) Try.underlying3 rfl (.gd (hg) rfl) (i := 0) rfl (rfl)) rfl ?_
    refine WL.g (.pl rfl rfl rfl) (fun hg => Y.eql (.gd (hg) rfl) (.pl rfl)) rfl ?_
    refine WL.q (Y.or (.pl rfl) (fun h2 => .gd (eqf h2) rfl)) rfl ?_
    refine WL.q (Y.assign (.pl rfl)) rfl ?_
    refine WL.next hQ6 (.cons (i := 4) rfl (.nil)) ?_
    obtain rfl := Option.some.inj hF
    refine W.retV (fn := Try.f41) (vs := [.bool ((decide (a1.kind = 1)) || (decide (b2.kind = 1)))]) Try.results41 ⟨.tmp rfl, trivial⟩ (fun _ _ h => h) (fun wz hw => ?_)
    exact hR _ _ ⟨rfl, (hw.pick [] rfl)⟩

def serial_Graph_L27 (N : Nat) (l1 : (List Deed)) (v11 : Int) (x13 : Deed) : ((List Int) × Int) → Option (((List Int) × Int) ⊕ (List Int))
  | (After17, v18) =>
    cond (decide (v18 < (((l1.drop (v11 + 1).toNat)).length : Int)))
      (bd (ix (l1.drop (v11 + 1).toNat) v18) fun (x19 : Deed) =>
      bd (serial_conflict N x13 x19) fun (r21 : Bool) =>
      cond r21
        (bd (ax 12 0 After17 x13.who) fun (x22 : Int) =>
        bd (ax 12 0 After17 x13.who) fun (x23 : Int) =>
        ck (ok64 (v18 + 1)) <|
        some (.inl ((setA 12 0 After17 x13.who (borI .u16 x22 (shlI .u16 1 (IntKind.u64.wrap x19.who)))), (v18 + 1))))
        (ck (ok64 (v18 + 1)) <|
        some (.inl (After17, (v18 + 1)))))
      (some (.inr After17))

def serial_Graph_L25 (N : Nat) (l1 : (List Deed)) : ((List Int) × Int) → Option (((List Int) × Int) ⊕ (List Int))
  | (After10, v11) =>
    cond (decide (v11 < ((l1).length : Int)))
      (bd (α := (List Int)) (bd (ix l1 v11) fun (x13 : Deed) =>
        ck (ok64 (v11 + 1)) <|
        ck (slB (l1).length (v11 + 1) ((l1).length : Int)) <|
        iter (serial_Graph_L27 N l1 v11 x13) N (After10, 0)) <|
      fun (After12 : (List Int)) => 
        ck (ok64 (v11 + 1)) <|
        some (.inl (After12, (v11 + 1))))
      (some (.inr After10))

def serial_Graph (N : Nat) (l1 : (List Deed)) : Option (Int × (List Int) × Int) :=
  bd (serial_Check N l1) fun (r7 : (Int × Int)) =>
  cond (!(decide (r7.2 = 0)))
    (some (0, [], r7.2))
    (bd (α := (List Int)) (iter (serial_Graph_L25 N l1) N ([], 0)) <|
    fun (After9 : (List Int)) => 
      some (6, After9, 0))

theorem serial_Graph_ok {N : Nat} {l1 : (List Deed)} {res : (Int × (List Int) × Int)} (hF : serial_Graph N l1 = some res) (w : World) {v5 : Value} (hs4 : SlIn encDeed 3 w v5 l1) :
    Pure Try.prog 19 [v5] w (.tuple #[.agg (encRel (Rel.mk res.1 res.2.1)).toArray, .int .i64 res.2.2]) := by
  obtain ⟨A2, c3, rfl, hcc3, hs4⟩ := hs4.form
  refine W.enter (n := 55) Try.func19 rfl rfl Sub.refl (by simp) (St.start w) fun R hR => ?_
  unfold serial_Graph at hF
  -- region 0: serial.go:34
  refine W.seqR fun Q1 hQ1 => ?_
  refine WL.step (WO.alloc (cs := (encRel (Rel.mk 0 [])).toArray) zero50 rfl rfl fun b6 => ?_)
  refine WL.q (Y.assign (.pl rfl)) rfl ?_
  refine WL.next hQ1 (.cons (i := 0) rfl (.cons (i := 2) rfl (.nil))) ?_
  refine W.seq fun K2 hK2 => ?_
  -- region 1: serial.go:35
  refine W.seqR fun Q3 hQ3 => ?_
  refine WL.q (Y.move (.pl rfl)) rfl ?_
  obtain ⟨r7, hr7, hF⟩ := bnd hF
  refine WL.step (WO.callP isGo36 (.cons (.pl rfl) (.nil)) rfl (fun wz hw => serial_Check_ok (hr7) wz (hs4.mono hw)) ?_)
  refine WL.q (Y.move (.pl rfl)) rfl ?_
  refine WL.q (Y.extract (.pl rfl) rfl) rfl ?_
  refine WL.q (Y.extract (.pl rfl) rfl) rfl ?_
  refine WL.q (Y.assign (.pl rfl)) rfl ?_
  refine WL.q (Y.assign (.pl rfl)) rfl ?_
  refine WL.next hQ3 (.cons (i := 0) rfl (.cons (i := 2) rfl (.cons (i := 5) rfl (.nil)))) ?_
  -- region 2: serial.go:35
  refine W.seqR fun Q4 hQ4 => ?_
  refine WL.q (Y.move (.pl rfl)) rfl ?_
  refine WL.q (Y.neq (.pl rfl) (.pl rfl)) rfl ?_
  refine WL.next hQ4 (.cons (i := 0) rfl (.cons (i := 2) rfl (.cons (i := 5) rfl (.cons (i := 17) rfl (.nil))))) ?_
  refine W.cond (.pl rfl) (fun hC5 => ?_) (fun hC5 => ?_)
  · replace hF := cpos hC5 hF
    -- region 3: serial.go:36
    refine W.seqR fun Q6 hQ6 => ?_
    refine WL.q (Y.build (cs := (encRel (Rel.mk 0 [])).toArray) shape50 (.nil) (one_parts trivial) rfl) rfl ?_
    refine WL.q (Y.move (.pl rfl)) rfl ?_
    refine WL.step (WO.storeBA (ds := (encRel (Rel.mk 0 []))) (cs' := (encRel (Rel.mk 0 []))) cells50 (.pl rfl) (.pl rfl) rfl (oneRel _) (i := 0) rfl (lel (o := 0) (l := 13) (m := 13) (by decide) rfl rfl) (putW rfl) ?_)
    refine WL.q (Y.assign (.pl rfl)) rfl ?_
    refine WL.next hQ6 (.cons (i := 2) rfl (.cons (i := 3) rfl (.nil))) ?_
    obtain rfl := Option.some.inj hF
    refine W.retV (fn := Try.f19) (vs := [.agg (encRel (Rel.mk 0 [])).toArray, .int .i64 r7.2]) Try.results19 ⟨.cellA Try.underlying50 rfl cells50 rfl (i := 0) rfl rfl, ⟨.tmp rfl, trivial⟩⟩ (fun _ _ h => h) (fun wz hw => ?_)
    exact hR _ _ ⟨rfl, (hw.pick [] rfl)⟩
  · replace hF := cneg hC5 hF
    refine W.skip ?_
    refine W.go hK2 (.cons (i := 0) rfl (.cons (i := 2) rfl (.nil))) ?_
    -- region 4: serial.go:38
    refine W.seqR fun Q7 hQ7 => ?_
    refine WL.q (Y.build (cs := (encRel (Rel.mk 6 [])).toArray) shape50 (.cons (.pl rfl) (.nil)) (one_parts ⟨rfl, trivial⟩) rfl) rfl ?_
    refine WL.step (WO.alloc (cs := (encRel (Rel.mk 0 [])).toArray) zero50 rfl rfl fun b8 => ?_)
    refine WL.step (WO.storeBA (ds := (encRel (Rel.mk 6 []))) (cs' := (encRel (Rel.mk 6 []))) cells50 (.pl rfl) (.pl rfl) rfl (oneRel _) (i := 0) rfl (lel (o := 0) (l := 13) (m := 13) (by decide) rfl rfl) (putW rfl) ?_)
    refine WL.next hQ7 (.cons (i := 0) rfl (.cons (i := 2) rfl (.cons (i := 6) rfl (.nil)))) ?_
    obtain ⟨o8, hF8, hF⟩ := bnd hF
    refine W.join1 (Em := fun (After9 : (List Int)) => []) (M := fun After9 => [cBx b6 50 (encRel (Rel.mk 0 [])), cBx b8 50 (encRel (Rel.mk 6 After9))]) (I := fun After9 => After9 = o8) (.cons (i := 2) rfl (.cons (i := 6) rfl (.nil))) (fun K9 hK9 => ?_) ?_
    · -- up to
      -- region 5: serial.go:39
      refine W.seqR fun Q10 hQ10 => ?_
      refine WL.q (Y.move (.pl rfl)) rfl ?_
      refine WL.q (Y.len Try.underlying40 (.pl rfl)) rfl ?_
      refine WL.q (Y.move (.pl rfl)) rfl ?_
      refine WL.next hQ10 (.cons (i := 0) rfl (.cons (i := 2) rfl (.cons (i := 6) rfl (.cons (i := 21) rfl (.cons (i := 22) rfl (.cons (i := 23) rfl (.nil))))))) ?_
      refine W.block ?_
      refine W.loop2 (Em := fun (After10 : (List Int)) (v11 : Int) => [(23, .int .i64 v11)]) (M := fun After10 v11 => [cBx b6 50 (encRel (Rel.mk 0 [])), cBx b8 50 (encRel (Rel.mk 6 After10))]) (I := fun After10 v11 k11 => iter (serial_Graph_L25 N l1) k11 (After10, v11) = some o8) [] 0 N (hF8) (.cons rfl (.nil)) (.cons (i := 0) rfl (.cons (i := 2) rfl (.cons (i := 6) rfl (.cons (i := 21) rfl (.cons (i := 22) rfl (.nil)))))) (fun wz hw => hw.pick [1, 0] rfl) (fun After10 v11 k11 hI K12 hK12 => ?_)
      obtain ⟨k11, t11, rfl, hF11, hN11⟩ := iter_step hI
      -- region 6: serial.go:39
      refine W.seqR fun Q13 hQ13 => ?_
      refine WL.q (Y.lss (.pl rfl) (.pl rfl)) rfl ?_
      refine WL.next hQ13 (.cons (i := 0) rfl (.cons (i := 2) rfl (.cons (i := 6) rfl (.cons (i := 21) rfl (.cons (i := 22) rfl (.cons (i := 23) rfl (.cons (i := 24) rfl (.nil)))))))) ?_
      refine W.seq fun K14 hK14 => ?_
      refine W.cond (.pl rfl) (fun hC15 => ?_) (fun hC15 => ?_)
      · replace hF11 := cpos hC15 hF11
        refine W.skip ?_
        refine W.go hK14 (.cons (i := 0) rfl (.cons (i := 2) rfl (.cons (i := 6) rfl (.cons (i := 21) rfl (.cons (i := 22) rfl (.cons (i := 23) rfl (.nil))))))) ?_
        obtain ⟨o16, hF16, hF11⟩ := bnd hF11
        refine W.join1 (Em := fun (After12 : (List Int)) => []) (M := fun After12 => [cBx b6 50 (encRel (Rel.mk 0 [])), cBx b8 50 (encRel (Rel.mk 6 After12))]) (I := fun After12 => After12 = o16) (.cons (i := 0) rfl (.cons (i := 2) rfl (.cons (i := 6) rfl (.cons (i := 21) rfl (.cons (i := 22) rfl (.cons (i := 23) rfl (.nil))))))) (fun K17 hK17 => ?_) ?_
        · -- up to
          refine W.block ?_
          -- region 7: serial.go:39
          refine W.seqR fun Q18 hQ18 => ?_
          refine WL.q (Y.move (.pl rfl)) rfl ?_
          obtain ⟨x13, hx13, hF16⟩ := bnd hF16
          refine WL.q (Y.slEl Try.underlying40 cells46 hs4 (.pl rfl) (.pl rfl) (ix_lt (hx13))) rfl ?_
          refine WL.q (Y.loadSA (enc := encDeed) (ds := (encDeed x13)) (j := 0) Try.underlying46 rfl cells46 hs4 (.pl rfl) (hx13) rfl rfl subW) rfl ?_
          refine WL.step (WO.alloc (cs := (encDeed (Deed.mk 0 0 0)).toArray) zero46 rfl rfl fun b14 => ?_)
          refine WL.q (Y.assign (.pl rfl)) rfl ?_
          refine WL.step (WO.storeBA (ds := (encDeed x13)) (cs' := (encDeed x13)) cells46 (.pl rfl) (.pl rfl) rfl (oneDeed _) (i := 0) rfl (lel (o := 0) (l := 3) (m := 3) (by decide) rfl rfl) (putW rfl) ?_)
          refine WL.next hQ18 (.cons (i := 0) rfl (.cons (i := 2) rfl (.cons (i := 6) rfl (.cons (i := 7) rfl (.cons (i := 8) rfl (.cons (i := 21) rfl (.cons (i := 22) rfl (.cons (i := 23) rfl (.nil))))))))) ?_
          -- region 8: serial.go:40
          refine W.seqR fun Q19 hQ19 => ?_
          refine WL.q (Y.move (.pl rfl)) rfl ?_
          refine WL.q (Y.move (.pl rfl)) rfl ?_
          obtain ⟨hk15, hF16⟩ := ckh hF16
          refine WL.q (Y.add (.pl rfl) (.pl rfl) (ok64_lt (hk15))) rfl ?_
          obtain ⟨hk16, hF16⟩ := ckh hF16
          refine WL.q (Y.slice1 (xs := l1) Try.underlying40 cells46 (.pl rfl) rfl (hs4).cap_le (.pl rfl) (hk16)) rfl ?_
          refine WL.q (Y.len Try.underlying40 (.pl rfl)) rfl ?_
          refine WL.q (Y.move (.pl rfl)) rfl ?_
          refine WL.next hQ19 (.cons (i := 0) rfl (.cons (i := 2) rfl (.cons (i := 6) rfl (.cons (i := 8) rfl (.cons (i := 21) rfl (.cons (i := 22) rfl (.cons (i := 23) rfl (.cons (i := 31) rfl (.cons (i := 32) rfl (.cons (i := 33) rfl (.nil))))))))))) ?_
          refine W.block ?_
          refine W.loop2 (Em := fun (After17 : (List Int)) (v18 : Int) => [(33, .int .i64 v18)]) (M := fun After17 v18 => [cBx b6 50 (encRel (Rel.mk 0 [])), cBx b8 50 (encRel (Rel.mk 6 After17)), cBx b14 46 (encDeed x13)]) (I := fun After17 v18 k20 => iter (serial_Graph_L27 N l1 v11 x13) k20 (After17, v18) = some o16) After10 0 N (hF16) (.cons rfl (.nil)) (.cons (i := 0) rfl (.cons (i := 2) rfl (.cons (i := 6) rfl (.cons (i := 8) rfl (.cons (i := 21) rfl (.cons (i := 22) rfl (.cons (i := 23) rfl (.cons (i := 31) rfl (.cons (i := 32) rfl (.nil)))))))))) (fun wz hw => hw.pick [1, 2, 0] rfl) (fun After17 v18 k20 hI K21 hK21 => ?_)
          obtain ⟨k20, t20, rfl, hF20, hN20⟩ := iter_step hI
          -- region 9: serial.go:40
          refine W.seqR fun Q22 hQ22 => ?_
          refine WL.q (Y.lss (.pl rfl) (.pl rfl)) rfl ?_
          refine WL.next hQ22 (.cons (i := 0) rfl (.cons (i := 2) rfl (.cons (i := 6) rfl (.cons (i := 8) rfl (.cons (i := 21) rfl (.cons (i := 22) rfl (.cons (i := 23) rfl (.cons (i := 31) rfl (.cons (i := 32) rfl (.cons (i := 33) rfl (.cons (i := 34) rfl (.nil)))))))))))) ?_
          refine W.seq fun K23 hK23 => ?_
          refine W.cond (.pl rfl) (fun hC24 => ?_) (fun hC24 => ?_)
          · replace hF20 := cpos hC24 hF20
            refine W.skip ?_
            refine W.go hK23 (.cons (i := 0) rfl (.cons (i := 2) rfl (.cons (i := 6) rfl (.cons (i := 8) rfl (.cons (i := 21) rfl (.cons (i := 22) rfl (.cons (i := 23) rfl (.cons (i := 31) rfl (.cons (i := 32) rfl (.cons (i := 33) rfl (.nil))))))))))) ?_
            refine W.seq fun K25 hK25 => ?_
            refine W.block ?_
            -- region 10: serial.go:40
            refine W.seqR fun Q26 hQ26 => ?_
            obtain ⟨x19, hx19, hF20⟩ := bnd hF20
            refine WL.q (Y.slEl Try.underlying40 cells46 (SlIn.sub1 hs4 (slB_nat (hk16)).1) (.pl rfl) (.pl rfl) (ix_lt (hx19))) rfl ?_
            refine WL.q (Y.loadSA (enc := encDeed) (ds := (encDeed x19)) (j := 0) Try.underlying46 rfl cells46 (SlIn.sub1 hs4 (slB_nat (hk16)).1) (.pl rfl) (hx19) rfl rfl subW) rfl ?_
            refine WL.step (WO.alloc (cs := (encDeed (Deed.mk 0 0 0)).toArray) zero46 rfl rfl fun b20 => ?_)
            refine WL.step (WO.storeBA (ds := (encDeed x19)) (cs' := (encDeed x19)) cells46 (.pl rfl) (.pl rfl) rfl (oneDeed _) (i := 0) rfl (lel (o := 0) (l := 3) (m := 3) (by decide) rfl rfl) (putW rfl) ?_)
            refine WL.next hQ26 (.cons (i := 0) rfl (.cons (i := 2) rfl (.cons (i := 6) rfl (.cons (i := 8) rfl (.cons (i := 10) rfl (.cons (i := 21) rfl (.cons (i := 22) rfl (.cons (i := 23) rfl (.cons (i := 31) rfl (.cons (i := 32) rfl (.cons (i := 33) rfl (.nil)))))))))))) ?_
            -- region 11: serial.go:41
            refine W.seqR fun Q27 hQ27 => ?_
            refine WL.q (Y.loadBA (ds := (encDeed x13)) Try.underlying46 rfl cells46 (.pl rfl) (i := 3) rfl rfl subW) rfl ?_
            refine WL.q (Y.loadBA (ds := (encDeed x19)) Try.underlying46 rfl cells46 (.pl rfl) (i := 0) rfl rfl subW) rfl ?_
            obtain ⟨r21, hr21, hF20⟩ := bnd hF20
            refine WL.step (WO.callP isGo41 (.cons (.pl rfl) (.cons (.pl rfl) (.nil))) rfl (fun wz hw => serial_conflict_ok (hr21) wz ) ?_)
            refine WL.next hQ27 (.cons (i := 0) rfl (.cons (i := 2) rfl (.cons (i := 6) rfl (.cons (i := 8) rfl (.cons (i := 10) rfl (.cons (i := 21) rfl (.cons (i := 22) rfl (.cons (i := 23) rfl (.cons (i := 31) rfl (.cons (i := 32) rfl (.cons (i := 33) rfl (.cons (i := 39) rfl (.nil))))))))))))) ?_
            refine W.cond (.pl rfl) (fun hC28 => ?_) (fun hC28 => ?_)
            · replace hF20 := cpos hC28 hF20
              -- region 12: serial.go:42
              refine W.regT 12 (by kernel_rfl) (by kernel_rfl) ?_
              refine WS.q (Y.fieldAddr0 (off := 0) (ft := 3) Try.underlying46 rfl cells3 (.pl rfl)) rfl ?_
              refine WS.q (Y.loadB (v := .int .i64 x13.who) Try.underlying3 rfl (.pl rfl) (i := 3) rfl (rfl)) rfl ?_
              refine WS.q (Y.fieldAddr0 (off := 1) (ft := 48) Try.underlying50 rfl cells48 (.pl rfl)) rfl ?_
              obtain ⟨x22, hx22, hF20⟩ := bnd hF20
              refine WS.q (Y.arrZ Try.underlying48 cells47 (.pl rfl) (.pl rfl) (ax_lt (hx22))) rfl ?_
              refine WS.q (Y.loadB (v := .int .u16 x22) Try.underlying47 rfl (.pl rfl) (i := 2) rfl (cellsA (pre := (Value.int .i64 6 :: [])) (off := 1) (post := []) (a := After17) (enc := (eI .u16)) (d := 0) (n := 12) (sz := 1) (j := 0) (fun _ => rfl) rfl (ax_nat (hx22)) (ax_get (hx22)) rfl)) rfl ?_
              refine WS.q (Y.fieldAddr0 (off := 0) (ft := 3) Try.underlying46 rfl cells3 (.pl rfl)) rfl ?_
              refine WS.q (Y.loadB (v := .int .i64 x19.who) Try.underlying3 rfl (.pl rfl) (i := 0) rfl (rfl)) rfl ?_
              refine WS.q (Y.conv Try.underlying3 Try.underlying98 (.pl rfl)) rfl ?_
              refine WS.q (Y.shl (.pl rfl) (.pl rfl) (wrapU_nn rfl _)) rfl ?_
              refine WS.q (Y.bor (.pl rfl) (.pl rfl)) rfl ?_
              refine WS.q (Y.fieldAddr0 (off := 1) (ft := 48) Try.underlying50 rfl cells48 (.pl rfl)) rfl ?_
              obtain ⟨x23, hx23, hF20⟩ := bnd hF20
              refine WS.q (Y.arrZ Try.underlying48 cells47 (.pl rfl) (.pl rfl) (ax_lt (hx23))) rfl ?_
              refine WS.tail ?_
              refine WL.step (WO.storeB (cs' := (encRel (Rel.mk 6 (setA 12 0 After17 x13.who (borI .u16 x22 (shlI .u16 1 (IntKind.u64.wrap x19.who))))))) cells47 (.pl rfl) (.pl rfl) rfl (i := 2) rfl (ltl (m := 13) (offlt (off := 1) (sz := 1) (j := 0) (ax_nat (hx23)) (by decide)) rfl) (cellsSet (pre := (Value.int .i64 6 :: [])) (off := 1) (post := []) (a := After17) (enc := (eI .u16)) (d := 0) (n := 12) (sz := 1) (j := 0) (x := x23) (x' := (borI .u16 x22 (shlI .u16 1 (IntKind.u64.wrap x19.who)))) (fun _ => rfl) rfl (ax_lt (hx23)) (ax_get (hx23)) (by decide) rfl rfl) ?_)
              refine WL.nil ?_
              refine W.go hK25 (.cons (i := 0) rfl (.cons (i := 2) rfl (.cons (i := 6) rfl (.cons (i := 8) rfl (.cons (i := 21) rfl (.cons (i := 22) rfl (.cons (i := 23) rfl (.cons (i := 31) rfl (.cons (i := 32) rfl (.cons (i := 33) rfl (.nil))))))))))) ?_
              -- region 13: serial.go:40
              refine W.reg ?_
              obtain ⟨hk24, hF20⟩ := ckh hF20
              refine WL.q (Y.add (.pl rfl) (.pl rfl) (ok64_lt (hk24))) rfl ?_
              refine WL.q (Y.move (.pl rfl)) rfl ?_
              refine WL.nil ?_
              obtain rfl := Option.some.inj hF20
              exact W.again2 hK21 (setA 12 0 After17 x13.who (borI .u16 x22 (shlI .u16 1 (IntKind.u64.wrap x19.who)))) (v18 + 1) k20 hN20 (Nat.lt_succ_self _) (.cons rfl (.nil)) (.cons (i := 0) rfl (.cons (i := 2) rfl (.cons (i := 6) rfl (.cons (i := 8) rfl (.cons (i := 21) rfl (.cons (i := 22) rfl (.cons (i := 23) rfl (.cons (i := 31) rfl (.cons (i := 32) rfl (.nil)))))))))) (fun wz hw => hw.pick [1, 2, 3] rfl)
            · replace hF20 := cneg hC28 hF20
              refine W.skip ?_
              refine W.go hK25 (.cons (i := 0) rfl (.cons (i := 2) rfl (.cons (i := 6) rfl (.cons (i := 8) rfl (.cons (i := 21) rfl (.cons (i := 22) rfl (.cons (i := 23) rfl (.cons (i := 31) rfl (.cons (i := 32) rfl (.cons (i := 33) rfl (.nil))))))))))) ?_
              -- region 13: serial.go:40
              refine W.reg ?_
              obtain ⟨hk25, hF20⟩ := ckh hF20
              refine WL.q (Y.add (.pl rfl) (.pl rfl) (ok64_lt (hk25))) rfl ?_
              refine WL.q (Y.move (.pl rfl)) rfl ?_
              refine WL.nil ?_
              obtain rfl := Option.some.inj hF20
              exact W.again2 hK21 After17 (v18 + 1) k20 hN20 (Nat.lt_succ_self _) (.cons rfl (.nil)) (.cons (i := 0) rfl (.cons (i := 2) rfl (.cons (i := 6) rfl (.cons (i := 8) rfl (.cons (i := 21) rfl (.cons (i := 22) rfl (.cons (i := 23) rfl (.cons (i := 31) rfl (.cons (i := 32) rfl (.nil)))))))))) (fun wz hw => hw.pick [1, 2, 3] rfl)
          · replace hF20 := cneg hC24 hF20
            refine W.exit ?_
            obtain rfl := Option.some.inj hF20
            exact W.joinAt1 hK17 After17 (einr hN20) (.nil) (.cons (i := 0) rfl (.cons (i := 2) rfl (.cons (i := 6) rfl (.cons (i := 21) rfl (.cons (i := 22) rfl (.cons (i := 23) rfl (.nil))))))) (fun wz hw => hw.pick [0, 1] rfl)
        · -- behind
          rintro After12 rfl
          -- region 14: serial.go:39
          refine W.reg ?_
          obtain ⟨hk26, hF11⟩ := ckh hF11
          refine WL.q (Y.add (.pl rfl) (.pl rfl) (ok64_lt (hk26))) rfl ?_
          refine WL.q (Y.move (.pl rfl)) rfl ?_
          refine WL.nil ?_
          obtain rfl := Option.some.inj hF11
          exact W.again2 hK12 After12 (v11 + 1) k11 hN11 (Nat.lt_succ_self _) (.cons rfl (.nil)) (.cons (i := 0) rfl (.cons (i := 2) rfl (.cons (i := 6) rfl (.cons (i := 21) rfl (.cons (i := 22) rfl (.nil)))))) (fun wz hw => hw.pick [0, 1] rfl)
      · replace hF11 := cneg hC15 hF11
        refine W.exit ?_
        obtain rfl := Option.some.inj hF11
        exact W.joinAt1 hK9 After10 (einr hN11) (.nil) (.cons (i := 2) rfl (.cons (i := 6) rfl (.nil))) (fun wz hw => hw.pick [0, 1] rfl)
    · -- behind
      rintro After9 rfl
      -- region 15: serial.go:46
      refine W.seqR fun Q33 hQ33 => ?_
      refine WL.q (Y.loadBA (ds := (encRel (Rel.mk 6 After9))) Try.underlying50 rfl cells50 (.pl rfl) (i := 1) rfl rfl subW) rfl ?_
      refine WL.step (WO.storeBA (ds := (encRel (Rel.mk 6 After9))) (cs' := (encRel (Rel.mk 6 After9))) cells50 (.pl rfl) (.pl rfl) rfl (oneRel _) (i := 0) rfl (lel (o := 0) (l := 13) (m := 13) (by decide) rfl rfl) (putW rfl) ?_)
      refine WL.q (Y.assign (.pl rfl)) rfl ?_
      refine WL.next hQ33 (.cons (i := 2) rfl (.cons (i := 3) rfl (.nil))) ?_
      obtain rfl := Option.some.inj hF
      refine W.retV (fn := Try.f19) (vs := [.agg (encRel (Rel.mk 6 After9)).toArray, .int .i64 0]) Try.results19 ⟨.cellA Try.underlying50 rfl cells50 rfl (i := 0) rfl rfl, ⟨.tmp rfl, trivial⟩⟩ (fun _ _ h => h) (fun wz hw => ?_)
      exact hR _ _ ⟨rfl, (hw.pick [] rfl)⟩

def order_Check_L3 (N : Nat) (r1 : Rel) : Int → Option (Int ⊕ (Unit ⊕ Int))
  | v3 =>
    cond (decide (v3 < 12))
      (bd (ax 12 0 r1.after v3) fun (x4 : Int) =>
      cond (((decide (r1.n ≤ v3)) && (!(decide (x4 = 0)))) || (!(decide ((shrI .u16 x4 (IntKind.u64.wrap r1.n)) = 0))))
        (some (.inr (.inr 3)))
        (ck (ok64 (v3 + 1)) <|
        some (.inl (v3 + 1))))
      (some (.inr (.inl ())))

def order_Check (N : Nat) (r1 : Rel) : Option Int :=
  cond ((decide (r1.n < 0)) || (decide (12 < r1.n)))
    (some 1)
    (bd (α := (Unit ⊕ Int)) (iter (order_Check_L3 N r1) N 0) <|
    Sum.elim (fun _ => 
      some 0) (fun p => some p))

theorem order_Check_ok {N : Nat} {r1 : Rel} {res : Int} (hF : order_Check N r1 = some res) (w : World) :
    Pure Try.prog 106 [.agg (encRel r1).toArray] w (.int .i64 res) := by
  refine W.enter (n := 36) Try.func106 rfl rfl Sub.refl (by simp) (St.start w) fun R hR => ?_
  unfold order_Check at hF
  -- region 0: order.go:12
  refine W.seqR fun Q1 hQ1 => ?_
  refine WL.step (WO.boxA (.pl rfl) rfl fun b2 => ?_)
  refine WL.q (Y.assign (.pl rfl)) rfl ?_
  refine WL.next hQ1 (.cons (i := 1) rfl (.nil)) ?_
  refine W.seq fun K2 hK2 => ?_
  -- region 1: order.go:13
  refine W.seqR fun Q3 hQ3 => ?_
  refine WL.q (Y.fieldAddr0 (off := 0) (ft := 3) Try.underlying50 rfl cells3 (.pl rfl)) rfl ?_
  refine WL.q (Y.loadB (v := .int .i64 r1.n) Try.underlying3 rfl (.pl rfl) (i := 0) rfl (rfl)) rfl ?_
  refine WL.q (Y.lss (.pl rfl) (.pl rfl)) rfl ?_
  refine WL.q (Y.move (.pl rfl)) rfl ?_
  refine WL.g (.pl rfl rfl rfl) (fun hg => Y.fieldAddr0 (off := 0) (ft := 3) Try.underlying50 rfl cells3 (.pl rfl)) rfl ?_
  refine WL.g (.pl rfl rfl rfl) (fun hg => Y.loadB (v := .int .i64 r1.n) Try.underlying3 rfl (.gd (hg) rfl) (i := 0) rfl (rfl)) rfl ?_
  refine WL.g (.pl rfl rfl rfl) (fun hg => Y.gtr (.gd (hg) rfl) (.pl rfl)) rfl ?_
  refine WL.q (Y.or (.pl rfl) (fun h2 => .gd (eqf h2) rfl)) rfl ?_
  refine WL.next hQ3 (.cons (i := 1) rfl (.cons (i := 12) rfl (.nil))) ?_
  refine W.cond (.pl rfl) (fun hC4 => ?_) (fun hC4 => ?_)
  · replace hF := cpos hC4 hF
    -- region 2: order.go:14
    refine W.seqR fun Q5 hQ5 => ?_
    refine WL.q (Y.assign (.pl rfl)) rfl ?_
    refine WL.next hQ5 (.cons (i := 2) rfl (.nil)) ?_
    obtain rfl := Option.some.inj hF
    refine W.retV (fn := Try.f106) (vs := [.int .i64 1]) Try.results106 ⟨.tmp rfl, trivial⟩ (fun _ _ h => h) (fun wz hw => ?_)
    exact hR _ _ ⟨rfl, (hw.pick [] rfl)⟩
  · replace hF := cneg hC4 hF
    refine W.skip ?_
    refine W.go hK2 (.cons (i := 1) rfl (.nil)) ?_
    obtain ⟨o6, hF6, hF⟩ := bnd hF
    refine W.join0 (Em := []) (M := []) (I := (.inl ()) = o6) (.nil) (fun K7 hK7 => ?_) ?_
    · -- up to
      -- region 3: order.go:16
      refine W.seqR fun Q8 hQ8 => ?_
      refine WL.q (Y.fieldAddr0 (off := 1) (ft := 48) Try.underlying50 rfl cells48 (.pl rfl)) rfl ?_
      refine WL.q (Y.loadBA (ds := ((encA 12 (eI .u16) 0) r1.after)) Try.underlying48 rfl cells48 (.pl rfl) (i := 0) rfl rfl (subM (pre := (Value.int .i64 r1.n :: [])) (o := 1) rfl)) rfl ?_
      refine WL.q (Y.move (.pl rfl)) rfl ?_
      refine WL.next hQ8 (.cons (i := 1) rfl (.cons (i := 14) rfl (.cons (i := 15) rfl (.nil)))) ?_
      refine W.block ?_
      refine W.loop1 (Em := fun (v3 : Int) => [(15, .int .i64 v3)]) (M := fun v3 => [cBx b2 50 (encRel r1)]) (I := fun v3 k9 => iter (order_Check_L3 N r1) k9 v3 = some o6) 0 N (hF6) (.cons rfl (.nil)) (.cons (i := 1) rfl (.cons (i := 14) rfl (.nil))) (fun wz hw => hw.pick [0] rfl) (fun v3 k9 hI K10 hK10 => ?_)
      obtain ⟨k9, t9, rfl, hF9, hN9⟩ := iter_step hI
      -- region 4: order.go:16
      refine W.seqR fun Q11 hQ11 => ?_
      refine WL.q (Y.lss (.pl rfl) (.pl rfl)) rfl ?_
      refine WL.next hQ11 (.cons (i := 1) rfl (.cons (i := 14) rfl (.cons (i := 15) rfl (.cons (i := 16) rfl (.nil))))) ?_
      refine W.seq fun K12 hK12 => ?_
      refine W.cond (.pl rfl) (fun hC13 => ?_) (fun hC13 => ?_)
      · replace hF9 := cpos hC13 hF9
        refine W.skip ?_
        refine W.go hK12 (.cons (i := 1) rfl (.cons (i := 14) rfl (.cons (i := 15) rfl (.nil)))) ?_
        refine W.seq fun K14 hK14 => ?_
        refine W.block ?_
        -- region 5: order.go:16
        refine W.seqR fun Q15 hQ15 => ?_
        refine WL.q (Y.move (.pl rfl)) rfl ?_
        obtain ⟨x4, hx4, hF9⟩ := bnd hF9
        refine WL.q (Y.indexA (enc := (eI .u16)) Try.underlying48 Try.underlying47 rfl cells47 (.pl rfl) (.pl rfl) (hx4) rfl (fun _ => rfl)) rfl ?_
        refine WL.q (Y.assign (.pl rfl)) rfl ?_
        refine WL.q (Y.assign (.pl rfl)) rfl ?_
        refine WL.next hQ15 (.cons (i := 1) rfl (.cons (i := 3) rfl (.cons (i := 4) rfl (.cons (i := 14) rfl (.cons (i := 15) rfl (.nil)))))) ?_
        -- region 6: order.go:17
        refine W.seqR fun Q16 hQ16 => ?_
        refine WL.q (Y.move (.pl rfl)) rfl ?_
        refine WL.q (Y.fieldAddr0 (off := 0) (ft := 3) Try.underlying50 rfl cells3 (.pl rfl)) rfl ?_
        refine WL.q (Y.loadB (v := .int .i64 r1.n) Try.underlying3 rfl (.pl rfl) (i := 0) rfl (rfl)) rfl ?_
        refine WL.q (Y.geq (.pl rfl) (.pl rfl)) rfl ?_
        refine WL.q (Y.move (.pl rfl)) rfl ?_
        refine WL.g (.pl rfl rfl rfl) (fun hg => Y.move (.pl rfl)) rfl ?_
        refine WL.g (.pl rfl rfl rfl) (fun hg => Y.neq (.gd (hg) rfl) (.pl rfl)) rfl ?_
        refine WL.q (Y.and (.pl rfl) (fun h2 => .gd (eqt h2) rfl)) rfl ?_
        refine WL.q (Y.move (.pl rfl)) rfl ?_
        refine WL.g (.pl rfl rfl rfl) (fun hg => Y.move (.pl rfl)) rfl ?_
        refine WL.g (.pl rfl rfl rfl) (fun hg => Y.fieldAddr0 (off := 0) (ft := 3) Try.underlying50 rfl cells3 (.pl rfl)) rfl ?_
        refine WL.g (.pl rfl rfl rfl) (fun hg => Y.loadB (v := .int .i64 r1.n) Try.underlying3 rfl (.gd (hg) rfl) (i := 0) rfl (rfl)) rfl ?_
        refine WL.g (.pl rfl rfl rfl) (fun hg => Y.conv Try.underlying3 Try.underlying98 (.gd (hg) rfl)) rfl ?_
        refine WL.g (.pl rfl rfl rfl) (fun hg => Y.shr (.gd (hg) rfl) (.gd (hg) rfl) (wrapU_nn rfl _)) rfl ?_
        refine WL.g (.pl rfl rfl rfl) (fun hg => Y.neq (.gd (hg) rfl) (.pl rfl)) rfl ?_
        refine WL.q (Y.or (.pl rfl) (fun h2 => .gd (eqf h2) rfl)) rfl ?_
        refine WL.next hQ16 (.cons (i := 1) rfl (.cons (i := 14) rfl (.cons (i := 15) rfl (.cons (i := 34) rfl (.nil))))) ?_
        refine W.cond (.pl rfl) (fun hC17 => ?_) (fun hC17 => ?_)
        · replace hF9 := cpos hC17 hF9
          -- region 7: order.go:18
          refine W.seqR fun Q18 hQ18 => ?_
          refine WL.q (Y.assign (.pl rfl)) rfl ?_
          refine WL.next hQ18 (.cons (i := 2) rfl (.nil)) ?_
          obtain rfl := Option.some.inj hF9
          obtain rfl := einr hN9
          obtain rfl := Option.some.inj hF
          refine W.retV (fn := Try.f106) (vs := [.int .i64 3]) Try.results106 ⟨.tmp rfl, trivial⟩ (fun _ _ h => h) (fun wz hw => ?_)
          exact hR _ _ ⟨rfl, (hw.pick [] rfl)⟩
        · replace hF9 := cneg hC17 hF9
          refine W.skip ?_
          refine W.go hK14 (.cons (i := 1) rfl (.cons (i := 14) rfl (.cons (i := 15) rfl (.nil)))) ?_
          -- region 8: order.go:16
          refine W.reg ?_
          obtain ⟨hk5, hF9⟩ := ckh hF9
          refine WL.q (Y.add (.pl rfl) (.pl rfl) (ok64_lt (hk5))) rfl ?_
          refine WL.q (Y.move (.pl rfl)) rfl ?_
          refine WL.nil ?_
          obtain rfl := Option.some.inj hF9
          exact W.again1 hK10 (v3 + 1) k9 hN9 (Nat.lt_succ_self _) (.cons rfl (.nil)) (.cons (i := 1) rfl (.cons (i := 14) rfl (.nil))) (fun wz hw => hw.pick [0] rfl)
      · replace hF9 := cneg hC13 hF9
        refine W.exit ?_
        obtain rfl := Option.some.inj hF9
        exact W.joinAt0 hK7  (einr hN9) (.nil) (.nil) (fun wz hw => hw.pick [] rfl)
    · -- behind
      rintro  rfl
      -- region 9: order.go:21
      refine W.seqR fun Q20 hQ20 => ?_
      refine WL.q (Y.assign (.pl rfl)) rfl ?_
      refine WL.next hQ20 (.cons (i := 2) rfl (.nil)) ?_
      obtain rfl := Option.some.inj hF
      refine W.retV (fn := Try.f106) (vs := [.int .i64 0]) Try.results106 ⟨.tmp rfl, trivial⟩ (fun _ _ h => h) (fun wz hw => ?_)
      exact hR _ _ ⟨rfl, (hw.pick [] rfl)⟩

def order_closed_L27 (N : Nat) (r1 : Rel) (v6 : Int) : ((List Int) × Int) → Option (((List Int) × Int) ⊕ (List Int))
  | (After8, v9) =>
    cond (decide (v9 < r1.n))
      (bd (ax 12 0 After8 v9) fun (x10 : Int) =>
      cond (decide ((bandI .u16 (shrI .u16 x10 (IntKind.u64.wrap v6)) 1) = 1))
        (bd (ax 12 0 After8 v9) fun (x11 : Int) =>
        bd (ax 12 0 After8 v6) fun (x12 : Int) =>
        bd (ax 12 0 After8 v9) fun (x13 : Int) =>
        ck (ok64 (v9 + 1)) <|
        some (.inl ((setA 12 0 After8 v9 (borI .u16 x11 x12)), (v9 + 1))))
        (ck (ok64 (v9 + 1)) <|
        some (.inl (After8, (v9 + 1)))))
      (some (.inr After8))

def order_closed_L25 (N : Nat) (r1 : Rel) : ((List Int) × Int) → Option (((List Int) × Int) ⊕ (List Int))
  | (After5, v6) =>
    cond (decide (v6 < r1.n))
      (bd (α := (List Int)) (iter (order_closed_L27 N r1 v6) N (After5, 0)) <|
      fun (After7 : (List Int)) => 
        ck (ok64 (v6 + 1)) <|
        some (.inl (After7, (v6 + 1))))
      (some (.inr After5))

def order_closed (N : Nat) (r1 : Rel) : Option (List Int) :=
  bd (α := (List Int)) (iter (order_closed_L25 N r1) N (r1.after, 0)) <|
  fun (After4 : (List Int)) => 
    some After4

theorem order_closed_ok {N : Nat} {r1 : Rel} {res : (List Int)} (hF : order_closed N r1 = some res) (w : World) :
    Pure Try.prog 107 [.agg (encRel r1).toArray] w (.agg (encRel (Rel.mk r1.n res)).toArray) := by
  refine W.enter (n := 38) Try.func107 rfl rfl Sub.refl (by simp) (St.start w) fun R hR => ?_
  unfold order_closed at hF
  -- region 0: order.go:25
  refine W.seqR fun Q1 hQ1 => ?_
  refine WL.step (WO.boxA (.pl rfl) rfl fun b2 => ?_)
  refine WL.step (WO.alloc (cs := (encRel (Rel.mk 0 [])).toArray) zero50 rfl rfl fun b3 => ?_)
  refine WL.next hQ1 (.cons (i := 1) rfl (.cons (i := 2) rfl (.nil))) ?_
  obtain ⟨o2, hF2, hF⟩ := bnd hF
  refine W.join1 (Em := fun (After4 : (List Int)) => []) (M := fun After4 => [cBx b2 50 (encRel (Rel.mk r1.n After4)), cBx b3 50 (encRel (Rel.mk 0 []))]) (I := fun After4 => After4 = o2) (.cons (i := 1) rfl (.cons (i := 2) rfl (.nil))) (fun K3 hK3 => ?_) ?_
  · -- up to
    -- region 1: order.go:26
    refine W.seqR fun Q4 hQ4 => ?_
    refine WL.q (Y.fieldAddr0 (off := 0) (ft := 3) Try.underlying50 rfl cells3 (.pl rfl)) rfl ?_
    refine WL.q (Y.loadB (v := .int .i64 r1.n) Try.underlying3 rfl (.pl rfl) (i := 1) rfl (rfl)) rfl ?_
    refine WL.q (Y.move (.pl rfl)) rfl ?_
    refine WL.next hQ4 (.cons (i := 1) rfl (.cons (i := 2) rfl (.cons (i := 6) rfl (.cons (i := 7) rfl (.nil))))) ?_
    refine W.block ?_
    refine W.loop2 (Em := fun (After5 : (List Int)) (v6 : Int) => [(7, .int .i64 v6)]) (M := fun After5 v6 => [cBx b2 50 (encRel (Rel.mk r1.n After5)), cBx b3 50 (encRel (Rel.mk 0 []))]) (I := fun After5 v6 k5 => iter (order_closed_L25 N r1) k5 (After5, v6) = some o2) r1.after 0 N (hF2) (.cons rfl (.nil)) (.cons (i := 1) rfl (.cons (i := 2) rfl (.cons (i := 6) rfl (.nil)))) (fun wz hw => hw.pick [1, 0] rfl) (fun After5 v6 k5 hI K6 hK6 => ?_)
    obtain ⟨k5, t5, rfl, hF5, hN5⟩ := iter_step hI
    -- region 2: order.go:26
    refine W.seqR fun Q7 hQ7 => ?_
    refine WL.q (Y.lss (.pl rfl) (.pl rfl)) rfl ?_
    refine WL.next hQ7 (.cons (i := 1) rfl (.cons (i := 2) rfl (.cons (i := 6) rfl (.cons (i := 7) rfl (.cons (i := 8) rfl (.nil)))))) ?_
    refine W.seq fun K8 hK8 => ?_
    refine W.cond (.pl rfl) (fun hC9 => ?_) (fun hC9 => ?_)
    · replace hF5 := cpos hC9 hF5
      refine W.skip ?_
      refine W.go hK8 (.cons (i := 1) rfl (.cons (i := 2) rfl (.cons (i := 6) rfl (.cons (i := 7) rfl (.nil))))) ?_
      obtain ⟨o10, hF10, hF5⟩ := bnd hF5
      refine W.join1 (Em := fun (After7 : (List Int)) => []) (M := fun After7 => [cBx b2 50 (encRel (Rel.mk r1.n After7)), cBx b3 50 (encRel (Rel.mk 0 []))]) (I := fun After7 => After7 = o10) (.cons (i := 1) rfl (.cons (i := 2) rfl (.cons (i := 6) rfl (.cons (i := 7) rfl (.nil))))) (fun K11 hK11 => ?_) ?_
      · -- up to
        refine W.block ?_
        -- region 3: order.go:26
        refine W.seqR fun Q12 hQ12 => ?_
        refine WL.q (Y.move (.pl rfl)) rfl ?_
        refine WL.q (Y.assign (.pl rfl)) rfl ?_
        refine WL.next hQ12 (.cons (i := 1) rfl (.cons (i := 2) rfl (.cons (i := 3) rfl (.cons (i := 6) rfl (.cons (i := 7) rfl (.nil)))))) ?_
        -- region 4: order.go:27
        refine W.seqR fun Q13 hQ13 => ?_
        refine WL.q (Y.fieldAddr0 (off := 0) (ft := 3) Try.underlying50 rfl cells3 (.pl rfl)) rfl ?_
        refine WL.q (Y.loadB (v := .int .i64 r1.n) Try.underlying3 rfl (.pl rfl) (i := 0) rfl (rfl)) rfl ?_
        refine WL.q (Y.move (.pl rfl)) rfl ?_
        refine WL.next hQ13 (.cons (i := 1) rfl (.cons (i := 2) rfl (.cons (i := 3) rfl (.cons (i := 6) rfl (.cons (i := 7) rfl (.cons (i := 11) rfl (.cons (i := 12) rfl (.nil)))))))) ?_
        refine W.block ?_
        refine W.loop2 (Em := fun (After8 : (List Int)) (v9 : Int) => [(12, .int .i64 v9)]) (M := fun After8 v9 => [cBx b2 50 (encRel (Rel.mk r1.n After8)), cBx b3 50 (encRel (Rel.mk 0 []))]) (I := fun After8 v9 k14 => iter (order_closed_L27 N r1 v6) k14 (After8, v9) = some o10) After5 0 N (hF10) (.cons rfl (.nil)) (.cons (i := 1) rfl (.cons (i := 2) rfl (.cons (i := 3) rfl (.cons (i := 6) rfl (.cons (i := 7) rfl (.cons (i := 11) rfl (.nil))))))) (fun wz hw => hw.pick [0, 1] rfl) (fun After8 v9 k14 hI K15 hK15 => ?_)
        obtain ⟨k14, t14, rfl, hF14, hN14⟩ := iter_step hI
        -- region 5: order.go:27
        refine W.seqR fun Q16 hQ16 => ?_
        refine WL.q (Y.lss (.pl rfl) (.pl rfl)) rfl ?_
        refine WL.next hQ16 (.cons (i := 1) rfl (.cons (i := 2) rfl (.cons (i := 3) rfl (.cons (i := 6) rfl (.cons (i := 7) rfl (.cons (i := 11) rfl (.cons (i := 12) rfl (.cons (i := 13) rfl (.nil))))))))) ?_
        refine W.seq fun K17 hK17 => ?_
        refine W.cond (.pl rfl) (fun hC18 => ?_) (fun hC18 => ?_)
        · replace hF14 := cpos hC18 hF14
          refine W.skip ?_
          refine W.go hK17 (.cons (i := 1) rfl (.cons (i := 2) rfl (.cons (i := 3) rfl (.cons (i := 6) rfl (.cons (i := 7) rfl (.cons (i := 11) rfl (.cons (i := 12) rfl (.nil)))))))) ?_
          refine W.seq fun K19 hK19 => ?_
          refine W.block ?_
          -- region 6: order.go:27
          refine W.seqR fun Q20 hQ20 => ?_
          refine WL.q (Y.move (.pl rfl)) rfl ?_
          refine WL.q (Y.assign (.pl rfl)) rfl ?_
          refine WL.next hQ20 (.cons (i := 1) rfl (.cons (i := 2) rfl (.cons (i := 3) rfl (.cons (i := 4) rfl (.cons (i := 6) rfl (.cons (i := 7) rfl (.cons (i := 11) rfl (.cons (i := 12) rfl (.nil))))))))) ?_
          -- region 7: order.go:28
          refine W.seqR fun Q21 hQ21 => ?_
          refine WL.q (Y.move (.pl rfl)) rfl ?_
          refine WL.q (Y.fieldAddr0 (off := 1) (ft := 48) Try.underlying50 rfl cells48 (.pl rfl)) rfl ?_
          obtain ⟨x10, hx10, hF14⟩ := bnd hF14
          refine WL.q (Y.arrZ Try.underlying48 cells47 (.pl rfl) (.pl rfl) (ax_lt (hx10))) rfl ?_
          refine WL.q (Y.loadB (v := .int .u16 x10) Try.underlying47 rfl (.pl rfl) (i := 0) rfl (cellsA (pre := (Value.int .i64 r1.n :: [])) (off := 1) (post := []) (a := After8) (enc := (eI .u16)) (d := 0) (n := 12) (sz := 1) (j := 0) (fun _ => rfl) rfl (ax_nat (hx10)) (ax_get (hx10)) rfl)) rfl ?_
          refine WL.q (Y.move (.pl rfl)) rfl ?_
          refine WL.q (Y.conv Try.underlying3 Try.underlying98 (.pl rfl)) rfl ?_
          refine WL.q (Y.shr (.pl rfl) (.pl rfl) (wrapU_nn rfl _)) rfl ?_
          refine WL.q (Y.band (.pl rfl) (.pl rfl)) rfl ?_
          refine WL.q (Y.eql (.pl rfl) (.pl rfl)) rfl ?_
          refine WL.next hQ21 (.cons (i := 1) rfl (.cons (i := 2) rfl (.cons (i := 3) rfl (.cons (i := 4) rfl (.cons (i := 6) rfl (.cons (i := 7) rfl (.cons (i := 11) rfl (.cons (i := 12) rfl (.cons (i := 23) rfl (.nil)))))))))) ?_
          refine W.cond (.pl rfl) (fun hC22 => ?_) (fun hC22 => ?_)
          · replace hF14 := cpos hC22 hF14
            -- region 8: order.go:29
            refine W.regT 11 (by kernel_rfl) (by kernel_rfl) ?_
            refine WS.q (Y.move (.pl rfl)) rfl ?_
            refine WS.q (Y.fieldAddr0 (off := 1) (ft := 48) Try.underlying50 rfl cells48 (.pl rfl)) rfl ?_
            obtain ⟨x11, hx11, hF14⟩ := bnd hF14
            refine WS.q (Y.arrZ Try.underlying48 cells47 (.pl rfl) (.pl rfl) (ax_lt (hx11))) rfl ?_
            refine WS.q (Y.loadB (v := .int .u16 x11) Try.underlying47 rfl (.pl rfl) (i := 0) rfl (cellsA (pre := (Value.int .i64 r1.n :: [])) (off := 1) (post := []) (a := After8) (enc := (eI .u16)) (d := 0) (n := 12) (sz := 1) (j := 0) (fun _ => rfl) rfl (ax_nat (hx11)) (ax_get (hx11)) rfl)) rfl ?_
            refine WS.q (Y.move (.pl rfl)) rfl ?_
            refine WS.q (Y.fieldAddr0 (off := 1) (ft := 48) Try.underlying50 rfl cells48 (.pl rfl)) rfl ?_
            obtain ⟨x12, hx12, hF14⟩ := bnd hF14
            refine WS.q (Y.arrZ Try.underlying48 cells47 (.pl rfl) (.pl rfl) (ax_lt (hx12))) rfl ?_
            refine WS.q (Y.loadB (v := .int .u16 x12) Try.underlying47 rfl (.pl rfl) (i := 0) rfl (cellsA (pre := (Value.int .i64 r1.n :: [])) (off := 1) (post := []) (a := After8) (enc := (eI .u16)) (d := 0) (n := 12) (sz := 1) (j := 0) (fun _ => rfl) rfl (ax_nat (hx12)) (ax_get (hx12)) rfl)) rfl ?_
            refine WS.q (Y.bor (.pl rfl) (.pl rfl)) rfl ?_
            refine WS.q (Y.fieldAddr0 (off := 1) (ft := 48) Try.underlying50 rfl cells48 (.pl rfl)) rfl ?_
            obtain ⟨x13, hx13, hF14⟩ := bnd hF14
            refine WS.q (Y.arrZ Try.underlying48 cells47 (.pl rfl) (.pl rfl) (ax_lt (hx13))) rfl ?_
            refine WS.tail ?_
            refine WL.step (WO.storeB (cs' := (encRel (Rel.mk r1.n (setA 12 0 After8 v9 (borI .u16 x11 x12))))) cells47 (.pl rfl) (.pl rfl) rfl (i := 0) rfl (ltl (m := 13) (offlt (off := 1) (sz := 1) (j := 0) (ax_nat (hx13)) (by decide)) rfl) (cellsSet (pre := (Value.int .i64 r1.n :: [])) (off := 1) (post := []) (a := After8) (enc := (eI .u16)) (d := 0) (n := 12) (sz := 1) (j := 0) (x := x13) (x' := (borI .u16 x11 x12)) (fun _ => rfl) rfl (ax_lt (hx13)) (ax_get (hx13)) (by decide) rfl rfl) ?_)
            refine WL.nil ?_
            refine W.go hK19 (.cons (i := 1) rfl (.cons (i := 2) rfl (.cons (i := 3) rfl (.cons (i := 6) rfl (.cons (i := 7) rfl (.cons (i := 11) rfl (.cons (i := 12) rfl (.nil)))))))) ?_
            -- region 9: order.go:27
            refine W.reg ?_
            obtain ⟨hk14, hF14⟩ := ckh hF14
            refine WL.q (Y.add (.pl rfl) (.pl rfl) (ok64_lt (hk14))) rfl ?_
            refine WL.q (Y.move (.pl rfl)) rfl ?_
            refine WL.nil ?_
            obtain rfl := Option.some.inj hF14
            exact W.again2 hK15 (setA 12 0 After8 v9 (borI .u16 x11 x12)) (v9 + 1) k14 hN14 (Nat.lt_succ_self _) (.cons rfl (.nil)) (.cons (i := 1) rfl (.cons (i := 2) rfl (.cons (i := 3) rfl (.cons (i := 6) rfl (.cons (i := 7) rfl (.cons (i := 11) rfl (.nil))))))) (fun wz hw => hw.pick [0, 1] rfl)
          · replace hF14 := cneg hC22 hF14
            refine W.skip ?_
            refine W.go hK19 (.cons (i := 1) rfl (.cons (i := 2) rfl (.cons (i := 3) rfl (.cons (i := 6) rfl (.cons (i := 7) rfl (.cons (i := 11) rfl (.cons (i := 12) rfl (.nil)))))))) ?_
            -- region 9: order.go:27
            refine W.reg ?_
            obtain ⟨hk15, hF14⟩ := ckh hF14
            refine WL.q (Y.add (.pl rfl) (.pl rfl) (ok64_lt (hk15))) rfl ?_
            refine WL.q (Y.move (.pl rfl)) rfl ?_
            refine WL.nil ?_
            obtain rfl := Option.some.inj hF14
            exact W.again2 hK15 After8 (v9 + 1) k14 hN14 (Nat.lt_succ_self _) (.cons rfl (.nil)) (.cons (i := 1) rfl (.cons (i := 2) rfl (.cons (i := 3) rfl (.cons (i := 6) rfl (.cons (i := 7) rfl (.cons (i := 11) rfl (.nil))))))) (fun wz hw => hw.pick [0, 1] rfl)
        · replace hF14 := cneg hC18 hF14
          refine W.exit ?_
          obtain rfl := Option.some.inj hF14
          exact W.joinAt1 hK11 After8 (einr hN14) (.nil) (.cons (i := 1) rfl (.cons (i := 2) rfl (.cons (i := 6) rfl (.cons (i := 7) rfl (.nil))))) (fun wz hw => hw.pick [0, 1] rfl)
      · -- behind
        rintro After7 rfl
        -- region 10: order.go:26
        refine W.reg ?_
        obtain ⟨hk16, hF5⟩ := ckh hF5
        refine WL.q (Y.add (.pl rfl) (.pl rfl) (ok64_lt (hk16))) rfl ?_
        refine WL.q (Y.move (.pl rfl)) rfl ?_
        refine WL.nil ?_
        obtain rfl := Option.some.inj hF5
        exact W.again2 hK6 After7 (v6 + 1) k5 hN5 (Nat.lt_succ_self _) (.cons rfl (.nil)) (.cons (i := 1) rfl (.cons (i := 2) rfl (.cons (i := 6) rfl (.nil)))) (fun wz hw => hw.pick [0, 1] rfl)
    · replace hF5 := cneg hC9 hF5
      refine W.exit ?_
      obtain rfl := Option.some.inj hF5
      exact W.joinAt1 hK3 After5 (einr hN5) (.nil) (.cons (i := 1) rfl (.cons (i := 2) rfl (.nil))) (fun wz hw => hw.pick [0, 1] rfl)
  · -- behind
    rintro After4 rfl
    -- region 11: order.go:33
    refine W.seqR fun Q27 hQ27 => ?_
    refine WL.q (Y.loadBA (ds := (encRel (Rel.mk r1.n After4))) Try.underlying50 rfl cells50 (.pl rfl) (i := 0) rfl rfl subW) rfl ?_
    refine WL.step (WO.storeBA (ds := (encRel (Rel.mk r1.n After4))) (cs' := (encRel (Rel.mk r1.n After4))) cells50 (.pl rfl) (.pl rfl) rfl (oneRel _) (i := 1) rfl (lel (o := 0) (l := 13) (m := 13) (by decide) rfl rfl) (putW rfl) ?_)
    refine WL.next hQ27 (.cons (i := 2) rfl (.nil)) ?_
    obtain rfl := Option.some.inj hF
    refine W.retV (fn := Try.f107) (vs := [.agg (encRel (Rel.mk r1.n After4)).toArray]) Try.results107 ⟨.cellA Try.underlying50 rfl cells50 rfl (i := 1) rfl rfl, trivial⟩ (fun _ _ h => h) (fun wz hw => ?_)
    exact hR _ _ ⟨rfl, (hw.pick [] rfl)⟩

def order_Close_L3 (N : Nat) (r1 : Rel) (r5 : (List Int)) : Int → Option (Int ⊕ (Unit ⊕ (Int × (List Int) × Bool × Int)))
  | v7 =>
    cond (decide (v7 < r1.n))
      (bd (ax 12 0 r5 v7) fun (x8 : Int) =>
      cond (decide ((bandI .u16 (shrI .u16 x8 (IntKind.u64.wrap v7)) 1) = 1))
        (some (.inr (.inr (r1.n, r5, true, 0))))
        (ck (ok64 (v7 + 1)) <|
        some (.inl (v7 + 1))))
      (some (.inr (.inl ())))

def order_Close (N : Nat) (r1 : Rel) : Option (Int × (List Int) × Bool × Int) :=
  bd (order_Check N r1) fun (r4 : Int) =>
  cond (!(decide (r4 = 0)))
    (some (0, [], false, r4))
    (bd (order_closed N r1) fun (r5 : (List Int)) =>
    bd (α := (Unit ⊕ (Int × (List Int) × Bool × Int))) (iter (order_Close_L3 N r1 r5) N 0) <|
    Sum.elim (fun _ => 
      some (r1.n, r5, false, 0)) (fun p => some p))

theorem order_Close_ok {N : Nat} {r1 : Rel} {res : (Int × (List Int) × Bool × Int)} (hF : order_Close N r1 = some res) (w : World) :
    Pure Try.prog 90 [.agg (encRel r1).toArray] w (.tuple #[.agg (encRel (Rel.mk res.1 res.2.1)).toArray, .bool res.2.2.1, .int .i64 res.2.2.2]) := by
  refine W.enter (n := 33) Try.func90 rfl rfl Sub.refl (by simp) (St.start w) fun R hR => ?_
  unfold order_Close at hF
  -- region 0: order.go:37
  refine W.seqR fun Q1 hQ1 => ?_
  refine WL.step (WO.boxA (.pl rfl) rfl fun b2 => ?_)
  refine WL.step (WO.alloc (cs := (encRel (Rel.mk 0 [])).toArray) zero50 rfl rfl fun b3 => ?_)
  refine WL.q (Y.assign (.pl rfl)) rfl ?_
  refine WL.q (Y.assign (.pl rfl)) rfl ?_
  refine WL.next hQ1 (.cons (i := 1) rfl (.cons (i := 2) rfl (.nil))) ?_
  refine W.seq fun K2 hK2 => ?_
  -- region 1: order.go:38
  refine W.seqR fun Q3 hQ3 => ?_
  refine WL.q (Y.loadBA (ds := (encRel r1)) Try.underlying50 rfl cells50 (.pl rfl) (i := 1) rfl rfl subW) rfl ?_
  obtain ⟨r4, hr4, hF⟩ := bnd hF
  refine WL.step (WO.callP isGo106 (.cons (.pl rfl) (.nil)) rfl (fun wz hw => order_Check_ok (hr4) wz ) ?_)
  refine WL.q (Y.assign (.pl rfl)) rfl ?_
  refine WL.next hQ3 (.cons (i := 1) rfl (.cons (i := 2) rfl (.cons (i := 5) rfl (.nil)))) ?_
  -- region 2: order.go:38
  refine W.seqR fun Q4 hQ4 => ?_
  refine WL.q (Y.move (.pl rfl)) rfl ?_
  refine WL.q (Y.neq (.pl rfl) (.pl rfl)) rfl ?_
  refine WL.next hQ4 (.cons (i := 1) rfl (.cons (i := 2) rfl (.cons (i := 5) rfl (.cons (i := 11) rfl (.nil))))) ?_
  refine W.cond (.pl rfl) (fun hC5 => ?_) (fun hC5 => ?_)
  · replace hF := cpos hC5 hF
    -- region 3: order.go:39
    refine W.seqR fun Q6 hQ6 => ?_
    refine WL.q (Y.build (cs := (encRel (Rel.mk 0 [])).toArray) shape50 (.nil) (one_parts trivial) rfl) rfl ?_
    refine WL.q (Y.move (.pl rfl)) rfl ?_
    refine WL.step (WO.storeBA (ds := (encRel (Rel.mk 0 []))) (cs' := (encRel (Rel.mk 0 []))) cells50 (.pl rfl) (.pl rfl) rfl (oneRel _) (i := 0) rfl (lel (o := 0) (l := 13) (m := 13) (by decide) rfl rfl) (putW rfl) ?_)
    refine WL.q (Y.assign (.pl rfl)) rfl ?_
    refine WL.q (Y.assign (.pl rfl)) rfl ?_
    refine WL.next hQ6 (.cons (i := 2) rfl (.cons (i := 3) rfl (.cons (i := 4) rfl (.nil)))) ?_
    obtain rfl := Option.some.inj hF
    refine W.retV (fn := Try.f90) (vs := [.agg (encRel (Rel.mk 0 [])).toArray, .bool false, .int .i64 r4]) Try.results90 ⟨.cellA Try.underlying50 rfl cells50 rfl (i := 0) rfl rfl, ⟨.tmp rfl, ⟨.tmp rfl, trivial⟩⟩⟩ (fun _ _ h => h) (fun wz hw => ?_)
    exact hR _ _ ⟨rfl, (hw.pick [] rfl)⟩
  · replace hF := cneg hC5 hF
    refine W.skip ?_
    refine W.go hK2 (.cons (i := 1) rfl (.cons (i := 2) rfl (.nil))) ?_
    -- region 4: order.go:41
    refine W.seqR fun Q7 hQ7 => ?_
    refine WL.q (Y.loadBA (ds := (encRel r1)) Try.underlying50 rfl cells50 (.pl rfl) (i := 1) rfl rfl subW) rfl ?_
    obtain ⟨r5, hr5, hF⟩ := bnd hF
    refine WL.step (WO.callP isGo107 (.cons (.pl rfl) (.nil)) rfl (fun wz hw => order_closed_ok (hr5) wz ) ?_)
    refine WL.step (WO.alloc (cs := (encRel (Rel.mk 0 [])).toArray) zero50 rfl rfl fun b6 => ?_)
    refine WL.step (WO.storeBA (ds := (encRel (Rel.mk r1.n r5))) (cs' := (encRel (Rel.mk r1.n r5))) cells50 (.pl rfl) (.pl rfl) rfl (oneRel _) (i := 0) rfl (lel (o := 0) (l := 13) (m := 13) (by decide) rfl rfl) (putW rfl) ?_)
    refine WL.next hQ7 (.cons (i := 2) rfl (.cons (i := 6) rfl (.nil))) ?_
    obtain ⟨o8, hF8, hF⟩ := bnd hF
    refine W.join0 (Em := []) (M := [cBx b3 50 (encRel (Rel.mk 0 [])), cBx b6 50 (encRel (Rel.mk r1.n r5))]) (I := (.inl ()) = o8) (.cons (i := 2) rfl (.cons (i := 6) rfl (.nil))) (fun K9 hK9 => ?_) ?_
    · -- up to
      -- region 5: order.go:42
      refine W.seqR fun Q10 hQ10 => ?_
      refine WL.q (Y.fieldAddr0 (off := 0) (ft := 3) Try.underlying50 rfl cells3 (.pl rfl)) rfl ?_
      refine WL.q (Y.loadB (v := .int .i64 r1.n) Try.underlying3 rfl (.pl rfl) (i := 0) rfl (rfl)) rfl ?_
      refine WL.q (Y.move (.pl rfl)) rfl ?_
      refine WL.next hQ10 (.cons (i := 2) rfl (.cons (i := 6) rfl (.cons (i := 17) rfl (.cons (i := 18) rfl (.nil))))) ?_
      refine W.block ?_
      refine W.loop1 (Em := fun (v7 : Int) => [(18, .int .i64 v7)]) (M := fun v7 => [cBx b3 50 (encRel (Rel.mk 0 [])), cBx b6 50 (encRel (Rel.mk r1.n r5))]) (I := fun v7 k11 => iter (order_Close_L3 N r1 r5) k11 v7 = some o8) 0 N (hF8) (.cons rfl (.nil)) (.cons (i := 2) rfl (.cons (i := 6) rfl (.cons (i := 17) rfl (.nil)))) (fun wz hw => hw.pick [1, 0] rfl) (fun v7 k11 hI K12 hK12 => ?_)
      obtain ⟨k11, t11, rfl, hF11, hN11⟩ := iter_step hI
      -- region 6: order.go:42
      refine W.seqR fun Q13 hQ13 => ?_
      refine WL.q (Y.lss (.pl rfl) (.pl rfl)) rfl ?_
      refine WL.next hQ13 (.cons (i := 2) rfl (.cons (i := 6) rfl (.cons (i := 17) rfl (.cons (i := 18) rfl (.cons (i := 19) rfl (.nil)))))) ?_
      refine W.seq fun K14 hK14 => ?_
      refine W.cond (.pl rfl) (fun hC15 => ?_) (fun hC15 => ?_)
      · replace hF11 := cpos hC15 hF11
        refine W.skip ?_
        refine W.go hK14 (.cons (i := 2) rfl (.cons (i := 6) rfl (.cons (i := 17) rfl (.cons (i := 18) rfl (.nil))))) ?_
        refine W.seq fun K16 hK16 => ?_
        refine W.block ?_
        -- region 7: order.go:42
        refine W.seqR fun Q17 hQ17 => ?_
        refine WL.q (Y.move (.pl rfl)) rfl ?_
        refine WL.q (Y.assign (.pl rfl)) rfl ?_
        refine WL.next hQ17 (.cons (i := 2) rfl (.cons (i := 6) rfl (.cons (i := 7) rfl (.cons (i := 17) rfl (.cons (i := 18) rfl (.nil)))))) ?_
        -- region 8: order.go:43
        refine W.seqR fun Q18 hQ18 => ?_
        refine WL.q (Y.move (.pl rfl)) rfl ?_
        refine WL.q (Y.fieldAddr0 (off := 1) (ft := 48) Try.underlying50 rfl cells48 (.pl rfl)) rfl ?_
        obtain ⟨x8, hx8, hF11⟩ := bnd hF11
        refine WL.q (Y.arrZ Try.underlying48 cells47 (.pl rfl) (.pl rfl) (ax_lt (hx8))) rfl ?_
        refine WL.q (Y.loadB (v := .int .u16 x8) Try.underlying47 rfl (.pl rfl) (i := 1) rfl (cellsA (pre := (Value.int .i64 r1.n :: [])) (off := 1) (post := []) (a := r5) (enc := (eI .u16)) (d := 0) (n := 12) (sz := 1) (j := 0) (fun _ => rfl) rfl (ax_nat (hx8)) (ax_get (hx8)) rfl)) rfl ?_
        refine WL.q (Y.move (.pl rfl)) rfl ?_
        refine WL.q (Y.conv Try.underlying3 Try.underlying98 (.pl rfl)) rfl ?_
        refine WL.q (Y.shr (.pl rfl) (.pl rfl) (wrapU_nn rfl _)) rfl ?_
        refine WL.q (Y.band (.pl rfl) (.pl rfl)) rfl ?_
        refine WL.q (Y.eql (.pl rfl) (.pl rfl)) rfl ?_
        refine WL.next hQ18 (.cons (i := 2) rfl (.cons (i := 6) rfl (.cons (i := 17) rfl (.cons (i := 18) rfl (.cons (i := 29) rfl (.nil)))))) ?_
        refine W.cond (.pl rfl) (fun hC19 => ?_) (fun hC19 => ?_)
        · replace hF11 := cpos hC19 hF11
          -- region 9: order.go:44
          refine W.seqR fun Q20 hQ20 => ?_
          refine WL.q (Y.loadBA (ds := (encRel (Rel.mk r1.n r5))) Try.underlying50 rfl cells50 (.pl rfl) (i := 1) rfl rfl subW) rfl ?_
          refine WL.step (WO.storeBA (ds := (encRel (Rel.mk r1.n r5))) (cs' := (encRel (Rel.mk r1.n r5))) cells50 (.pl rfl) (.pl rfl) rfl (oneRel _) (i := 0) rfl (lel (o := 0) (l := 13) (m := 13) (by decide) rfl rfl) (putW rfl) ?_)
          refine WL.q (Y.assign (.pl rfl)) rfl ?_
          refine WL.q (Y.assign (.pl rfl)) rfl ?_
          refine WL.next hQ20 (.cons (i := 2) rfl (.cons (i := 3) rfl (.cons (i := 4) rfl (.nil)))) ?_
          obtain rfl := Option.some.inj hF11
          obtain rfl := einr hN11
          obtain rfl := Option.some.inj hF
          refine W.retV (fn := Try.f90) (vs := [.agg (encRel (Rel.mk r1.n r5)).toArray, .bool true, .int .i64 0]) Try.results90 ⟨.cellA Try.underlying50 rfl cells50 rfl (i := 0) rfl rfl, ⟨.tmp rfl, ⟨.tmp rfl, trivial⟩⟩⟩ (fun _ _ h => h) (fun wz hw => ?_)
          exact hR _ _ ⟨rfl, (hw.pick [] rfl)⟩
        · replace hF11 := cneg hC19 hF11
          refine W.skip ?_
          refine W.go hK16 (.cons (i := 2) rfl (.cons (i := 6) rfl (.cons (i := 17) rfl (.cons (i := 18) rfl (.nil))))) ?_
          -- region 10: order.go:42
          refine W.reg ?_
          obtain ⟨hk9, hF11⟩ := ckh hF11
          refine WL.q (Y.add (.pl rfl) (.pl rfl) (ok64_lt (hk9))) rfl ?_
          refine WL.q (Y.move (.pl rfl)) rfl ?_
          refine WL.nil ?_
          obtain rfl := Option.some.inj hF11
          exact W.again1 hK12 (v7 + 1) k11 hN11 (Nat.lt_succ_self _) (.cons rfl (.nil)) (.cons (i := 2) rfl (.cons (i := 6) rfl (.cons (i := 17) rfl (.nil)))) (fun wz hw => hw.pick [0, 1] rfl)
      · replace hF11 := cneg hC15 hF11
        refine W.exit ?_
        obtain rfl := Option.some.inj hF11
        exact W.joinAt0 hK9  (einr hN11) (.nil) (.cons (i := 2) rfl (.cons (i := 6) rfl (.nil))) (fun wz hw => hw.pick [0, 1] rfl)
    · -- behind
      rintro  rfl
      -- region 11: order.go:47
      refine W.seqR fun Q22 hQ22 => ?_
      refine WL.q (Y.loadBA (ds := (encRel (Rel.mk r1.n r5))) Try.underlying50 rfl cells50 (.pl rfl) (i := 1) rfl rfl subW) rfl ?_
      refine WL.step (WO.storeBA (ds := (encRel (Rel.mk r1.n r5))) (cs' := (encRel (Rel.mk r1.n r5))) cells50 (.pl rfl) (.pl rfl) rfl (oneRel _) (i := 0) rfl (lel (o := 0) (l := 13) (m := 13) (by decide) rfl rfl) (putW rfl) ?_)
      refine WL.q (Y.assign (.pl rfl)) rfl ?_
      refine WL.q (Y.assign (.pl rfl)) rfl ?_
      refine WL.next hQ22 (.cons (i := 2) rfl (.cons (i := 3) rfl (.cons (i := 4) rfl (.nil)))) ?_
      obtain rfl := Option.some.inj hF
      refine W.retV (fn := Try.f90) (vs := [.agg (encRel (Rel.mk r1.n r5)).toArray, .bool false, .int .i64 0]) Try.results90 ⟨.cellA Try.underlying50 rfl cells50 rfl (i := 0) rfl rfl, ⟨.tmp rfl, ⟨.tmp rfl, trivial⟩⟩⟩ (fun _ _ h => h) (fun wz hw => ?_)
      exact hR _ _ ⟨rfl, (hw.pick [] rfl)⟩

def order_acyclic (N : Nat) (r1 : Rel) : Option (Int × (List Int) × Int) :=
  bd (order_Close N r1) fun (r4 : (Int × (List Int) × Bool × Int)) =>
  cond (!(decide (r4.2.2.2 = 0)))
    (some (0, [], r4.2.2.2))
    (cond r4.2.2.1
      (some (0, [], 4))
      (some (r4.1, r4.2.1, 0)))

theorem order_acyclic_ok {N : Nat} {r1 : Rel} {res : (Int × (List Int) × Int)} (hF : order_acyclic N r1 = some res) (w : World) :
    Pure Try.prog 63 [.agg (encRel r1).toArray] w (.tuple #[.agg (encRel (Rel.mk res.1 res.2.1)).toArray, .int .i64 res.2.2]) := by
  refine W.enter (n := 22) Try.func63 rfl rfl Sub.refl (by simp) (St.start w) fun R hR => ?_
  unfold order_acyclic at hF
  -- region 0: order.go:51
  refine W.seqR fun Q1 hQ1 => ?_
  refine WL.step (WO.boxA (.pl rfl) rfl fun b2 => ?_)
  refine WL.step (WO.alloc (cs := (encRel (Rel.mk 0 [])).toArray) zero50 rfl rfl fun b3 => ?_)
  refine WL.q (Y.assign (.pl rfl)) rfl ?_
  refine WL.next hQ1 (.cons (i := 1) rfl (.cons (i := 2) rfl (.nil))) ?_
  -- region 1: order.go:52
  refine W.seqR fun Q2 hQ2 => ?_
  refine WL.q (Y.loadBA (ds := (encRel r1)) Try.underlying50 rfl cells50 (.pl rfl) (i := 1) rfl rfl subW) rfl ?_
  obtain ⟨r4, hr4, hF⟩ := bnd hF
  refine WL.step (WO.callP isGo90 (.cons (.pl rfl) (.nil)) rfl (fun wz hw => order_Close_ok (hr4) wz ) ?_)
  refine WL.q (Y.move (.pl rfl)) rfl ?_
  refine WL.q (Y.extract (.pl rfl) rfl) rfl ?_
  refine WL.q (Y.extract (.pl rfl) rfl) rfl ?_
  refine WL.q (Y.extract (.pl rfl) rfl) rfl ?_
  refine WL.step (WO.alloc (cs := (encRel (Rel.mk 0 [])).toArray) zero50 rfl rfl fun b5 => ?_)
  refine WL.step (WO.storeBA (ds := (encRel (Rel.mk r4.1 r4.2.1))) (cs' := (encRel (Rel.mk r4.1 r4.2.1))) cells50 (.pl rfl) (.pl rfl) rfl (oneRel _) (i := 0) rfl (lel (o := 0) (l := 13) (m := 13) (by decide) rfl rfl) (putW rfl) ?_)
  refine WL.q (Y.assign (.pl rfl)) rfl ?_
  refine WL.q (Y.assign (.pl rfl)) rfl ?_
  refine WL.next hQ2 (.cons (i := 2) rfl (.cons (i := 4) rfl (.cons (i := 5) rfl (.cons (i := 6) rfl (.nil))))) ?_
  refine W.seq fun K3 hK3 => ?_
  refine W.block ?_
  -- region 2: order.go:54
  refine W.seqR fun Q4 hQ4 => ?_
  refine WL.q (Y.move (.pl rfl)) rfl ?_
  refine WL.q (Y.neq (.pl rfl) (.pl rfl)) rfl ?_
  refine WL.q (Y.assign (.pl rfl)) rfl ?_
  refine WL.next hQ4 (.cons (i := 2) rfl (.cons (i := 4) rfl (.cons (i := 5) rfl (.cons (i := 6) rfl (.cons (i := 13) rfl (.nil)))))) ?_
  refine W.cond (.pl rfl) (fun hC5 => ?_) (fun hC5 => ?_)
  · replace hF := cpos hC5 hF
    -- region 3: order.go:55
    refine W.seqR fun Q6 hQ6 => ?_
    refine WL.q (Y.build (cs := (encRel (Rel.mk 0 [])).toArray) shape50 (.nil) (one_parts trivial) rfl) rfl ?_
    refine WL.q (Y.move (.pl rfl)) rfl ?_
    refine WL.step (WO.storeBA (ds := (encRel (Rel.mk 0 []))) (cs' := (encRel (Rel.mk 0 []))) cells50 (.pl rfl) (.pl rfl) rfl (oneRel _) (i := 1) rfl (lel (o := 0) (l := 13) (m := 13) (by decide) rfl rfl) (putW rfl) ?_)
    refine WL.q (Y.assign (.pl rfl)) rfl ?_
    refine WL.next hQ6 (.cons (i := 2) rfl (.cons (i := 3) rfl (.nil))) ?_
    obtain rfl := Option.some.inj hF
    refine W.retV (fn := Try.f63) (vs := [.agg (encRel (Rel.mk 0 [])).toArray, .int .i64 r4.2.2.2]) Try.results63 ⟨.cellA Try.underlying50 rfl cells50 rfl (i := 1) rfl rfl, ⟨.tmp rfl, trivial⟩⟩ (fun _ _ h => h) (fun wz hw => ?_)
    exact hR _ _ ⟨rfl, (hw.pick [] rfl)⟩
  · replace hF := cneg hC5 hF
    -- region 4: order.go:56
    refine W.seqR fun Q7 hQ7 => ?_
    refine WL.q (Y.move (.pl rfl)) rfl ?_
    refine WL.q (Y.assign (.pl rfl)) rfl ?_
    refine WL.next hQ7 (.cons (i := 2) rfl (.cons (i := 4) rfl (.cons (i := 18) rfl (.nil)))) ?_
    refine W.cond (.pl rfl) (fun hC8 => ?_) (fun hC8 => ?_)
    · replace hF := cpos hC8 hF
      -- region 5: order.go:57
      refine W.seqR fun Q9 hQ9 => ?_
      refine WL.q (Y.build (cs := (encRel (Rel.mk 0 [])).toArray) shape50 (.nil) (one_parts trivial) rfl) rfl ?_
      refine WL.step (WO.storeBA (ds := (encRel (Rel.mk 0 []))) (cs' := (encRel (Rel.mk 0 []))) cells50 (.pl rfl) (.pl rfl) rfl (oneRel _) (i := 1) rfl (lel (o := 0) (l := 13) (m := 13) (by decide) rfl rfl) (putW rfl) ?_)
      refine WL.q (Y.assign (.pl rfl)) rfl ?_
      refine WL.next hQ9 (.cons (i := 2) rfl (.cons (i := 3) rfl (.nil))) ?_
      obtain rfl := Option.some.inj hF
      refine W.retV (fn := Try.f63) (vs := [.agg (encRel (Rel.mk 0 [])).toArray, .int .i64 4]) Try.results63 ⟨.cellA Try.underlying50 rfl cells50 rfl (i := 1) rfl rfl, ⟨.tmp rfl, trivial⟩⟩ (fun _ _ h => h) (fun wz hw => ?_)
      exact hR _ _ ⟨rfl, (hw.pick [] rfl)⟩
    · replace hF := cneg hC8 hF
      refine W.skip ?_
      refine W.go hK3 (.cons (i := 2) rfl (.cons (i := 4) rfl (.nil))) ?_
      -- region 6: order.go:59
      refine W.seqR fun Q10 hQ10 => ?_
      refine WL.q (Y.loadBA (ds := (encRel (Rel.mk r4.1 r4.2.1))) Try.underlying50 rfl cells50 (.pl rfl) (i := 0) rfl rfl subW) rfl ?_
      refine WL.step (WO.storeBA (ds := (encRel (Rel.mk r4.1 r4.2.1))) (cs' := (encRel (Rel.mk r4.1 r4.2.1))) cells50 (.pl rfl) (.pl rfl) rfl (oneRel _) (i := 1) rfl (lel (o := 0) (l := 13) (m := 13) (by decide) rfl rfl) (putW rfl) ?_)
      refine WL.q (Y.assign (.pl rfl)) rfl ?_
      refine WL.next hQ10 (.cons (i := 2) rfl (.cons (i := 3) rfl (.nil))) ?_
      obtain rfl := Option.some.inj hF
      refine W.retV (fn := Try.f63) (vs := [.agg (encRel (Rel.mk r4.1 r4.2.1)).toArray, .int .i64 0]) Try.results63 ⟨.cellA Try.underlying50 rfl cells50 rfl (i := 1) rfl rfl, ⟨.tmp rfl, trivial⟩⟩ (fun _ _ h => h) (fun wz hw => ?_)
      exact hR _ _ ⟨rfl, (hw.pick [] rfl)⟩

def order_has (N : Nat) (c1 : Rel) (i2 : Int) (j3 : Int) : Option Bool :=
  bd (ax 12 0 c1.after i2) fun (x5 : Int) =>
  some (decide ((bandI .u16 (shrI .u16 x5 (IntKind.u64.wrap j3)) 1) = 1))

theorem order_has_ok {N : Nat} {c1 : Rel} {i2 : Int} {j3 : Int} {res : Bool} (hF : order_has N c1 i2 j3 = some res) (w : World) :
    Pure Try.prog 91 [.agg (encRel c1).toArray, .int .i64 i2, .int .i64 j3] w (.bool res) := by
  refine W.enter (n := 16) Try.func91 rfl rfl Sub.refl (by simp) (St.start w) fun R hR => ?_
  unfold order_has at hF
  -- region 0: order.go:62
  refine W.seqR fun Q1 hQ1 => ?_
  refine WL.step (WO.boxA (.pl rfl) rfl fun b4 => ?_)
  refine WL.q (Y.assign (.pl rfl)) rfl ?_
  refine WL.next hQ1 (.cons (i := 1) rfl (.cons (i := 2) rfl (.cons (i := 3) rfl (.nil)))) ?_
  -- region 1: order.go:62
  refine W.seqR fun Q2 hQ2 => ?_
  refine WL.q (Y.move (.pl rfl)) rfl ?_
  refine WL.q (Y.fieldAddr0 (off := 1) (ft := 48) Try.underlying50 rfl cells48 (.pl rfl)) rfl ?_
  obtain ⟨x5, hx5, hF⟩ := bnd hF
  refine WL.q (Y.arrZ Try.underlying48 cells47 (.pl rfl) (.pl rfl) (ax_lt (hx5))) rfl ?_
  refine WL.q (Y.loadB (v := .int .u16 x5) Try.underlying47 rfl (.pl rfl) (i := 0) rfl (cellsA (pre := (Value.int .i64 c1.n :: [])) (off := 1) (post := []) (a := c1.after) (enc := (eI .u16)) (d := 0) (n := 12) (sz := 1) (j := 0) (fun _ => rfl) rfl (ax_nat (hx5)) (ax_get (hx5)) rfl)) rfl ?_
  refine WL.q (Y.move (.pl rfl)) rfl ?_
  refine WL.q (Y.conv Try.underlying3 Try.underlying98 (.pl rfl)) rfl ?_
  refine WL.q (Y.shr (.pl rfl) (.pl rfl) (wrapU_nn rfl _)) rfl ?_
  refine WL.q (Y.band (.pl rfl) (.pl rfl)) rfl ?_
  refine WL.q (Y.eql (.pl rfl) (.pl rfl)) rfl ?_
  refine WL.q (Y.assign (.pl rfl)) rfl ?_
  refine WL.next hQ2 (.cons (i := 6) rfl (.nil)) ?_
  obtain rfl := Option.some.inj hF
  refine W.retV (fn := Try.f91) (vs := [.bool (decide ((bandI .u16 (shrI .u16 x5 (IntKind.u64.wrap j3)) 1) = 1))]) Try.results91 ⟨.tmp rfl, trivial⟩ (fun _ _ h => h) (fun wz hw => ?_)
  exact hR _ _ ⟨rfl, (hw.pick [] rfl)⟩

def order_before_L3 (N : Nat) (c1 : Rel) (j2 : Int) : (Int × Int) → Option ((Int × Int) ⊕ Int)
  | (out5, v6) =>
    cond (decide (v6 < c1.n))
      (bd (order_has N c1 v6 j2) fun (r7 : Bool) =>
      cond r7
        (ck (ok64 (v6 + 1)) <|
        some (.inl ((borI .u16 out5 (shlI .u16 1 (IntKind.u64.wrap v6))), (v6 + 1))))
        (ck (ok64 (v6 + 1)) <|
        some (.inl (out5, (v6 + 1)))))
      (some (.inr out5))

def order_before (N : Nat) (c1 : Rel) (j2 : Int) : Option Int :=
  bd (α := Int) (iter (order_before_L3 N c1 j2) N (0, 0)) <|
  fun (out4 : Int) => 
    some out4

theorem order_before_ok {N : Nat} {c1 : Rel} {j2 : Int} {res : Int} (hF : order_before N c1 j2 = some res) (w : World) :
    Pure Try.prog 64 [.agg (encRel c1).toArray, .int .i64 j2] w (.int .u16 res) := by
  refine W.enter (n := 23) Try.func64 rfl rfl Sub.refl (by simp) (St.start w) fun R hR => ?_
  unfold order_before at hF
  -- region 0: order.go:65
  refine W.seqR fun Q1 hQ1 => ?_
  refine WL.step (WO.boxA (.pl rfl) rfl fun b3 => ?_)
  refine WL.q (Y.assign (.pl rfl)) rfl ?_
  refine WL.next hQ1 (.cons (i := 1) rfl (.cons (i := 2) rfl (.nil))) ?_
  -- region 1: order.go:66
  refine W.seqR fun Q2 hQ2 => ?_
  refine WL.q (Y.assign (.pl rfl)) rfl ?_
  refine WL.next hQ2 (.cons (i := 1) rfl (.cons (i := 2) rfl (.cons (i := 5) rfl (.nil)))) ?_
  obtain ⟨o3, hF3, hF⟩ := bnd hF
  refine W.join1 (Em := fun (out4 : Int) => [(5, .int .u16 out4)]) (M := fun out4 => []) (I := fun out4 => out4 = o3) (.nil) (fun K4 hK4 => ?_) ?_
  · -- up to
    -- region 2: order.go:67
    refine W.seqR fun Q5 hQ5 => ?_
    refine WL.q (Y.fieldAddr0 (off := 0) (ft := 3) Try.underlying50 rfl cells3 (.pl rfl)) rfl ?_
    refine WL.q (Y.loadB (v := .int .i64 c1.n) Try.underlying3 rfl (.pl rfl) (i := 0) rfl (rfl)) rfl ?_
    refine WL.q (Y.move (.pl rfl)) rfl ?_
    refine WL.next hQ5 (.cons (i := 1) rfl (.cons (i := 2) rfl (.cons (i := 5) rfl (.cons (i := 8) rfl (.cons (i := 9) rfl (.nil)))))) ?_
    refine W.block ?_
    refine W.loop2 (Em := fun (out5 : Int) (v6 : Int) => [(5, .int .u16 out5), (9, .int .i64 v6)]) (M := fun out5 v6 => [cBx b3 50 (encRel c1)]) (I := fun out5 v6 k6 => iter (order_before_L3 N c1 j2) k6 (out5, v6) = some o3) 0 0 N (hF3) (.cons rfl (.cons rfl (.nil))) (.cons (i := 1) rfl (.cons (i := 2) rfl (.cons (i := 8) rfl (.nil)))) (fun wz hw => hw.pick [0] rfl) (fun out5 v6 k6 hI K7 hK7 => ?_)
    obtain ⟨k6, t6, rfl, hF6, hN6⟩ := iter_step hI
    -- region 3: order.go:67
    refine W.seqR fun Q8 hQ8 => ?_
    refine WL.q (Y.lss (.pl rfl) (.pl rfl)) rfl ?_
    refine WL.next hQ8 (.cons (i := 1) rfl (.cons (i := 2) rfl (.cons (i := 5) rfl (.cons (i := 8) rfl (.cons (i := 9) rfl (.cons (i := 10) rfl (.nil))))))) ?_
    refine W.seq fun K9 hK9 => ?_
    refine W.cond (.pl rfl) (fun hC10 => ?_) (fun hC10 => ?_)
    · replace hF6 := cpos hC10 hF6
      refine W.skip ?_
      refine W.go hK9 (.cons (i := 1) rfl (.cons (i := 2) rfl (.cons (i := 5) rfl (.cons (i := 8) rfl (.cons (i := 9) rfl (.nil)))))) ?_
      refine W.seq fun K11 hK11 => ?_
      refine W.block ?_
      -- region 4: order.go:67
      refine W.seqR fun Q12 hQ12 => ?_
      refine WL.q (Y.move (.pl rfl)) rfl ?_
      refine WL.q (Y.assign (.pl rfl)) rfl ?_
      refine WL.next hQ12 (.cons (i := 1) rfl (.cons (i := 2) rfl (.cons (i := 5) rfl (.cons (i := 6) rfl (.cons (i := 8) rfl (.cons (i := 9) rfl (.nil))))))) ?_
      -- region 5: order.go:68
      refine W.seqR fun Q13 hQ13 => ?_
      refine WL.q (Y.loadBA (ds := (encRel c1)) Try.underlying50 rfl cells50 (.pl rfl) (i := 0) rfl rfl subW) rfl ?_
      refine WL.q (Y.move (.pl rfl)) rfl ?_
      refine WL.q (Y.move (.pl rfl)) rfl ?_
      obtain ⟨r7, hr7, hF6⟩ := bnd hF6
      refine WL.step (WO.callP isGo91 (.cons (.pl rfl) (.cons (.pl rfl) (.cons (.pl rfl) (.nil)))) rfl (fun wz hw => order_has_ok (hr7) wz ) ?_)
      refine WL.next hQ13 (.cons (i := 1) rfl (.cons (i := 2) rfl (.cons (i := 5) rfl (.cons (i := 6) rfl (.cons (i := 8) rfl (.cons (i := 9) rfl (.cons (i := 15) rfl (.nil)))))))) ?_
      refine W.cond (.pl rfl) (fun hC14 => ?_) (fun hC14 => ?_)
      · replace hF6 := cpos hC14 hF6
        -- region 6: order.go:69
        refine W.reg ?_
        refine WL.q (Y.move (.pl rfl)) rfl ?_
        refine WL.q (Y.move (.pl rfl)) rfl ?_
        refine WL.q (Y.conv Try.underlying3 Try.underlying98 (.pl rfl)) rfl ?_
        refine WL.q (Y.shl (.pl rfl) (.pl rfl) (wrapU_nn rfl _)) rfl ?_
        refine WL.q (Y.bor (.pl rfl) (.pl rfl)) rfl ?_
        refine WL.q (Y.assign (.pl rfl)) rfl ?_
        refine WL.nil ?_
        refine W.go hK11 (.cons (i := 1) rfl (.cons (i := 2) rfl (.cons (i := 5) rfl (.cons (i := 8) rfl (.cons (i := 9) rfl (.nil)))))) ?_
        -- region 7: order.go:67
        refine W.reg ?_
        obtain ⟨hk8, hF6⟩ := ckh hF6
        refine WL.q (Y.add (.pl rfl) (.pl rfl) (ok64_lt (hk8))) rfl ?_
        refine WL.q (Y.move (.pl rfl)) rfl ?_
        refine WL.nil ?_
        obtain rfl := Option.some.inj hF6
        exact W.again2 hK7 (borI .u16 out5 (shlI .u16 1 (IntKind.u64.wrap v6))) (v6 + 1) k6 hN6 (Nat.lt_succ_self _) (.cons rfl (.cons rfl (.nil))) (.cons (i := 1) rfl (.cons (i := 2) rfl (.cons (i := 8) rfl (.nil)))) (fun wz hw => hw.pick [0] rfl)
      · replace hF6 := cneg hC14 hF6
        refine W.skip ?_
        refine W.go hK11 (.cons (i := 1) rfl (.cons (i := 2) rfl (.cons (i := 5) rfl (.cons (i := 8) rfl (.cons (i := 9) rfl (.nil)))))) ?_
        -- region 7: order.go:67
        refine W.reg ?_
        obtain ⟨hk9, hF6⟩ := ckh hF6
        refine WL.q (Y.add (.pl rfl) (.pl rfl) (ok64_lt (hk9))) rfl ?_
        refine WL.q (Y.move (.pl rfl)) rfl ?_
        refine WL.nil ?_
        obtain rfl := Option.some.inj hF6
        exact W.again2 hK7 out5 (v6 + 1) k6 hN6 (Nat.lt_succ_self _) (.cons rfl (.cons rfl (.nil))) (.cons (i := 1) rfl (.cons (i := 2) rfl (.cons (i := 8) rfl (.nil)))) (fun wz hw => hw.pick [0] rfl)
    · replace hF6 := cneg hC10 hF6
      refine W.exit ?_
      obtain rfl := Option.some.inj hF6
      exact W.joinAt1 hK4 out5 (einr hN6) (.cons rfl (.nil)) (.nil) (fun wz hw => hw.pick [] rfl)
  · -- behind
    rintro out4 rfl
    -- region 8: order.go:72
    refine W.seqR fun Q18 hQ18 => ?_
    refine WL.q (Y.move (.pl rfl)) rfl ?_
    refine WL.q (Y.assign (.pl rfl)) rfl ?_
    refine WL.next hQ18 (.cons (i := 4) rfl (.nil)) ?_
    obtain rfl := Option.some.inj hF
    refine W.retV (fn := Try.f64) (vs := [.int .u16 out4]) Try.results64 ⟨.tmp rfl, trivial⟩ (fun _ _ h => h) (fun wz hw => ?_)
    exact hR _ _ ⟨rfl, (hw.pick [] rfl)⟩

def order_Least_L15 (N : Nat) (r3 : (Int × (List Int) × Int)) (done11 : Int) (out10 : (List Int)) : Int → Option (Int ⊕ ((List Int) × Int))
  | v12 =>
    cond (decide (v12 < r3.1))
      (bd ((cond ((decide ((bandI .u16 (shrI .u16 done11 (IntKind.u64.wrap v12)) 1) = 0)) == true) (order_before N (Rel.mk r3.1 r3.2.1) v12) (some 0))) fun (r13 : Int) =>
      cond ((decide ((bandI .u16 (shrI .u16 done11 (IntKind.u64.wrap v12)) 1) = 0)) && (decide ((bclrI .u16 r13 done11) = 0)))
        (ck (limB 8 ((out10).length + (([v12] : List Int)).length)) <|
        some (.inr ((out10 ++ ([v12] : List Int)), (borI .u16 done11 (shlI .u16 1 (IntKind.u64.wrap v12))))))
        (ck (ok64 (v12 + 1)) <|
        some (.inl (v12 + 1))))
      (some (.inr (out10, done11)))

def order_Least_L14 (N : Nat) (r3 : (Int × (List Int) × Int)) : ((List Int) × Int) → Option (((List Int) × Int) ⊕ (List Int))
  | (out10, done11) =>
    cond (decide (((out10).length : Int) < r3.1))
      (bd (α := ((List Int) × Int)) (iter (order_Least_L15 N r3 done11 out10) N 0) <| fun p => some (.inl p))
      (some (.inr out10))

def order_Least (N : Nat) (r1 : Rel) : Option ((List Int) × Int) :=
  bd (order_acyclic N r1) fun (r3 : (Int × (List Int) × Int)) =>
  cond (!(decide (r3.2.2 = 0)))
    (some ([], r3.2.2))
    (bd (α := (List Int)) (iter (order_Least_L14 N r3) N ([], 0)) <|
    fun (out7 : (List Int)) => 
      some (out7, 0))

theorem order_Least_ok {N : Nat} {r1 : Rel} {res : ((List Int) × Int)} (hF : order_Least N r1 = some res) (w : World) :
    Made Try.prog 35 [.agg (encRel r1).toArray] w (fun g : (Option Addr × Nat) => .tuple #[.slice g.1 (res.1).length g.2, .int .i64 res.2]) (fun g => [cR (eI .i64) 1 g.1 g.2 3 res.1]) (fun g => True) := by
  refine W.enter (n := 52) Try.func35 rfl rfl Sub.refl (by simp) (St.start w) fun R hR => ?_
  unfold order_Least at hF
  -- region 0: order.go:76
  refine W.seqR fun Q1 hQ1 => ?_
  refine WL.step (WO.boxA (.pl rfl) rfl fun b2 => ?_)
  refine WL.q (Y.assign (.pl rfl)) rfl ?_
  refine WL.q (Y.assign (.pl rfl)) rfl ?_
  refine WL.next hQ1 (.cons (i := 1) rfl (.nil)) ?_
  -- region 1: order.go:77
  refine W.seqR fun Q2 hQ2 => ?_
  refine WL.q (Y.loadBA (ds := (encRel r1)) Try.underlying50 rfl cells50 (.pl rfl) (i := 0) rfl rfl subW) rfl ?_
  obtain ⟨r3, hr3, hF⟩ := bnd hF
  refine WL.step (WO.callP isGo63 (.cons (.pl rfl) (.nil)) rfl (fun wz hw => order_acyclic_ok (hr3) wz ) ?_)
  refine WL.q (Y.move (.pl rfl)) rfl ?_
  refine WL.q (Y.extract (.pl rfl) rfl) rfl ?_
  refine WL.q (Y.extract (.pl rfl) rfl) rfl ?_
  refine WL.step (WO.alloc (cs := (encRel (Rel.mk 0 [])).toArray) zero50 rfl rfl fun b4 => ?_)
  refine WL.step (WO.storeBA (ds := (encRel (Rel.mk r3.1 r3.2.1))) (cs' := (encRel (Rel.mk r3.1 r3.2.1))) cells50 (.pl rfl) (.pl rfl) rfl (oneRel _) (i := 0) rfl (lel (o := 0) (l := 13) (m := 13) (by decide) rfl rfl) (putW rfl) ?_)
  refine WL.q (Y.assign (.pl rfl)) rfl ?_
  refine WL.next hQ2 (.cons (i := 4) rfl (.cons (i := 5) rfl (.nil))) ?_
  refine W.seq fun K3 hK3 => ?_
  -- region 2: order.go:78
  refine W.seqR fun Q4 hQ4 => ?_
  refine WL.q (Y.move (.pl rfl)) rfl ?_
  refine WL.q (Y.neq (.pl rfl) (.pl rfl)) rfl ?_
  refine WL.next hQ4 (.cons (i := 4) rfl (.cons (i := 5) rfl (.cons (i := 15) rfl (.nil)))) ?_
  refine W.cond (.pl rfl) (fun hC5 => ?_) (fun hC5 => ?_)
  · replace hF := cpos hC5 hF
    -- region 3: order.go:79
    refine W.seqR fun Q6 hQ6 => ?_
    refine WL.q (Y.move (.pl rfl)) rfl ?_
    refine WL.q (Y.assign (.pl rfl)) rfl ?_
    refine WL.q (Y.assign (.pl rfl)) rfl ?_
    refine WL.next hQ6 (.cons (i := 2) rfl (.cons (i := 3) rfl (.nil))) ?_
    obtain rfl := Option.some.inj hF
    refine W.retV (fn := Try.f35) (vs := [.slice none 0 0, .int .i64 r3.2.2]) Try.results35 ⟨.tmp rfl, ⟨.tmp rfl, trivial⟩⟩ (fun _ _ h => h) (fun wz hw => ?_)
    exact hR _ _ ⟨(none, 0), trivial, rfl, ((St.nilR (hw.pick [] rfl) (eI .i64) 1 3).pick [0] rfl)⟩
  · replace hF := cneg hC5 hF
    refine W.skip ?_
    refine W.go hK3 (.cons (i := 4) rfl (.nil)) ?_
    -- region 4: order.go:81
    refine W.seqR fun Q7 hQ7 => ?_
    refine WL.q (Y.assign (.pl rfl)) rfl ?_
    refine WL.next hQ7 (.cons (i := 4) rfl (.cons (i := 6) rfl (.nil))) ?_
    -- region 5: order.go:82
    refine W.seqR fun Q8 hQ8 => ?_
    refine WL.q (Y.assign (.pl rfl)) rfl ?_
    refine WL.next hQ8 (.cons (i := 4) rfl (.cons (i := 6) rfl (.cons (i := 7) rfl (.nil)))) ?_
    obtain ⟨o9, hF9, hF⟩ := bnd hF
    refine W.join3 (Em := fun (out7 : (List Int)) (A5 : Option Addr) (c6 : Nat) => [(6, .slice A5 (out7).length c6)]) (M := fun out7 A5 c6 => [cR (eI .i64) 1 A5 c6 3 out7]) (I := fun out7 A5 c6 => out7 = o9) (.nil) (fun K10 hK10 => ?_) ?_
    · -- up to
      refine W.block ?_
      refine W.loop4 (Em := fun (out10 : (List Int)) (done11 : Int) (A8 : Option Addr) (c9 : Nat) => [(6, .slice A8 (out10).length c9), (7, .int .u16 done11)]) (M := fun out10 done11 A8 c9 => [cBx b4 50 (encRel (Rel.mk r3.1 r3.2.1)), cR (eI .i64) 1 A8 c9 3 out10]) (I := fun out10 done11 A8 c9 k11 => iter (order_Least_L14 N r3) k11 (out10, done11) = some o9) [] 0 none 0 N (hF9) (.cons rfl (.cons rfl (.nil))) (.cons (i := 4) rfl (.nil)) (fun wz hw => (St.nilR (hw.pick [0] rfl) (eI .i64) 1 3).pick [1, 0] rfl) (fun out10 done11 A8 c9 k11 hI K12 hK12 => ?_)
      obtain ⟨k11, t11, rfl, hF11, hN11⟩ := iter_step hI
      refine W.seq fun K13 hK13 => ?_
      -- region 6: order.go:83
      refine W.seqR fun Q14 hQ14 => ?_
      refine WL.q (Y.move (.pl rfl)) rfl ?_
      refine WL.q (Y.len Try.underlying23 (.pl rfl)) rfl ?_
      refine WL.q (Y.fieldAddr0 (off := 0) (ft := 3) Try.underlying50 rfl cells3 (.pl rfl)) rfl ?_
      refine WL.q (Y.loadB (v := .int .i64 r3.1) Try.underlying3 rfl (.pl rfl) (i := 0) rfl (rfl)) rfl ?_
      refine WL.q (Y.lss (.pl rfl) (.pl rfl)) rfl ?_
      refine WL.next hQ14 (.cons (i := 4) rfl (.cons (i := 6) rfl (.cons (i := 7) rfl (.cons (i := 21) rfl (.nil))))) ?_
      refine W.cond (.pl rfl) (fun hC15 => ?_) (fun hC15 => ?_)
      · replace hF11 := cpos hC15 hF11
        refine W.skip ?_
        refine W.go hK13 (.cons (i := 4) rfl (.cons (i := 6) rfl (.cons (i := 7) rfl (.nil)))) ?_
        refine W.block ?_
        -- region 7: order.go:84
        refine W.seqR fun Q16 hQ16 => ?_
        refine WL.q (Y.fieldAddr0 (off := 0) (ft := 3) Try.underlying50 rfl cells3 (.pl rfl)) rfl ?_
        refine WL.q (Y.loadB (v := .int .i64 r3.1) Try.underlying3 rfl (.pl rfl) (i := 0) rfl (rfl)) rfl ?_
        refine WL.q (Y.move (.pl rfl)) rfl ?_
        refine WL.next hQ16 (.cons (i := 4) rfl (.cons (i := 6) rfl (.cons (i := 7) rfl (.cons (i := 23) rfl (.cons (i := 24) rfl (.nil)))))) ?_
        refine W.block ?_
        obtain ⟨o17, hL17, hF11⟩ := bnd hF11
        refine W.loop1 (Em := fun (v12 : Int) => [(24, .int .i64 v12)]) (M := fun v12 => [cBx b4 50 (encRel (Rel.mk r3.1 r3.2.1)), cR (eI .i64) 1 A8 c9 3 out10]) (I := fun v12 k17 => iter (order_Least_L15 N r3 done11 out10) k17 v12 = some o17) 0 N (hL17) (.cons rfl (.nil)) (.cons (i := 4) rfl (.cons (i := 6) rfl (.cons (i := 7) rfl (.cons (i := 23) rfl (.nil))))) (fun wz hw => hw.pick [0, 1] rfl) (fun v12 k17 hI K18 hK18 => ?_)
        obtain ⟨k17, t17, rfl, hF17, hN17⟩ := iter_step hI
        -- region 8: order.go:84
        refine W.seqR fun Q19 hQ19 => ?_
        refine WL.q (Y.lss (.pl rfl) (.pl rfl)) rfl ?_
        refine WL.next hQ19 (.cons (i := 4) rfl (.cons (i := 6) rfl (.cons (i := 7) rfl (.cons (i := 23) rfl (.cons (i := 24) rfl (.cons (i := 25) rfl (.nil))))))) ?_
        refine W.seq fun K20 hK20 => ?_
        refine W.cond (.pl rfl) (fun hC21 => ?_) (fun hC21 => ?_)
        · replace hF17 := cpos hC21 hF17
          refine W.skip ?_
          refine W.go hK20 (.cons (i := 4) rfl (.cons (i := 6) rfl (.cons (i := 7) rfl (.cons (i := 23) rfl (.cons (i := 24) rfl (.nil)))))) ?_
          refine W.seq fun K22 hK22 => ?_
          refine W.block ?_
          -- region 9: order.go:84
          refine W.seqR fun Q23 hQ23 => ?_
          refine WL.q (Y.move (.pl rfl)) rfl ?_
          refine WL.q (Y.assign (.pl rfl)) rfl ?_
          refine WL.next hQ23 (.cons (i := 4) rfl (.cons (i := 6) rfl (.cons (i := 7) rfl (.cons (i := 8) rfl (.cons (i := 23) rfl (.cons (i := 24) rfl (.nil))))))) ?_
          -- region 10: order.go:85
          refine W.seqR fun Q24 hQ24 => ?_
          refine WL.q (Y.move (.pl rfl)) rfl ?_
          refine WL.q (Y.move (.pl rfl)) rfl ?_
          refine WL.q (Y.conv Try.underlying3 Try.underlying98 (.pl rfl)) rfl ?_
          refine WL.q (Y.shr (.pl rfl) (.pl rfl) (wrapU_nn rfl _)) rfl ?_
          refine WL.q (Y.band (.pl rfl) (.pl rfl)) rfl ?_
          refine WL.q (Y.eql (.pl rfl) (.pl rfl)) rfl ?_
          refine WL.q (Y.move (.pl rfl)) rfl ?_
          refine WL.g (.pl rfl rfl rfl) (fun hg => Y.loadBA (ds := (encRel (Rel.mk r3.1 r3.2.1))) Try.underlying50 rfl cells50 (.pl rfl) (i := 0) rfl rfl subW) rfl ?_
          refine WL.g (.pl rfl rfl rfl) (fun hg => Y.move (.pl rfl)) rfl ?_
          obtain ⟨r13, hr13, hF17⟩ := bnd hF17
          refine WL.gP (.pl rfl rfl rfl) isGo64 (fun hg => (.cons (.gd (hg) rfl) (.cons (.gd (hg) rfl) (.nil)))) rfl (fun hg wz hw => order_before_ok (gpos hg hr13) wz ) ?_
          refine WL.g (.pl rfl rfl rfl) (fun hg => Y.move (.pl rfl)) rfl ?_
          refine WL.g (.pl rfl rfl rfl) (fun hg => Y.bclr (.gd (hg) rfl) (.gd (hg) rfl)) rfl ?_
          refine WL.g (.pl rfl rfl rfl) (fun hg => Y.eql (.gd (hg) rfl) (.pl rfl)) rfl ?_
          refine WL.q (Y.and (.pl rfl) (fun h2 => .gd (eqt h2) rfl)) rfl ?_
          refine WL.next hQ24 (.cons (i := 4) rfl (.cons (i := 6) rfl (.cons (i := 7) rfl (.cons (i := 8) rfl (.cons (i := 23) rfl (.cons (i := 24) rfl (.cons (i := 40) rfl (.nil)))))))) ?_
          refine W.cond (.pl rfl) (fun hC25 => ?_) (fun hC25 => ?_)
          · replace hF17 := cpos hC25 hF17
            -- region 11: order.go:86
            refine W.seqR fun Q26 hQ26 => ?_
            refine WL.q (Y.move (.pl rfl)) rfl ?_
            refine WL.q (Y.move (.pl rfl)) rfl ?_
            refine WL.step (WO.bsliceC (enc := (eI .i64)) (ys := ([v12] : List Int)) Try.underlying23 bz3 (.cons (.pl rfl) (.nil)) rfl (fun _ => rfl) rfl rfl (by decide) (by decide) rfl fun b14 => ?_)
            obtain ⟨hk17, hF17⟩ := ckh hF17
            refine WL.step (WO.appendC (enc := (eI .i64)) Try.underlying23 ap3 (fun _ => rfl) oneI (.pl rfl) rfl (.pl rfl) (i := 2) rfl (m2 := 0) rfl (hk17) rfl fun A15 c16 => ?_)
            refine WL.q (Y.assign (.pl rfl)) rfl ?_
            refine WL.next hQ26 (.cons (i := 4) rfl (.cons (i := 6) rfl (.cons (i := 7) rfl (.cons (i := 8) rfl (.nil))))) ?_
            -- region 12: order.go:87
            refine W.seqR fun Q27 hQ27 => ?_
            refine WL.q (Y.move (.pl rfl)) rfl ?_
            refine WL.q (Y.move (.pl rfl)) rfl ?_
            refine WL.q (Y.conv Try.underlying3 Try.underlying98 (.pl rfl)) rfl ?_
            refine WL.q (Y.shl (.pl rfl) (.pl rfl) (wrapU_nn rfl _)) rfl ?_
            refine WL.q (Y.bor (.pl rfl) (.pl rfl)) rfl ?_
            refine WL.q (Y.assign (.pl rfl)) rfl ?_
            refine WL.next hQ27 (.cons (i := 4) rfl (.cons (i := 6) rfl (.cons (i := 7) rfl (.nil)))) ?_
            refine W.exit ?_
            obtain rfl := Option.some.inj hF17
            obtain rfl := einr hN17
            obtain rfl := Option.some.inj hF11
            exact W.again4 hK12 (out10 ++ ([v12] : List Int)) (borI .u16 done11 (shlI .u16 1 (IntKind.u64.wrap v12))) A15 c16 k11 hN11 (Nat.lt_succ_self _) (.cons rfl (.cons rfl (.nil))) (.cons (i := 4) rfl (.nil)) (fun wz hw => hw.pick [1, 2] rfl)
          · replace hF17 := cneg hC25 hF17
            refine W.skip ?_
            refine W.go hK22 (.cons (i := 4) rfl (.cons (i := 6) rfl (.cons (i := 7) rfl (.cons (i := 23) rfl (.cons (i := 24) rfl (.nil)))))) ?_
            -- region 13: order.go:84
            refine W.reg ?_
            obtain ⟨hk18, hF17⟩ := ckh hF17
            refine WL.q (Y.add (.pl rfl) (.pl rfl) (ok64_lt (hk18))) rfl ?_
            refine WL.q (Y.move (.pl rfl)) rfl ?_
            refine WL.nil ?_
            obtain rfl := Option.some.inj hF17
            exact W.again1 hK18 (v12 + 1) k17 hN17 (Nat.lt_succ_self _) (.cons rfl (.nil)) (.cons (i := 4) rfl (.cons (i := 6) rfl (.cons (i := 7) rfl (.cons (i := 23) rfl (.nil))))) (fun wz hw => hw.pick [0, 1] rfl)
        · replace hF17 := cneg hC21 hF17
          refine W.exit ?_
          obtain rfl := Option.some.inj hF17
          obtain rfl := einr hN17
          obtain rfl := Option.some.inj hF11
          exact W.again4 hK12 out10 done11 A8 c9 k11 hN11 (Nat.lt_succ_self _) (.cons rfl (.cons rfl (.nil))) (.cons (i := 4) rfl (.nil)) (fun wz hw => hw.pick [0, 1] rfl)
      · replace hF11 := cneg hC15 hF11
        refine W.exit ?_
        obtain rfl := Option.some.inj hF11
        exact W.joinAt3 hK10 out10 A8 c9 (einr hN11) (.cons rfl (.nil)) (.nil) (fun wz hw => hw.pick [1] rfl)
    · -- behind
      rintro out7 A5 c6 rfl
      -- region 14: order.go:92
      refine W.seqR fun Q29 hQ29 => ?_
      refine WL.q (Y.move (.pl rfl)) rfl ?_
      refine WL.q (Y.assign (.pl rfl)) rfl ?_
      refine WL.q (Y.assign (.pl rfl)) rfl ?_
      refine WL.next hQ29 (.cons (i := 2) rfl (.cons (i := 3) rfl (.nil))) ?_
      obtain rfl := Option.some.inj hF
      refine W.retV (fn := Try.f35) (vs := [.slice A5 (out7).length c6, .int .i64 0]) Try.results35 ⟨.tmp rfl, ⟨.tmp rfl, trivial⟩⟩ (fun _ _ h => h) (fun wz hw => ?_)
      exact hR _ _ ⟨(A5, c6), trivial, rfl, (hw.pick [0] rfl)⟩

def serial_Order (N : Nat) (l1 : (List Deed)) : Option ((List Int) × Int) :=
  bd (serial_Graph N l1) fun (r6 : (Int × (List Int) × Int)) =>
  cond (!(decide (r6.2.2 = 0)))
    (some ([], r6.2.2))
    (bd (order_Least N (Rel.mk r6.1 r6.2.1)) fun (r8 : ((List Int) × Int)) =>
    some (r8.1, r8.2))

theorem serial_Order_ok {N : Nat} {l1 : (List Deed)} {res : ((List Int) × Int)} (hF : serial_Order N l1 = some res) (w : World) {v5 : Value} (hs4 : SlIn encDeed 3 w v5 l1) :
    Made Try.prog 16 [v5] w (fun g : (Option Addr × Nat) => .tuple #[.slice g.1 (res.1).length g.2, .int .i64 res.2]) (fun g => [cR (eI .i64) 1 g.1 g.2 3 res.1]) (fun g => True) := by
  obtain ⟨A2, c3, rfl, hcc3, hs4⟩ := hs4.form
  refine W.enter (n := 18) Try.func16 rfl rfl Sub.refl (by simp) (St.start w) fun R hR => ?_
  unfold serial_Order at hF
  -- region 0: serial.go:50
  refine W.seqR fun Q1 hQ1 => ?_
  refine WL.q (Y.assign (.pl rfl)) rfl ?_
  refine WL.q (Y.assign (.pl rfl)) rfl ?_
  refine WL.next hQ1 (.cons (i := 0) rfl (.nil)) ?_
  -- region 1: serial.go:51
  refine W.seqR fun Q2 hQ2 => ?_
  refine WL.q (Y.move (.pl rfl)) rfl ?_
  obtain ⟨r6, hr6, hF⟩ := bnd hF
  refine WL.step (WO.callP isGo19 (.cons (.pl rfl) (.nil)) rfl (fun wz hw => serial_Graph_ok (hr6) wz (hs4.mono hw)) ?_)
  refine WL.q (Y.move (.pl rfl)) rfl ?_
  refine WL.q (Y.extract (.pl rfl) rfl) rfl ?_
  refine WL.q (Y.extract (.pl rfl) rfl) rfl ?_
  refine WL.step (WO.alloc (cs := (encRel (Rel.mk 0 [])).toArray) zero50 rfl rfl fun b7 => ?_)
  refine WL.step (WO.storeBA (ds := (encRel (Rel.mk r6.1 r6.2.1))) (cs' := (encRel (Rel.mk r6.1 r6.2.1))) cells50 (.pl rfl) (.pl rfl) rfl (oneRel _) (i := 0) rfl (lel (o := 0) (l := 13) (m := 13) (by decide) rfl rfl) (putW rfl) ?_)
  refine WL.q (Y.assign (.pl rfl)) rfl ?_
  refine WL.next hQ2 (.cons (i := 4) rfl (.cons (i := 5) rfl (.nil))) ?_
  refine W.seq fun K3 hK3 => ?_
  -- region 2: serial.go:52
  refine W.seqR fun Q4 hQ4 => ?_
  refine WL.q (Y.move (.pl rfl)) rfl ?_
  refine WL.q (Y.neq (.pl rfl) (.pl rfl)) rfl ?_
  refine WL.next hQ4 (.cons (i := 4) rfl (.cons (i := 5) rfl (.cons (i := 12) rfl (.nil)))) ?_
  refine W.cond (.pl rfl) (fun hC5 => ?_) (fun hC5 => ?_)
  · replace hF := cpos hC5 hF
    -- region 3: serial.go:53
    refine W.seqR fun Q6 hQ6 => ?_
    refine WL.q (Y.move (.pl rfl)) rfl ?_
    refine WL.q (Y.assign (.pl rfl)) rfl ?_
    refine WL.q (Y.assign (.pl rfl)) rfl ?_
    refine WL.next hQ6 (.cons (i := 2) rfl (.cons (i := 3) rfl (.nil))) ?_
    obtain rfl := Option.some.inj hF
    refine W.retV (fn := Try.f16) (vs := [.slice none 0 0, .int .i64 r6.2.2]) Try.results16 ⟨.tmp rfl, ⟨.tmp rfl, trivial⟩⟩ (fun _ _ h => h) (fun wz hw => ?_)
    exact hR _ _ ⟨(none, 0), trivial, rfl, ((St.nilR (hw.pick [] rfl) (eI .i64) 1 3).pick [0] rfl)⟩
  · replace hF := cneg hC5 hF
    refine W.skip ?_
    refine W.go hK3 (.cons (i := 4) rfl (.nil)) ?_
    -- region 4: serial.go:55
    refine W.seqR fun Q7 hQ7 => ?_
    refine WL.q (Y.loadBA (ds := (encRel (Rel.mk r6.1 r6.2.1))) Try.underlying50 rfl cells50 (.pl rfl) (i := 0) rfl rfl subW) rfl ?_
    obtain ⟨r8, hr8, hF⟩ := bnd hF
    refine WL.step (WO.callM isGo35 (.cons (.pl rfl) (.nil)) rfl (fun wz hw => order_Least_ok (hr8) wz ) ?_)
    rintro ⟨A9, c10⟩ -
    refine WL.q (Y.extract (.pl rfl) rfl) rfl ?_
    refine WL.q (Y.extract (.pl rfl) rfl) rfl ?_
    refine WL.q (Y.assign (.pl rfl)) rfl ?_
    refine WL.q (Y.assign (.pl rfl)) rfl ?_
    refine WL.next hQ7 (.cons (i := 2) rfl (.cons (i := 3) rfl (.nil))) ?_
    obtain rfl := Option.some.inj hF
    refine W.retV (fn := Try.f16) (vs := [.slice A9 (r8.1).length c10, .int .i64 r8.2]) Try.results16 ⟨.tmp rfl, ⟨.tmp rfl, trivial⟩⟩ (fun _ _ h => h) (fun wz hw => ?_)
    exact hR _ _ ⟨(A9, c10), trivial, rfl, (hw.pick [0] rfl)⟩

def serial_sequence_L27 (N : Nat) (l1 : (List Deed)) (x21 : Int) : ((List Int) × Int) → Option (((List Int) × Int) ⊕ (List Int))
  | (out24, v25) =>
    cond (decide (v25 < ((l1).length : Int)))
      (bd (ix l1 v25) fun (x26 : Deed) =>
      cond (decide (x26.who = x21))
        (ck (limB 8 ((out24).length + (([v25] : List Int)).length)) <|
        ck (ok64 (v25 + 1)) <|
        some (.inl ((out24 ++ ([v25] : List Int)), (v25 + 1))))
        (ck (ok64 (v25 + 1)) <|
        some (.inl (out24, (v25 + 1)))))
      (some (.inr out24))

def serial_sequence_L25 (N : Nat) (who6 : (List Int)) (l1 : (List Deed)) : ((List Int) × Int) → Option (((List Int) × Int) ⊕ (List Int))
  | (out16, v17) =>
    cond (decide (v17 < ((who6).length : Int)))
      (bd (α := (List Int)) (bd (ix who6 v17) fun (x21 : Int) =>
        iter (serial_sequence_L27 N l1 x21) N (out16, 0)) <|
      fun (out20 : (List Int)) => 
        ck (ok64 (v17 + 1)) <|
        some (.inl (out20, (v17 + 1))))
      (some (.inr out16))

def serial_sequence (N : Nat) (l1 : (List Deed)) (who6 : (List Int)) : Option (List Int) :=
  bd (α := (List Int)) (iter (serial_sequence_L25 N who6 l1) N ([], 0)) <|
  fun (out13 : (List Int)) => 
    some out13

theorem serial_sequence_ok {N : Nat} {l1 : (List Deed)} {who6 : (List Int)} {res : (List Int)} (hF : serial_sequence N l1 who6 = some res) (w : World) {v5 : Value} (hs4 : SlIn encDeed 3 w v5 l1) {v10 : Value} (hs9 : SlIn (eI .i64) 1 w v10 who6) :
    Made Try.prog 39 [v5, v10] w (fun g : (Option Addr × Nat) => .slice g.1 (res).length g.2) (fun g => [cR (eI .i64) 1 g.1 g.2 3 res]) (fun g => True) := by
  obtain ⟨A2, c3, rfl, hcc3, hs4⟩ := hs4.form
  obtain ⟨A7, c8, rfl, hcc8, hs9⟩ := hs9.form
  refine W.enter (n := 34) Try.func39 rfl rfl Sub.refl (by simp) (St.start w) fun R hR => ?_
  unfold serial_sequence at hF
  -- region 0: serial.go:74
  refine W.seqR fun Q1 hQ1 => ?_
  refine WL.q (Y.assign (.pl rfl)) rfl ?_
  refine WL.next hQ1 (.cons (i := 0) rfl (.cons (i := 1) rfl (.nil))) ?_
  -- region 1: serial.go:75
  refine W.seqR fun Q2 hQ2 => ?_
  refine WL.q (Y.assign (.pl rfl)) rfl ?_
  refine WL.next hQ2 (.cons (i := 0) rfl (.cons (i := 1) rfl (.cons (i := 5) rfl (.nil)))) ?_
  obtain ⟨o3, hF3, hF⟩ := bnd hF
  refine W.join3 (Em := fun (out13 : (List Int)) (A11 : Option Addr) (c12 : Nat) => [(5, .slice A11 (out13).length c12)]) (M := fun out13 A11 c12 => [cR (eI .i64) 1 A11 c12 3 out13]) (I := fun out13 A11 c12 => out13 = o3) (.nil) (fun K4 hK4 => ?_) ?_
  · -- up to
    -- region 2: serial.go:76
    refine W.seqR fun Q5 hQ5 => ?_
    refine WL.q (Y.move (.pl rfl)) rfl ?_
    refine WL.q (Y.len Try.underlying23 (.pl rfl)) rfl ?_
    refine WL.q (Y.move (.pl rfl)) rfl ?_
    refine WL.next hQ5 (.cons (i := 0) rfl (.cons (i := 5) rfl (.cons (i := 10) rfl (.cons (i := 11) rfl (.cons (i := 12) rfl (.nil)))))) ?_
    refine W.block ?_
    refine W.loop4 (Em := fun (out16 : (List Int)) (v17 : Int) (A14 : Option Addr) (c15 : Nat) => [(5, .slice A14 (out16).length c15), (12, .int .i64 v17)]) (M := fun out16 v17 A14 c15 => [cR (eI .i64) 1 A14 c15 3 out16]) (I := fun out16 v17 A14 c15 k6 => iter (serial_sequence_L25 N who6 l1) k6 (out16, v17) = some o3) [] 0 none 0 N (hF3) (.cons rfl (.cons rfl (.nil))) (.cons (i := 0) rfl (.cons (i := 10) rfl (.cons (i := 11) rfl (.nil)))) (fun wz hw => (St.nilR (hw.pick [] rfl) (eI .i64) 1 3).pick [0] rfl) (fun out16 v17 A14 c15 k6 hI K7 hK7 => ?_)
    obtain ⟨k6, t6, rfl, hF6, hN6⟩ := iter_step hI
    -- region 3: serial.go:76
    refine W.seqR fun Q8 hQ8 => ?_
    refine WL.q (Y.lss (.pl rfl) (.pl rfl)) rfl ?_
    refine WL.next hQ8 (.cons (i := 0) rfl (.cons (i := 5) rfl (.cons (i := 10) rfl (.cons (i := 11) rfl (.cons (i := 12) rfl (.cons (i := 13) rfl (.nil))))))) ?_
    refine W.seq fun K9 hK9 => ?_
    refine W.cond (.pl rfl) (fun hC10 => ?_) (fun hC10 => ?_)
    · replace hF6 := cpos hC10 hF6
      refine W.skip ?_
      refine W.go hK9 (.cons (i := 0) rfl (.cons (i := 5) rfl (.cons (i := 10) rfl (.cons (i := 11) rfl (.cons (i := 12) rfl (.nil)))))) ?_
      obtain ⟨o11, hF11, hF6⟩ := bnd hF6
      refine W.join3 (Em := fun (out20 : (List Int)) (A18 : Option Addr) (c19 : Nat) => [(5, .slice A18 (out20).length c19)]) (M := fun out20 A18 c19 => [cR (eI .i64) 1 A18 c19 3 out20]) (I := fun out20 A18 c19 => out20 = o11) (.cons (i := 0) rfl (.cons (i := 10) rfl (.cons (i := 11) rfl (.cons (i := 12) rfl (.nil))))) (fun K12 hK12 => ?_) ?_
      · -- up to
        refine W.block ?_
        -- region 4: serial.go:76
        refine W.seqR fun Q13 hQ13 => ?_
        obtain ⟨x21, hx21, hF11⟩ := bnd hF11
        refine WL.q (Y.slEl Try.underlying23 cells3 hs9 (.pl rfl) (.pl rfl) (ix_lt (hx21))) rfl ?_
        refine WL.q (Y.loadS (enc := (eI .i64)) (v := .int .i64 x21) (j := 0) Try.underlying3 rfl hs9 (.pl rfl) (hx21) rfl rfl) rfl ?_
        refine WL.q (Y.assign (.pl rfl)) rfl ?_
        refine WL.next hQ13 (.cons (i := 0) rfl (.cons (i := 5) rfl (.cons (i := 7) rfl (.cons (i := 10) rfl (.cons (i := 11) rfl (.cons (i := 12) rfl (.nil))))))) ?_
        -- region 5: serial.go:77
        refine W.seqR fun Q14 hQ14 => ?_
        refine WL.q (Y.move (.pl rfl)) rfl ?_
        refine WL.q (Y.len Try.underlying40 (.pl rfl)) rfl ?_
        refine WL.q (Y.move (.pl rfl)) rfl ?_
        refine WL.next hQ14 (.cons (i := 0) rfl (.cons (i := 5) rfl (.cons (i := 7) rfl (.cons (i := 10) rfl (.cons (i := 11) rfl (.cons (i := 12) rfl (.cons (i := 16) rfl (.cons (i := 17) rfl (.cons (i := 18) rfl (.nil)))))))))) ?_
        refine W.block ?_
        refine W.loop4 (Em := fun (out24 : (List Int)) (v25 : Int) (A22 : Option Addr) (c23 : Nat) => [(5, .slice A22 (out24).length c23), (18, .int .i64 v25)]) (M := fun out24 v25 A22 c23 => [cR (eI .i64) 1 A22 c23 3 out24]) (I := fun out24 v25 A22 c23 k15 => iter (serial_sequence_L27 N l1 x21) k15 (out24, v25) = some o11) out16 0 A14 c15 N (hF11) (.cons rfl (.cons rfl (.nil))) (.cons (i := 0) rfl (.cons (i := 7) rfl (.cons (i := 10) rfl (.cons (i := 11) rfl (.cons (i := 12) rfl (.cons (i := 16) rfl (.cons (i := 17) rfl (.nil)))))))) (fun wz hw => hw.pick [0] rfl) (fun out24 v25 A22 c23 k15 hI K16 hK16 => ?_)
        obtain ⟨k15, t15, rfl, hF15, hN15⟩ := iter_step hI
        -- region 6: serial.go:77
        refine W.seqR fun Q17 hQ17 => ?_
        refine WL.q (Y.lss (.pl rfl) (.pl rfl)) rfl ?_
        refine WL.next hQ17 (.cons (i := 0) rfl (.cons (i := 5) rfl (.cons (i := 7) rfl (.cons (i := 10) rfl (.cons (i := 11) rfl (.cons (i := 12) rfl (.cons (i := 16) rfl (.cons (i := 17) rfl (.cons (i := 18) rfl (.cons (i := 19) rfl (.nil))))))))))) ?_
        refine W.seq fun K18 hK18 => ?_
        refine W.cond (.pl rfl) (fun hC19 => ?_) (fun hC19 => ?_)
        · replace hF15 := cpos hC19 hF15
          refine W.skip ?_
          refine W.go hK18 (.cons (i := 0) rfl (.cons (i := 5) rfl (.cons (i := 7) rfl (.cons (i := 10) rfl (.cons (i := 11) rfl (.cons (i := 12) rfl (.cons (i := 16) rfl (.cons (i := 17) rfl (.cons (i := 18) rfl (.nil)))))))))) ?_
          refine W.seq fun K20 hK20 => ?_
          refine W.block ?_
          -- region 7: serial.go:77
          refine W.seqR fun Q21 hQ21 => ?_
          refine WL.q (Y.move (.pl rfl)) rfl ?_
          obtain ⟨x26, hx26, hF15⟩ := bnd hF15
          refine WL.q (Y.slEl Try.underlying40 cells46 hs4 (.pl rfl) (.pl rfl) (ix_lt (hx26))) rfl ?_
          refine WL.q (Y.loadSA (enc := encDeed) (ds := (encDeed x26)) (j := 0) Try.underlying46 rfl cells46 hs4 (.pl rfl) (hx26) rfl rfl subW) rfl ?_
          refine WL.step (WO.alloc (cs := (encDeed (Deed.mk 0 0 0)).toArray) zero46 rfl rfl fun b27 => ?_)
          refine WL.q (Y.assign (.pl rfl)) rfl ?_
          refine WL.step (WO.storeBA (ds := (encDeed x26)) (cs' := (encDeed x26)) cells46 (.pl rfl) (.pl rfl) rfl (oneDeed _) (i := 0) rfl (lel (o := 0) (l := 3) (m := 3) (by decide) rfl rfl) (putW rfl) ?_)
          refine WL.next hQ21 (.cons (i := 0) rfl (.cons (i := 5) rfl (.cons (i := 7) rfl (.cons (i := 8) rfl (.cons (i := 9) rfl (.cons (i := 10) rfl (.cons (i := 11) rfl (.cons (i := 12) rfl (.cons (i := 16) rfl (.cons (i := 17) rfl (.cons (i := 18) rfl (.nil)))))))))))) ?_
          -- region 8: serial.go:78
          refine W.seqR fun Q22 hQ22 => ?_
          refine WL.q (Y.fieldAddr0 (off := 0) (ft := 3) Try.underlying46 rfl cells3 (.pl rfl)) rfl ?_
          refine WL.q (Y.loadB (v := .int .i64 x26.who) Try.underlying3 rfl (.pl rfl) (i := 0) rfl (rfl)) rfl ?_
          refine WL.q (Y.move (.pl rfl)) rfl ?_
          refine WL.q (Y.eql (.pl rfl) (.pl rfl)) rfl ?_
          refine WL.next hQ22 (.cons (i := 0) rfl (.cons (i := 5) rfl (.cons (i := 7) rfl (.cons (i := 8) rfl (.cons (i := 10) rfl (.cons (i := 11) rfl (.cons (i := 12) rfl (.cons (i := 16) rfl (.cons (i := 17) rfl (.cons (i := 18) rfl (.cons (i := 26) rfl (.nil)))))))))))) ?_
          refine W.cond (.pl rfl) (fun hC23 => ?_) (fun hC23 => ?_)
          · replace hF15 := cpos hC23 hF15
            -- region 9: serial.go:79
            refine W.reg ?_
            refine WL.q (Y.move (.pl rfl)) rfl ?_
            refine WL.q (Y.move (.pl rfl)) rfl ?_
            refine WL.step (WO.bsliceC (enc := (eI .i64)) (ys := ([v25] : List Int)) Try.underlying23 bz3 (.cons (.pl rfl) (.nil)) rfl (fun _ => rfl) rfl rfl (by decide) (by decide) rfl fun b28 => ?_)
            obtain ⟨hk31, hF15⟩ := ckh hF15
            refine WL.step (WO.appendC (enc := (eI .i64)) Try.underlying23 ap3 (fun _ => rfl) oneI (.pl rfl) rfl (.pl rfl) (i := 2) rfl (m2 := 0) rfl (hk31) rfl fun A29 c30 => ?_)
            refine WL.q (Y.assign (.pl rfl)) rfl ?_
            refine WL.nil ?_
            refine W.go hK20 (.cons (i := 0) rfl (.cons (i := 5) rfl (.cons (i := 7) rfl (.cons (i := 10) rfl (.cons (i := 11) rfl (.cons (i := 12) rfl (.cons (i := 16) rfl (.cons (i := 17) rfl (.cons (i := 18) rfl (.nil)))))))))) ?_
            -- region 10: serial.go:77
            refine W.reg ?_
            obtain ⟨hk32, hF15⟩ := ckh hF15
            refine WL.q (Y.add (.pl rfl) (.pl rfl) (ok64_lt (hk32))) rfl ?_
            refine WL.q (Y.move (.pl rfl)) rfl ?_
            refine WL.nil ?_
            obtain rfl := Option.some.inj hF15
            exact W.again4 hK16 (out24 ++ ([v25] : List Int)) (v25 + 1) A29 c30 k15 hN15 (Nat.lt_succ_self _) (.cons rfl (.cons rfl (.nil))) (.cons (i := 0) rfl (.cons (i := 7) rfl (.cons (i := 10) rfl (.cons (i := 11) rfl (.cons (i := 12) rfl (.cons (i := 16) rfl (.cons (i := 17) rfl (.nil)))))))) (fun wz hw => hw.pick [2] rfl)
          · replace hF15 := cneg hC23 hF15
            refine W.skip ?_
            refine W.go hK20 (.cons (i := 0) rfl (.cons (i := 5) rfl (.cons (i := 7) rfl (.cons (i := 10) rfl (.cons (i := 11) rfl (.cons (i := 12) rfl (.cons (i := 16) rfl (.cons (i := 17) rfl (.cons (i := 18) rfl (.nil)))))))))) ?_
            -- region 10: serial.go:77
            refine W.reg ?_
            obtain ⟨hk33, hF15⟩ := ckh hF15
            refine WL.q (Y.add (.pl rfl) (.pl rfl) (ok64_lt (hk33))) rfl ?_
            refine WL.q (Y.move (.pl rfl)) rfl ?_
            refine WL.nil ?_
            obtain rfl := Option.some.inj hF15
            exact W.again4 hK16 out24 (v25 + 1) A22 c23 k15 hN15 (Nat.lt_succ_self _) (.cons rfl (.cons rfl (.nil))) (.cons (i := 0) rfl (.cons (i := 7) rfl (.cons (i := 10) rfl (.cons (i := 11) rfl (.cons (i := 12) rfl (.cons (i := 16) rfl (.cons (i := 17) rfl (.nil)))))))) (fun wz hw => hw.pick [1] rfl)
        · replace hF15 := cneg hC19 hF15
          refine W.exit ?_
          obtain rfl := Option.some.inj hF15
          exact W.joinAt3 hK12 out24 A22 c23 (einr hN15) (.cons rfl (.nil)) (.cons (i := 0) rfl (.cons (i := 10) rfl (.cons (i := 11) rfl (.cons (i := 12) rfl (.nil))))) (fun wz hw => hw.pick [0] rfl)
      · -- behind
        rintro out20 A18 c19 rfl
        -- region 11: serial.go:76
        refine W.reg ?_
        obtain ⟨hk34, hF6⟩ := ckh hF6
        refine WL.q (Y.add (.pl rfl) (.pl rfl) (ok64_lt (hk34))) rfl ?_
        refine WL.q (Y.move (.pl rfl)) rfl ?_
        refine WL.nil ?_
        obtain rfl := Option.some.inj hF6
        exact W.again4 hK7 out20 (v17 + 1) A18 c19 k6 hN6 (Nat.lt_succ_self _) (.cons rfl (.cons rfl (.nil))) (.cons (i := 0) rfl (.cons (i := 10) rfl (.cons (i := 11) rfl (.nil)))) (fun wz hw => hw.pick [0] rfl)
    · replace hF6 := cneg hC10 hF6
      refine W.exit ?_
      obtain rfl := Option.some.inj hF6
      exact W.joinAt3 hK4 out16 A14 c15 (einr hN6) (.cons rfl (.nil)) (.nil) (fun wz hw => hw.pick [0] rfl)
  · -- behind
    rintro out13 A11 c12 rfl
    -- region 12: serial.go:83
    refine W.seqR fun Q28 hQ28 => ?_
    refine WL.q (Y.move (.pl rfl)) rfl ?_
    refine WL.q (Y.assign (.pl rfl)) rfl ?_
    refine WL.next hQ28 (.cons (i := 4) rfl (.nil)) ?_
    obtain rfl := Option.some.inj hF
    refine W.retV (fn := Try.f39) (vs := [.slice A11 (out13).length c12]) Try.results39 ⟨.tmp rfl, trivial⟩ (fun _ _ h => h) (fun wz hw => ?_)
    exact hR _ _ ⟨(A11, c12), trivial, rfl, (hw.pick [0] rfl)⟩

def slices_Equal_int_int_L3 (N : Nat) (s11 : (List Int)) (s26 : (List Int)) : Int → Option (Int ⊕ (Unit ⊕ Bool))
  | v11 =>
    cond (decide (v11 < ((s11).length : Int)))
      (bd (ix s11 v11) fun (x12 : Int) =>
      bd (ix s26 v11) fun (x13 : Int) =>
      cond (!(decide (x12 = x13)))
        (some (.inr (.inr false)))
        (ck (ok64 (v11 + 1)) <|
        some (.inl (v11 + 1))))
      (some (.inr (.inl ())))

def slices_Equal_int_int (N : Nat) (s11 : (List Int)) (s26 : (List Int)) : Option Bool :=
  cond (!(decide (((s11).length : Int) = ((s26).length : Int))))
    (some false)
    (bd (α := (Unit ⊕ Bool)) (iter (slices_Equal_int_int_L3 N s11 s26) N 0) <|
    Sum.elim (fun _ => 
      some true) (fun p => some p))

theorem slices_Equal_int_int_ok {N : Nat} {s11 : (List Int)} {s26 : (List Int)} {res : Bool} (hF : slices_Equal_int_int N s11 s26 = some res) (w : World) {v5 : Value} (hs4 : SlIn (eI .i64) 1 w v5 s11) {v10 : Value} (hs9 : SlIn (eI .i64) 1 w v10 s26) :
    Pure Try.prog 24 [v5, v10] w (.bool res) := by
  obtain ⟨A2, c3, rfl, hcc3, hs4⟩ := hs4.form
  obtain ⟨A7, c8, rfl, hcc8, hs9⟩ := hs9.form
  refine W.enter (n := 26) Try.func24 rfl rfl Sub.refl (by simp) (St.start w) fun R hR => ?_
  unfold slices_Equal_int_int at hF
  -- region 0: slices.go:20
  refine W.seqR fun Q1 hQ1 => ?_
  refine WL.q (Y.assign (.pl rfl)) rfl ?_
  refine WL.next hQ1 (.cons (i := 0) rfl (.cons (i := 1) rfl (.nil))) ?_
  refine W.seq fun K2 hK2 => ?_
  -- region 1: slices.go:21
  refine W.seqR fun Q3 hQ3 => ?_
  refine WL.q (Y.move (.pl rfl)) rfl ?_
  refine WL.q (Y.len Try.underlying23 (.pl rfl)) rfl ?_
  refine WL.q (Y.move (.pl rfl)) rfl ?_
  refine WL.q (Y.len Try.underlying23 (.pl rfl)) rfl ?_
  refine WL.q (Y.neq (.pl rfl) (.pl rfl)) rfl ?_
  refine WL.next hQ3 (.cons (i := 0) rfl (.cons (i := 1) rfl (.cons (i := 10) rfl (.nil)))) ?_
  refine W.cond (.pl rfl) (fun hC4 => ?_) (fun hC4 => ?_)
  · replace hF := cpos hC4 hF
    -- region 2: slices.go:22
    refine W.seqR fun Q5 hQ5 => ?_
    refine WL.q (Y.assign (.pl rfl)) rfl ?_
    refine WL.next hQ5 (.cons (i := 4) rfl (.nil)) ?_
    obtain rfl := Option.some.inj hF
    refine W.retV (fn := Try.f24) (vs := [.bool false]) Try.results24 ⟨.tmp rfl, trivial⟩ (fun _ _ h => h) (fun wz hw => ?_)
    exact hR _ _ ⟨rfl, (hw.pick [] rfl)⟩
  · replace hF := cneg hC4 hF
    refine W.skip ?_
    refine W.go hK2 (.cons (i := 0) rfl (.cons (i := 1) rfl (.nil))) ?_
    obtain ⟨o6, hF6, hF⟩ := bnd hF
    refine W.join0 (Em := []) (M := []) (I := (.inl ()) = o6) (.nil) (fun K7 hK7 => ?_) ?_
    · -- up to
      -- region 3: slices.go:24
      refine W.seqR fun Q8 hQ8 => ?_
      refine WL.q (Y.move (.pl rfl)) rfl ?_
      refine WL.q (Y.len Try.underlying23 (.pl rfl)) rfl ?_
      refine WL.q (Y.move (.pl rfl)) rfl ?_
      refine WL.next hQ8 (.cons (i := 0) rfl (.cons (i := 1) rfl (.cons (i := 12) rfl (.cons (i := 13) rfl (.nil))))) ?_
      refine W.block ?_
      refine W.loop1 (Em := fun (v11 : Int) => [(13, .int .i64 v11)]) (M := fun v11 => []) (I := fun v11 k9 => iter (slices_Equal_int_int_L3 N s11 s26) k9 v11 = some o6) 0 N (hF6) (.cons rfl (.nil)) (.cons (i := 0) rfl (.cons (i := 1) rfl (.cons (i := 12) rfl (.nil)))) (fun wz hw => hw.pick [] rfl) (fun v11 k9 hI K10 hK10 => ?_)
      obtain ⟨k9, t9, rfl, hF9, hN9⟩ := iter_step hI
      -- region 4: slices.go:24
      refine W.seqR fun Q11 hQ11 => ?_
      refine WL.q (Y.lss (.pl rfl) (.pl rfl)) rfl ?_
      refine WL.next hQ11 (.cons (i := 0) rfl (.cons (i := 1) rfl (.cons (i := 12) rfl (.cons (i := 13) rfl (.cons (i := 14) rfl (.nil)))))) ?_
      refine W.seq fun K12 hK12 => ?_
      refine W.cond (.pl rfl) (fun hC13 => ?_) (fun hC13 => ?_)
      · replace hF9 := cpos hC13 hF9
        refine W.skip ?_
        refine W.go hK12 (.cons (i := 0) rfl (.cons (i := 1) rfl (.cons (i := 12) rfl (.cons (i := 13) rfl (.nil))))) ?_
        refine W.seq fun K14 hK14 => ?_
        refine W.block ?_
        -- region 5: slices.go:24
        refine W.seqR fun Q15 hQ15 => ?_
        refine WL.q (Y.move (.pl rfl)) rfl ?_
        refine WL.q (Y.assign (.pl rfl)) rfl ?_
        refine WL.next hQ15 (.cons (i := 0) rfl (.cons (i := 1) rfl (.cons (i := 5) rfl (.cons (i := 12) rfl (.cons (i := 13) rfl (.nil)))))) ?_
        -- region 6: slices.go:25
        refine W.seqD (by kernel_rfl) (by kernel_rfl) fun R16 hR16 => ?_
        refine WD.q (Y.move (.pl rfl)) rfl ?_
        refine WD.q (Y.move (.pl rfl)) rfl ?_
        obtain ⟨x12, hx12, hF9⟩ := bnd hF9
        refine WD.q (Y.slEl Try.underlying23 cells3 hs4 (.pl rfl) (.pl rfl) (ix_lt (hx12))) rfl ?_
        refine WD.q (Y.loadS (enc := (eI .i64)) (v := .int .i64 x12) (j := 0) Try.underlying3 rfl hs4 (.pl rfl) (hx12) rfl rfl) rfl ?_
        refine WD.q (Y.move (.pl rfl)) rfl ?_
        refine WD.q (Y.move (.pl rfl)) rfl ?_
        obtain ⟨x13, hx13, hF9⟩ := bnd hF9
        refine WD.q (Y.slEl Try.underlying23 cells3 hs9 (.pl rfl) (.pl rfl) (ix_lt (hx13))) rfl ?_
        refine WD.q (Y.loadS (enc := (eI .i64)) (v := .int .i64 x13) (j := 0) Try.underlying3 rfl hs9 (.pl rfl) (hx13) rfl rfl) rfl ?_
        refine WD.q (Y.neq (.pl rfl) (.pl rfl)) rfl ?_
        refine WD.next hR16 (.cons (i := 0) rfl (.cons (i := 1) rfl (.cons (i := 12) rfl (.cons (i := 13) rfl (.cons (i := 24) rfl (.nil)))))) ?_
        refine W.cond (.pl rfl) (fun hC17 => ?_) (fun hC17 => ?_)
        · replace hF9 := cpos hC17 hF9
          -- region 7: slices.go:26
          refine W.seqR fun Q18 hQ18 => ?_
          refine WL.q (Y.assign (.pl rfl)) rfl ?_
          refine WL.next hQ18 (.cons (i := 4) rfl (.nil)) ?_
          obtain rfl := Option.some.inj hF9
          obtain rfl := einr hN9
          obtain rfl := Option.some.inj hF
          refine W.retV (fn := Try.f24) (vs := [.bool false]) Try.results24 ⟨.tmp rfl, trivial⟩ (fun _ _ h => h) (fun wz hw => ?_)
          exact hR _ _ ⟨rfl, (hw.pick [] rfl)⟩
        · replace hF9 := cneg hC17 hF9
          refine W.skip ?_
          refine W.go hK14 (.cons (i := 0) rfl (.cons (i := 1) rfl (.cons (i := 12) rfl (.cons (i := 13) rfl (.nil))))) ?_
          -- region 8: slices.go:24
          refine W.reg ?_
          obtain ⟨hk14, hF9⟩ := ckh hF9
          refine WL.q (Y.add (.pl rfl) (.pl rfl) (ok64_lt (hk14))) rfl ?_
          refine WL.q (Y.move (.pl rfl)) rfl ?_
          refine WL.nil ?_
          obtain rfl := Option.some.inj hF9
          exact W.again1 hK10 (v11 + 1) k9 hN9 (Nat.lt_succ_self _) (.cons rfl (.nil)) (.cons (i := 0) rfl (.cons (i := 1) rfl (.cons (i := 12) rfl (.nil)))) (fun wz hw => hw.pick [] rfl)
      · replace hF9 := cneg hC13 hF9
        refine W.exit ?_
        obtain rfl := Option.some.inj hF9
        exact W.joinAt0 hK7  (einr hN9) (.nil) (.nil) (fun wz hw => hw.pick [] rfl)
    · -- behind
      rintro  rfl
      -- region 9: slices.go:29
      refine W.seqR fun Q20 hQ20 => ?_
      refine WL.q (Y.assign (.pl rfl)) rfl ?_
      refine WL.next hQ20 (.cons (i := 4) rfl (.nil)) ?_
      obtain rfl := Option.some.inj hF
      refine W.retV (fn := Try.f24) (vs := [.bool true]) Try.results24 ⟨.tmp rfl, trivial⟩ (fun _ _ h => h) (fun wz hw => ?_)
      exact hR _ _ ⟨rfl, (hw.pick [] rfl)⟩

def slices_Reverse_int_int_L1 (N : Nat) (slo4 : Int) : ((List Int) × Int × Int) → Option (((List Int) × Int × Int) ⊕ (List Int))
  | (v7, i10, j11) =>
    cond (decide (i10 < j11))
      (bd (ix (v7.drop slo4.toNat) j11) fun (x12 : Int) =>
      bd (ix (v7.drop slo4.toNat) i10) fun (x13 : Int) =>
      bd (ix (v7.drop slo4.toNat) i10) fun (x14 : Int) =>
      bd (ix ((v7.set (slo4 + i10).toNat x12).drop slo4.toNat) j11) fun (x15 : Int) =>
      ck (ok64 (i10 + 1)) <|
      ck (ok64 (j11 - 1)) <|
      some (.inl (((v7.set (slo4 + i10).toNat x12).set (slo4 + j11).toNat x13), (i10 + 1), (j11 - 1))))
      (some (.inr v7))

def slices_Reverse_int_int (N : Nat) (s3 : (List Int)) (slo4 : Int) : Option (List Int) :=
  ck (ok64 ((((s3.drop slo4.toNat)).length : Int) - 1)) <|
  bd (α := (List Int)) (iter (slices_Reverse_int_int_L1 N slo4) N (s3, 0, ((((s3.drop slo4.toNat)).length : Int) - 1))) <| fun p => some p

theorem slices_Reverse_int_int_ok {N : Nat} {s3 : (List Int)} {slo4 : Int} {A1 : Option Addr} {c2 : Nat} {res : (List Int)} (hF : slices_Reverse_int_int N s3 slo4 = some res) {w0 w : World} {T : List Chunk} (hw : St w0.heap.size w0 ([cR (eI .i64) 1 A1 c2 3 s3] ++ T) w) (hs5 : slB (s3).length slo4 ((s3).length : Int) = true) :
    Calls Try.prog 66 (List.toArray [.slice (subA A1 c2 slo4.toNat 1) ((s3.drop slo4.toNat)).length (c2 - slo4.toNat)]) w (fun e w' => ∃ g : Unit, ((res).length = (s3).length) ∧ e = .returned (.tuple #[]) ∧ St w0.heap.size w0 ([cR (eI .i64) 1 A1 c2 3 res] ++ T) w') := by
  refine W.enter (n := 28) Try.func66 rfl rfl Sub.refl (by simp) hw fun R hR => ?_
  unfold slices_Reverse_int_int at hF
  -- region 0: slices.go:484
  refine W.seqR fun Q1 hQ1 => ?_
  refine WL.q (Y.move (.pl rfl)) rfl ?_
  refine WL.q (Y.len Try.underlying23 (.pl rfl)) rfl ?_
  obtain ⟨hk6, hF⟩ := ckh hF
  refine WL.q (Y.sub (.pl rfl) (.pl rfl) (ok64_lt (hk6))) rfl ?_
  refine WL.q (Y.assign (.pl rfl)) rfl ?_
  refine WL.q (Y.assign (.pl rfl)) rfl ?_
  refine WL.next hQ1 (.cons (i := 0) rfl (.cons (i := 2) rfl (.cons (i := 3) rfl (.nil)))) ?_
  refine W.block ?_
  obtain ⟨o2, hL2, hF⟩ := bnd hF
  refine W.loop3 (Em := fun (v7 : (List Int)) (i10 : Int) (j11 : Int) => [(0, .slice (subA A1 c2 slo4.toNat 1) ((v7.drop slo4.toNat)).length (c2 - slo4.toNat)), (2, .int .i64 i10), (3, .int .i64 j11)]) (M := fun v7 i10 j11 => ([cR (eI .i64) 1 A1 c2 3 v7] ++ T)) (I := fun v7 i10 j11 k2 => iter (slices_Reverse_int_int_L1 N slo4) k2 (v7, i10, j11) = some o2 ∧ (v7).length = (s3).length ∧ slB (v7).length slo4 ((v7).length : Int) = true) s3 0 ((((s3.drop slo4.toNat)).length : Int) - 1) N (⟨hL2, (by simp), (hs5)⟩) (.cons rfl (.cons rfl (.cons rfl (.nil)))) (.nil) (fun wz hw => hw.pickK 1 [0] rfl) (fun v7 i10 j11 k2 hI K3 hK3 => ?_)
  obtain ⟨hI, hl8, hs9⟩ := hI
  obtain ⟨k2, t2, rfl, hF2, hN2⟩ := iter_step hI
  refine W.seq fun K4 hK4 => ?_
  -- region 1: slices.go:484
  refine W.seqR fun Q5 hQ5 => ?_
  refine WL.q (Y.move (.pl rfl)) rfl ?_
  refine WL.q (Y.move (.pl rfl)) rfl ?_
  refine WL.q (Y.lss (.pl rfl) (.pl rfl)) rfl ?_
  refine WL.next hQ5 (.cons (i := 0) rfl (.cons (i := 2) rfl (.cons (i := 3) rfl (.cons (i := 9) rfl (.nil))))) ?_
  refine W.cond (.pl rfl) (fun hC6 => ?_) (fun hC6 => ?_)
  · replace hF2 := cpos hC6 hF2
    refine W.skip ?_
    refine W.go hK4 (.cons (i := 0) rfl (.cons (i := 2) rfl (.cons (i := 3) rfl (.nil)))) ?_
    refine W.seq fun K7 hK7 => ?_
    refine W.block ?_
    -- region 3: slices.go:485
    refine W.regX 13 (by kernel_rfl) ?_
    refine WX.pure 0 #[true, false, false, false, false, false, false, false, false, false, false, false, false, false, false, false] rfl (by kernel_rfl) (fun _ _ => Y.move (.pl rfl)) rfl ?_
    refine WX.pure 1 #[true, true, false, false, false, false, false, false, false, false, false, false, false, false, false, false] rfl (by kernel_rfl) (fun _ _ => Y.move (.pl rfl)) rfl ?_
    refine WX.pure 2 #[true, true, true, false, false, false, false, false, false, false, false, false, false, false, false, false] rfl (by kernel_rfl) (fun _ _ => Y.move (.pl rfl)) rfl ?_
    refine WX.pure 3 #[true, true, true, true, false, false, false, false, false, false, false, false, false, false, false, false] rfl (by kernel_rfl) (fun _ _ => Y.move (.pl rfl)) rfl ?_
    refine WX.pure 4 #[true, true, true, true, true, false, false, false, false, false, false, false, false, false, false, false] rfl (by kernel_rfl) (fun _ _ => Y.move (.pl rfl)) rfl ?_
    refine WX.pure 5 #[true, true, true, true, true, true, false, false, false, false, false, false, false, false, false, false] rfl (by kernel_rfl) (fun _ _ => Y.move (.pl rfl)) rfl ?_
    obtain ⟨x12, hx12, hF2⟩ := bnd hF2
    refine WX.take 6 #[true, true, true, true, true, true, true, false, false, false, false, false, false, false, false, false] (fun wz hw => St.tail [] hw) rfl (by kernel_rfl) (Y.viewEl (xs := v7) Try.underlying23 cells3 (i := 0) rfl (.pl rfl) (.pl rfl) (slB_le (hs9)).1 (ix_lt (hx12)) (ix_lt (ix_view1 (slB_le (hs9)).1 (hx12))).2) rfl ?_
    refine WX.take 7 #[true, true, true, true, true, true, true, true, false, false, false, false, false, false, false, false] (fun wz hw => St.tail [] hw) rfl (by kernel_rfl) (Y.loadR (enc := (eI .i64)) (v := .int .i64 x12) (a := x12) (idx := (slo4 + j11)) (j := 0) Try.underlying3 rfl (fun _ => rfl) (i := 0) rfl (.pl rfl) (ix_get (ix_view1 (slB_le (hs9)).1 (hx12))) rfl rfl) rfl ?_
    refine WX.pure 8 #[true, true, true, true, true, true, true, true, true, false, false, false, false, false, false, false] rfl (by kernel_rfl) (fun _ _ => Y.move (.pl rfl)) rfl ?_
    refine WX.pure 9 #[true, true, true, true, true, true, true, true, true, true, false, false, false, false, false, false] rfl (by kernel_rfl) (fun _ _ => Y.move (.pl rfl)) rfl ?_
    obtain ⟨x13, hx13, hF2⟩ := bnd hF2
    refine WX.take 10 #[true, true, true, true, true, true, true, true, true, true, true, false, false, false, false, false] (fun wz hw => St.tail [] hw) rfl (by kernel_rfl) (Y.viewEl (xs := v7) Try.underlying23 cells3 (i := 0) rfl (.pl rfl) (.pl rfl) (slB_le (hs9)).1 (ix_lt (hx13)) (ix_lt (ix_view1 (slB_le (hs9)).1 (hx13))).2) rfl ?_
    refine WX.take 11 #[true, true, true, true, true, true, true, true, true, true, true, true, false, false, false, false] (fun wz hw => St.tail [] hw) rfl (by kernel_rfl) (Y.loadR (enc := (eI .i64)) (v := .int .i64 x13) (a := x13) (idx := (slo4 + i10)) (j := 0) Try.underlying3 rfl (fun _ => rfl) (i := 0) rfl (.pl rfl) (ix_get (ix_view1 (slB_le (hs9)).1 (hx13))) rfl rfl) rfl ?_
    obtain ⟨x14, hx14, hF2⟩ := bnd hF2
    refine WX.take 12 #[true, true, true, true, true, true, true, true, true, true, true, true, true, false, false, false] (fun wz hw => St.tail [] hw) rfl (by kernel_rfl) (Y.viewEl (xs := v7) Try.underlying23 cells3 (i := 0) rfl (.pl rfl) (.pl rfl) (slB_le (hs9)).1 (ix_lt (hx14)) (ix_lt (ix_view1 (slB_le (hs9)).1 (hx14))).2) rfl ?_
    refine WX.stop #[true, true, true, true, true, true, true, true, true, true, true, true, true, true, false, false] (fun wz hw => St.tail [] hw) rfl (by kernel_rfl) (WO.storeS (enc := (eI .i64)) (a := x14) (a' := x12) (idx := (slo4 + i10)) (j := 0) cells3 (.pl rfl) (.pl rfl) rfl (fun _ => rfl) (i := 0) rfl (ix_get (ix_view1 (slB_le (hs9)).1 (hx14))) rfl (by decide) rfl ?_)
    obtain ⟨x15, hx15, hF2⟩ := bnd hF2
    refine WA.branch [14] (by kernel_rfl) ⟨?_, trivial⟩
    refine WI.step #[true, true, true, true, true, true, true, true, true, true, true, true, true, true, true, false] rfl rfl (WO.q (Y.viewEl (xs := (v7.set (slo4 + i10).toNat x12)) Try.underlying23 cells3 (i := 0) rfl (.pl rfl) (.pl rfl) (slB_le ((by simpa only [List.length_set, hl8] using (hs9)))).1 (by simpa only [List.length_drop, List.length_take, List.length_set, hl8] using ix_lt (hx15)) (ix_lt (ix_view1 (slB_le ((by simpa only [List.length_set, hl8] using (hs9)))).1 (hx15))).2) rfl ?_)
    refine WA.branch [15] (by kernel_rfl) ⟨?_, trivial⟩
    refine WI.step #[true, true, true, true, true, true, true, true, true, true, true, true, true, true, true, true] rfl rfl (WO.storeS (enc := (eI .i64)) (a := x15) (a' := x13) (idx := (slo4 + j11)) (j := 0) cells3 (.pl rfl) (.pl rfl) rfl (fun _ => rfl) (i := 0) rfl (ix_get (ix_view1 (slB_le ((by simpa only [List.length_set, hl8] using (hs9)))).1 (hx15))) rfl (by decide) rfl ?_)
    refine WA.done (by kernel_rfl) ?_
    refine W.go hK7 (.cons (i := 0) rfl (.cons (i := 2) rfl (.cons (i := 3) rfl (.nil)))) ?_
    -- region 2: slices.go:484
    refine W.reg ?_
    refine WL.q (Y.move (.pl rfl)) rfl ?_
    obtain ⟨hk16, hF2⟩ := ckh hF2
    refine WL.q (Y.add (.pl rfl) (.pl rfl) (ok64_lt (hk16))) rfl ?_
    refine WL.q (Y.move (.pl rfl)) rfl ?_
    obtain ⟨hk17, hF2⟩ := ckh hF2
    refine WL.q (Y.sub (.pl rfl) (.pl rfl) (ok64_lt (hk17))) rfl ?_
    refine WL.q (Y.assign (.pl rfl)) rfl ?_
    refine WL.q (Y.assign (.pl rfl)) rfl ?_
    refine WL.nil ?_
    obtain rfl := Option.some.inj hF2
    exact W.again3 hK3 ((v7.set (slo4 + i10).toNat x12).set (slo4 + j11).toNat x13) (i10 + 1) (j11 - 1) k2 ⟨hN2, (by simp [hl8]), ((by simpa only [List.length_set, hl8] using (hs9)))⟩ (Nat.lt_succ_self _) (.cons (eqSl (by simp [hl8])) (.cons rfl (.cons rfl (.nil)))) (.nil) (fun wz hw => hw.pickK 1 [0] rfl)
  · replace hF2 := cneg hC6 hF2
    refine W.exit ?_
    obtain rfl := Option.some.inj hF2
    obtain rfl := einr hN2
    obtain rfl := Option.some.inj hF
    refine W.endV (fn := Try.f66) (vs := []) Try.results66 trivial (fun _ _ h => h) (fun wz hw => ?_)
    exact hR _ _ ⟨(), (by simp [hl8]), rfl, (hw.pickK 1 [0] rfl)⟩

def serial_next_L5 (N : Nat) (p3 : (List Int)) : Int → Option (Int ⊕ Int)
  | i6 =>
    bd ((cond ((decide (0 ≤ i6)) == true) (ix p3 i6) (some 0))) fun (x7 : Int) =>
    ck (!((decide (0 ≤ i6)) == true) || (ok64 (i6 + 1))) <|
    bd ((cond ((decide (0 ≤ i6)) == true) (ix p3 (i6 + 1)) (some 0))) fun (x9 : Int) =>
    cond ((decide (0 ≤ i6)) && (decide (x9 < x7)))
      (ck (ok64 (i6 - 1)) <|
      some (.inl (i6 - 1)))
      (some (.inr i6))

def serial_next_L7 (N : Nat) (p3 : (List Int)) (i5 : Int) : Int → Option (Int ⊕ Int)
  | k13 =>
    bd (ix p3 k13) fun (x14 : Int) =>
    bd (ix p3 i5) fun (x15 : Int) =>
    cond (decide (x14 < x15))
      (ck (ok64 (k13 - 1)) <|
      some (.inl (k13 - 1)))
      (some (.inr k13))

def serial_next (N : Nat) (p3 : (List Int)) : Option ((List Int) × Bool) :=
  ck (ok64 (((p3).length : Int) - 2)) <|
  bd (α := Int) (iter (serial_next_L5 N p3) N (((p3).length : Int) - 2)) <|
  fun (i5 : Int) => 
    cond (decide (i5 < 0))
      (some (p3, false))
      (ck (ok64 (((p3).length : Int) - 1)) <|
      bd (α := Int) (iter (serial_next_L7 N p3 i5) N (((p3).length : Int) - 1)) <|
      fun (k12 : Int) => 
        bd (ix p3 k12) fun (x17 : Int) =>
        bd (ix p3 i5) fun (x18 : Int) =>
        bd (ix p3 i5) fun (x19 : Int) =>
        bd (ix (p3.set i5.toNat x17) k12) fun (x20 : Int) =>
        ck (ok64 (i5 + 1)) <|
        ck (slB (((p3.set i5.toNat x17).set k12.toNat x18)).length (i5 + 1) ((((p3.set i5.toNat x17).set k12.toNat x18)).length : Int)) <|
        bd (slices_Reverse_int_int N ((p3.set i5.toNat x17).set k12.toNat x18) (i5 + 1)) fun (r23 : (List Int)) =>
        some (r23, true))

theorem serial_next_ok {N : Nat} {p3 : (List Int)} {A1 : Option Addr} {c2 : Nat} {res : ((List Int) × Bool)} (hF : serial_next N p3 = some res) {w0 w : World} {T : List Chunk} (hw : St w0.heap.size w0 ([cR (eI .i64) 1 A1 c2 3 p3] ++ T) w) :
    Calls Try.prog 38 (List.toArray [.slice A1 (p3).length c2]) w (fun e w' => ∃ g : Unit, ((res.1).length = (p3).length) ∧ e = .returned (.bool res.2) ∧ St w0.heap.size w0 ([cR (eI .i64) 1 A1 c2 3 res.1] ++ T) w') := by
  refine W.enter (n := 59) Try.func38 rfl rfl Sub.refl (by simp) hw fun R hR => ?_
  unfold serial_next at hF
  -- region 0: serial.go:87
  refine W.seqR fun Q1 hQ1 => ?_
  refine WL.q (Y.assign (.pl rfl)) rfl ?_
  refine WL.next hQ1 (.cons (i := 0) rfl (.nil)) ?_
  -- region 1: serial.go:88
  refine W.seqR fun Q2 hQ2 => ?_
  refine WL.q (Y.move (.pl rfl)) rfl ?_
  refine WL.q (Y.len Try.underlying23 (.pl rfl)) rfl ?_
  obtain ⟨hk4, hF⟩ := ckh hF
  refine WL.q (Y.sub (.pl rfl) (.pl rfl) (ok64_lt (hk4))) rfl ?_
  refine WL.q (Y.assign (.pl rfl)) rfl ?_
  refine WL.next hQ2 (.cons (i := 0) rfl (.cons (i := 3) rfl (.nil))) ?_
  obtain ⟨o3, hF3, hF⟩ := bnd hF
  refine W.join1 (Em := fun (i5 : Int) => [(3, .int .i64 i5)]) (M := fun i5 => ([cR (eI .i64) 1 A1 c2 3 p3] ++ T)) (I := fun i5 => i5 = o3) (.cons (i := 0) rfl (.nil)) (fun K4 hK4 => ?_) ?_
  · -- up to
    refine W.block ?_
    refine W.loop1 (Em := fun (i6 : Int) => [(3, .int .i64 i6)]) (M := fun i6 => ([cR (eI .i64) 1 A1 c2 3 p3] ++ T)) (I := fun i6 k5 => iter (serial_next_L5 N p3) k5 i6 = some o3) (((p3).length : Int) - 2) N (hF3) (.cons rfl (.nil)) (.cons (i := 0) rfl (.nil)) (fun wz hw => hw.pickK 1 [0] rfl) (fun i6 k5 hI K6 hK6 => ?_)
    obtain ⟨k5, t5, rfl, hF5, hN5⟩ := iter_step hI
    refine W.seq fun K7 hK7 => ?_
    -- region 2: serial.go:89
    refine W.seqD (by kernel_rfl) (by kernel_rfl) fun R8 hR8 => ?_
    refine WD.q (Y.move (.pl rfl)) rfl ?_
    refine WD.q (Y.geq (.pl rfl) (.pl rfl)) rfl ?_
    refine WD.q (Y.move (.pl rfl)) rfl ?_
    refine WD.g (.pl rfl rfl rfl) (fun hg => Y.move (.pl rfl)) rfl ?_
    refine WD.g (.pl rfl rfl rfl) (fun hg => Y.move (.pl rfl)) rfl ?_
    obtain ⟨x7, hx7, hF5⟩ := bnd hF5
    refine WD.g (.pl rfl rfl rfl) (fun hg => Y.rowEl Try.underlying23 cells3 (i := 0) rfl (.gd (hg) rfl) rfl (.gd (hg) rfl) (ix_lt (gpos hg hx7))) rfl ?_
    refine WD.g (.pl rfl rfl rfl) (fun hg => Y.loadR (enc := (eI .i64)) (v := .int .i64 x7) (a := x7) (idx := i6) (j := 0) Try.underlying3 rfl (fun _ => rfl) (i := 0) rfl (.gd (hg) rfl) (ix_get (gpos hg hx7)) rfl rfl) rfl ?_
    refine WD.g (.pl rfl rfl rfl) (fun hg => Y.move (.pl rfl)) rfl ?_
    refine WD.g (.pl rfl rfl rfl) (fun hg => Y.move (.pl rfl)) rfl ?_
    obtain ⟨hk8, hF5⟩ := ckh hF5
    refine WD.g (.pl rfl rfl rfl) (fun hg => Y.add (.gd (hg) rfl) (.pl rfl) (ok64_lt (gor hg hk8))) rfl ?_
    obtain ⟨x9, hx9, hF5⟩ := bnd hF5
    refine WD.g (.pl rfl rfl rfl) (fun hg => Y.rowEl Try.underlying23 cells3 (i := 0) rfl (.gd (hg) rfl) rfl (.gd (hg) rfl) (ix_lt (gpos hg hx9))) rfl ?_
    refine WD.g (.pl rfl rfl rfl) (fun hg => Y.loadR (enc := (eI .i64)) (v := .int .i64 x9) (a := x9) (idx := (i6 + 1)) (j := 0) Try.underlying3 rfl (fun _ => rfl) (i := 0) rfl (.gd (hg) rfl) (ix_get (gpos hg hx9)) rfl rfl) rfl ?_
    refine WD.g (.pl rfl rfl rfl) (fun hg => Y.gtr (.gd (hg) rfl) (.gd (hg) rfl)) rfl ?_
    refine WD.q (Y.and (.pl rfl) (fun h2 => .gd (eqt h2) rfl)) rfl ?_
    refine WD.next hR8 (.cons (i := 0) rfl (.cons (i := 3) rfl (.cons (i := 21) rfl (.nil)))) ?_
    refine W.cond (.pl rfl) (fun hC9 => ?_) (fun hC9 => ?_)
    · replace hF5 := cpos hC9 hF5
      refine W.skip ?_
      refine W.go hK7 (.cons (i := 0) rfl (.cons (i := 3) rfl (.nil))) ?_
      refine W.block ?_
      -- region 3: serial.go:90
      refine W.reg ?_
      refine WL.q (Y.move (.pl rfl)) rfl ?_
      obtain ⟨hk10, hF5⟩ := ckh hF5
      refine WL.q (Y.sub (.pl rfl) (.pl rfl) (ok64_lt (hk10))) rfl ?_
      refine WL.q (Y.assign (.pl rfl)) rfl ?_
      refine WL.nil ?_
      obtain rfl := Option.some.inj hF5
      exact W.again1 hK6 (i6 - 1) k5 hN5 (Nat.lt_succ_self _) (.cons rfl (.nil)) (.cons (i := 0) rfl (.nil)) (fun wz hw => hw.pickK 1 [0] rfl)
    · replace hF5 := cneg hC9 hF5
      refine W.exit ?_
      obtain rfl := Option.some.inj hF5
      exact W.joinAt1 hK4 i6 (einr hN5) (.cons rfl (.nil)) (.cons (i := 0) rfl (.nil)) (fun wz hw => hw.pickK 1 [0] rfl)
  · -- behind
    rintro i5 rfl
    refine W.seq fun K11 hK11 => ?_
    -- region 4: serial.go:92
    refine W.seqR fun Q12 hQ12 => ?_
    refine WL.q (Y.move (.pl rfl)) rfl ?_
    refine WL.q (Y.lss (.pl rfl) (.pl rfl)) rfl ?_
    refine WL.next hQ12 (.cons (i := 0) rfl (.cons (i := 3) rfl (.cons (i := 25) rfl (.nil)))) ?_
    refine W.cond (.pl rfl) (fun hC13 => ?_) (fun hC13 => ?_)
    · replace hF := cpos hC13 hF
      -- region 5: serial.go:93
      refine W.seqR fun Q14 hQ14 => ?_
      refine WL.q (Y.assign (.pl rfl)) rfl ?_
      refine WL.next hQ14 (.cons (i := 2) rfl (.nil)) ?_
      obtain rfl := Option.some.inj hF
      refine W.retV (fn := Try.f38) (vs := [.bool false]) Try.results38 ⟨.tmp rfl, trivial⟩ (fun _ _ h => h) (fun wz hw => ?_)
      exact hR _ _ ⟨(), (by simp), rfl, (hw.pickK 1 [0] rfl)⟩
    · replace hF := cneg hC13 hF
      refine W.skip ?_
      refine W.go hK11 (.cons (i := 0) rfl (.cons (i := 3) rfl (.nil))) ?_
      -- region 6: serial.go:95
      refine W.seqR fun Q15 hQ15 => ?_
      refine WL.q (Y.move (.pl rfl)) rfl ?_
      refine WL.q (Y.len Try.underlying23 (.pl rfl)) rfl ?_
      obtain ⟨hk11, hF⟩ := ckh hF
      refine WL.q (Y.sub (.pl rfl) (.pl rfl) (ok64_lt (hk11))) rfl ?_
      refine WL.q (Y.assign (.pl rfl)) rfl ?_
      refine WL.next hQ15 (.cons (i := 0) rfl (.cons (i := 3) rfl (.cons (i := 4) rfl (.nil)))) ?_
      obtain ⟨o16, hF16, hF⟩ := bnd hF
      refine W.join1 (Em := fun (k12 : Int) => [(4, .int .i64 k12)]) (M := fun k12 => ([cR (eI .i64) 1 A1 c2 3 p3] ++ T)) (I := fun k12 => k12 = o16) (.cons (i := 0) rfl (.cons (i := 3) rfl (.nil))) (fun K17 hK17 => ?_) ?_
      · -- up to
        refine W.block ?_
        refine W.loop1 (Em := fun (k13 : Int) => [(4, .int .i64 k13)]) (M := fun k13 => ([cR (eI .i64) 1 A1 c2 3 p3] ++ T)) (I := fun k13 k18 => iter (serial_next_L7 N p3 i5) k18 k13 = some o16) (((p3).length : Int) - 1) N (hF16) (.cons rfl (.nil)) (.cons (i := 0) rfl (.cons (i := 3) rfl (.nil))) (fun wz hw => hw.pickK 1 [0] rfl) (fun k13 k18 hI K19 hK19 => ?_)
        obtain ⟨k18, t18, rfl, hF18, hN18⟩ := iter_step hI
        refine W.seq fun K20 hK20 => ?_
        -- region 7: serial.go:96
        refine W.seqD (by kernel_rfl) (by kernel_rfl) fun R21 hR21 => ?_
        refine WD.q (Y.move (.pl rfl)) rfl ?_
        refine WD.q (Y.move (.pl rfl)) rfl ?_
        obtain ⟨x14, hx14, hF18⟩ := bnd hF18
        refine WD.q (Y.rowEl Try.underlying23 cells3 (i := 0) rfl (.pl rfl) rfl (.pl rfl) (ix_lt (hx14))) rfl ?_
        refine WD.q (Y.loadR (enc := (eI .i64)) (v := .int .i64 x14) (a := x14) (idx := k13) (j := 0) Try.underlying3 rfl (fun _ => rfl) (i := 0) rfl (.pl rfl) (ix_get (hx14)) rfl rfl) rfl ?_
        refine WD.q (Y.move (.pl rfl)) rfl ?_
        refine WD.q (Y.move (.pl rfl)) rfl ?_
        obtain ⟨x15, hx15, hF18⟩ := bnd hF18
        refine WD.q (Y.rowEl Try.underlying23 cells3 (i := 0) rfl (.pl rfl) rfl (.pl rfl) (ix_lt (hx15))) rfl ?_
        refine WD.q (Y.loadR (enc := (eI .i64)) (v := .int .i64 x15) (a := x15) (idx := i5) (j := 0) Try.underlying3 rfl (fun _ => rfl) (i := 0) rfl (.pl rfl) (ix_get (hx15)) rfl rfl) rfl ?_
        refine WD.q (Y.lss (.pl rfl) (.pl rfl)) rfl ?_
        refine WD.next hR21 (.cons (i := 0) rfl (.cons (i := 3) rfl (.cons (i := 4) rfl (.cons (i := 37) rfl (.nil))))) ?_
        refine W.cond (.pl rfl) (fun hC22 => ?_) (fun hC22 => ?_)
        · replace hF18 := cpos hC22 hF18
          refine W.skip ?_
          refine W.go hK20 (.cons (i := 0) rfl (.cons (i := 3) rfl (.cons (i := 4) rfl (.nil)))) ?_
          refine W.block ?_
          -- region 8: serial.go:97
          refine W.reg ?_
          refine WL.q (Y.move (.pl rfl)) rfl ?_
          obtain ⟨hk16, hF18⟩ := ckh hF18
          refine WL.q (Y.sub (.pl rfl) (.pl rfl) (ok64_lt (hk16))) rfl ?_
          refine WL.q (Y.assign (.pl rfl)) rfl ?_
          refine WL.nil ?_
          obtain rfl := Option.some.inj hF18
          exact W.again1 hK19 (k13 - 1) k18 hN18 (Nat.lt_succ_self _) (.cons rfl (.nil)) (.cons (i := 0) rfl (.cons (i := 3) rfl (.nil))) (fun wz hw => hw.pickK 1 [0] rfl)
        · replace hF18 := cneg hC22 hF18
          refine W.exit ?_
          obtain rfl := Option.some.inj hF18
          exact W.joinAt1 hK17 k13 (einr hN18) (.cons rfl (.nil)) (.cons (i := 0) rfl (.cons (i := 3) rfl (.nil))) (fun wz hw => hw.pickK 1 [0] rfl)
      · -- behind
        rintro k12 rfl
        -- region 9: serial.go:99
        refine W.know (fun wz hw => (hw.row_lim (i := 0) rfl).2.2) (fun hok25 => ?_)
        refine W.seqX 13 (by kernel_rfl) fun K24 hK24 => ?_
        refine WX.pure 0 #[true, false, false, false, false, false, false, false, false, false, false, false, false, false, false, false] rfl (by kernel_rfl) (fun _ _ => Y.move (.pl rfl)) rfl ?_
        refine WX.pure 1 #[true, true, false, false, false, false, false, false, false, false, false, false, false, false, false, false] rfl (by kernel_rfl) (fun _ _ => Y.move (.pl rfl)) rfl ?_
        refine WX.pure 2 #[true, true, true, false, false, false, false, false, false, false, false, false, false, false, false, false] rfl (by kernel_rfl) (fun _ _ => Y.move (.pl rfl)) rfl ?_
        refine WX.pure 3 #[true, true, true, true, false, false, false, false, false, false, false, false, false, false, false, false] rfl (by kernel_rfl) (fun _ _ => Y.move (.pl rfl)) rfl ?_
        refine WX.pure 4 #[true, true, true, true, true, false, false, false, false, false, false, false, false, false, false, false] rfl (by kernel_rfl) (fun _ _ => Y.move (.pl rfl)) rfl ?_
        refine WX.pure 5 #[true, true, true, true, true, true, false, false, false, false, false, false, false, false, false, false] rfl (by kernel_rfl) (fun _ _ => Y.move (.pl rfl)) rfl ?_
        obtain ⟨x17, hx17, hF⟩ := bnd hF
        refine WX.pure 6 #[true, true, true, true, true, true, true, false, false, false, false, false, false, false, false, false] rfl (by kernel_rfl) (fun _ _ => Y.okEl (xs := p3) Try.underlying23 cells3 hok25 (.pl rfl) rfl (.pl rfl) (ix_lt (hx17))) rfl ?_
        refine WX.take 7 #[true, true, true, true, true, true, true, true, false, false, false, false, false, false, false, false] (fun wz hw => St.tail [] hw) rfl (by kernel_rfl) (Y.loadR (enc := (eI .i64)) (v := .int .i64 x17) (a := x17) (idx := k12) (j := 0) Try.underlying3 rfl (fun _ => rfl) (i := 0) rfl (.pl rfl) (ix_get (hx17)) rfl rfl) rfl ?_
        refine WX.pure 8 #[true, true, true, true, true, true, true, true, true, false, false, false, false, false, false, false] rfl (by kernel_rfl) (fun _ _ => Y.move (.pl rfl)) rfl ?_
        refine WX.pure 9 #[true, true, true, true, true, true, true, true, true, true, false, false, false, false, false, false] rfl (by kernel_rfl) (fun _ _ => Y.move (.pl rfl)) rfl ?_
        obtain ⟨x18, hx18, hF⟩ := bnd hF
        refine WX.pure 10 #[true, true, true, true, true, true, true, true, true, true, true, false, false, false, false, false] rfl (by kernel_rfl) (fun _ _ => Y.okEl (xs := p3) Try.underlying23 cells3 hok25 (.pl rfl) rfl (.pl rfl) (ix_lt (hx18))) rfl ?_
        refine WX.take 11 #[true, true, true, true, true, true, true, true, true, true, true, true, false, false, false, false] (fun wz hw => St.tail [] hw) rfl (by kernel_rfl) (Y.loadR (enc := (eI .i64)) (v := .int .i64 x18) (a := x18) (idx := i5) (j := 0) Try.underlying3 rfl (fun _ => rfl) (i := 0) rfl (.pl rfl) (ix_get (hx18)) rfl rfl) rfl ?_
        obtain ⟨x19, hx19, hF⟩ := bnd hF
        refine WX.pure 12 #[true, true, true, true, true, true, true, true, true, true, true, true, true, false, false, false] rfl (by kernel_rfl) (fun _ _ => Y.okEl (xs := p3) Try.underlying23 cells3 hok25 (.pl rfl) rfl (.pl rfl) (ix_lt (hx19))) rfl ?_
        refine WX.stop #[true, true, true, true, true, true, true, true, true, true, true, true, true, true, false, false] (fun wz hw => St.tail [] hw) rfl (by kernel_rfl) (WO.storeS (enc := (eI .i64)) (a := x19) (a' := x17) (idx := i5) (j := 0) cells3 (.pl rfl) (.pl rfl) rfl (fun _ => rfl) (i := 0) rfl (ix_get (hx19)) rfl (by decide) rfl ?_)
        obtain ⟨x20, hx20, hF⟩ := bnd hF
        refine WA.take 14 #[true, true, true, true, true, true, true, true, true, true, true, true, true, true, true, false] rfl (by kernel_rfl) (fun _ _ => Y.okEl (xs := (p3.set i5.toNat x17)) Try.underlying23 cells3 (by simpa only [List.length_set] using hok25) (.pl rfl) (by simp) (.pl rfl) (ix_lt (hx20))) rfl ?_
        refine WA.branch [15] (by kernel_rfl) ⟨?_, trivial⟩
        refine WI.step #[true, true, true, true, true, true, true, true, true, true, true, true, true, true, true, true] rfl rfl (WO.storeS (enc := (eI .i64)) (a := x20) (a' := x18) (idx := k12) (j := 0) cells3 (.pl rfl) (.pl rfl) rfl (fun _ => rfl) (i := 0) rfl (ix_get (hx20)) rfl (by decide) rfl ?_)
        refine WA.done (by kernel_rfl) ?_
        refine KK.next hK24 (.cons (i := 0) rfl (.cons (i := 3) rfl (.nil))) ?_
        -- region 10: serial.go:100
        refine W.seqR fun Q26 hQ26 => ?_
        refine WL.q (Y.move (.pl rfl)) rfl ?_
        refine WL.q (Y.move (.pl rfl)) rfl ?_
        obtain ⟨hk21, hF⟩ := ckh hF
        refine WL.q (Y.add (.pl rfl) (.pl rfl) (ok64_lt (hk21))) rfl ?_
        obtain ⟨hk22, hF⟩ := ckh hF
        refine WL.q (Y.sliceR1 Try.underlying23 cells3 (i := 0) rfl (.pl rfl) (by simp) (.pl rfl) (hk22)) rfl ?_
        obtain ⟨r23, hr23, hF⟩ := bnd hF
        refine WL.step (WO.call (γ := Unit) (fun g => .tuple #[]) (fun g => ([cR (eI .i64) 1 A1 c2 3 r23] ++ T)) (fun g => (r23).length = (((p3.set i5.toNat x17).set k12.toNat x18)).length) isGo66 (.cons (.pl rfl) (.nil)) rfl (fun wz hw => slices_Reverse_int_int_ok (T := ([] ++ T)) (hr23) (hw.pickK 1 [0] rfl) (hk22)) ?_)
        rintro _ hl24
        refine WL.next hQ26 (.nil) ?_
        -- region 11: serial.go:101
        refine W.seqR fun Q27 hQ27 => ?_
        refine WL.q (Y.assign (.pl rfl)) rfl ?_
        refine WL.next hQ27 (.cons (i := 2) rfl (.nil)) ?_
        obtain rfl := Option.some.inj hF
        refine W.retV (fn := Try.f38) (vs := [.bool true]) Try.results38 ⟨.tmp rfl, trivial⟩ (fun _ _ h => h) (fun wz hw => ?_)
        exact hR _ _ ⟨(), (by simp [hl24]), rfl, (hw.pickK 1 [0] rfl)⟩

def serial_View_L5 (N : Nat) (l1 : (List Deed)) : ((List Int) × Int) → Option (((List Int) × Int) ⊕ (List Int))
  | (all12, v13) =>
    cond (decide (v13 < ((l1).length : Int)))
      (ck (limB 8 ((all12).length + (([v13] : List Int)).length)) <|
      ck (ok64 (v13 + 1)) <|
      some (.inl ((all12 ++ ([v13] : List Int)), (v13 + 1))))
      (some (.inr all12))

def serial_View_L7 (N : Nat) (l1 : (List Deed)) (r19 : (List Int)) : ((List Int) × Bool) → Option (((List Int) × Bool) ⊕ (Unit ⊕ ((List Int) × Bool × Int)))
  | (p23, more24) =>
    cond more24
      (bd (serial_sequence N l1 p23) fun (r25 : (List Int)) =>
      bd (serial_sources N l1 r25) fun (r28 : (List Int)) =>
      bd (slices_Equal_int_int N r28 r19) fun (r31 : Bool) =>
      cond r31
        (some (.inr (.inr (p23, true, 0))))
        (bd (serial_next N p23) fun (r32 : ((List Int) × Bool)) =>
        some (.inl (r32.1, r32.2))))
      (some (.inr (.inl ())))

def serial_View (N : Nat) (l1 : (List Deed)) : Option ((List Int) × Bool × Int) :=
  bd (serial_Check N l1) fun (r6 : (Int × Int)) =>
  cond (!(decide (r6.2 = 0)))
    (some ([], false, r6.2))
    (bd (α := (List Int)) (iter (serial_View_L5 N l1) N ([], 0)) <|
    fun (all9 : (List Int)) => 
      bd (serial_sources N l1 all9) fun (r19 : (List Int)) =>
      bd (α := (Unit ⊕ ((List Int) × Bool × Int))) (iter (serial_View_L7 N l1 r19) N (([0, 1, 2, 3, 4, 5] : List Int), true)) <|
      Sum.elim (fun _ => 
        some ([], false, 0)) (fun p => some p))

theorem serial_View_ok {N : Nat} {l1 : (List Deed)} {res : ((List Int) × Bool × Int)} (hF : serial_View N l1 = some res) (w : World) {v5 : Value} (hs4 : SlIn encDeed 3 w v5 l1) :
    Made Try.prog 17 [v5] w (fun g : (Option Addr × Nat) => .tuple #[.slice g.1 (res.1).length g.2, .bool res.2.1, .int .i64 res.2.2]) (fun g => [cR (eI .i64) 1 g.1 g.2 3 res.1]) (fun g => True) := by
  obtain ⟨A2, c3, rfl, hcc3, hs4⟩ := hs4.form
  refine W.enter (n := 45) Try.func17 rfl rfl Sub.refl (by simp) (St.start w) fun R hR => ?_
  unfold serial_View at hF
  -- region 0: serial.go:105
  refine W.seqR fun Q1 hQ1 => ?_
  refine WL.q (Y.assign (.pl rfl)) rfl ?_
  refine WL.q (Y.assign (.pl rfl)) rfl ?_
  refine WL.q (Y.assign (.pl rfl)) rfl ?_
  refine WL.next hQ1 (.cons (i := 0) rfl (.nil)) ?_
  refine W.seq fun K2 hK2 => ?_
  -- region 1: serial.go:106
  refine W.seqR fun Q3 hQ3 => ?_
  refine WL.q (Y.move (.pl rfl)) rfl ?_
  obtain ⟨r6, hr6, hF⟩ := bnd hF
  refine WL.step (WO.callP isGo36 (.cons (.pl rfl) (.nil)) rfl (fun wz hw => serial_Check_ok (hr6) wz (hs4.mono hw)) ?_)
  refine WL.q (Y.move (.pl rfl)) rfl ?_
  refine WL.q (Y.extract (.pl rfl) rfl) rfl ?_
  refine WL.q (Y.extract (.pl rfl) rfl) rfl ?_
  refine WL.q (Y.assign (.pl rfl)) rfl ?_
  refine WL.q (Y.assign (.pl rfl)) rfl ?_
  refine WL.next hQ3 (.cons (i := 0) rfl (.cons (i := 6) rfl (.nil))) ?_
  -- region 2: serial.go:106
  refine W.seqR fun Q4 hQ4 => ?_
  refine WL.q (Y.move (.pl rfl)) rfl ?_
  refine WL.q (Y.neq (.pl rfl) (.pl rfl)) rfl ?_
  refine WL.next hQ4 (.cons (i := 0) rfl (.cons (i := 6) rfl (.cons (i := 18) rfl (.nil)))) ?_
  refine W.cond (.pl rfl) (fun hC5 => ?_) (fun hC5 => ?_)
  · replace hF := cpos hC5 hF
    -- region 3: serial.go:107
    refine W.seqR fun Q6 hQ6 => ?_
    refine WL.q (Y.move (.pl rfl)) rfl ?_
    refine WL.q (Y.assign (.pl rfl)) rfl ?_
    refine WL.q (Y.assign (.pl rfl)) rfl ?_
    refine WL.q (Y.assign (.pl rfl)) rfl ?_
    refine WL.next hQ6 (.cons (i := 2) rfl (.cons (i := 3) rfl (.cons (i := 4) rfl (.nil)))) ?_
    obtain rfl := Option.some.inj hF
    refine W.retV (fn := Try.f17) (vs := [.slice none 0 0, .bool false, .int .i64 r6.2]) Try.results17 ⟨.tmp rfl, ⟨.tmp rfl, ⟨.tmp rfl, trivial⟩⟩⟩ (fun _ _ h => h) (fun wz hw => ?_)
    exact hR _ _ ⟨(none, 0), trivial, rfl, ((St.nilR (hw.pick [] rfl) (eI .i64) 1 3).pick [0] rfl)⟩
  · replace hF := cneg hC5 hF
    refine W.skip ?_
    refine W.go hK2 (.cons (i := 0) rfl (.nil)) ?_
    -- region 4: serial.go:109
    refine W.seqR fun Q7 hQ7 => ?_
    refine WL.q (Y.assign (.pl rfl)) rfl ?_
    refine WL.next hQ7 (.cons (i := 0) rfl (.cons (i := 7) rfl (.nil))) ?_
    obtain ⟨o8, hF8, hF⟩ := bnd hF
    refine W.join3 (Em := fun (all9 : (List Int)) (A7 : Option Addr) (c8 : Nat) => [(7, .slice A7 (all9).length c8)]) (M := fun all9 A7 c8 => [cR (eI .i64) 1 A7 c8 3 all9]) (I := fun all9 A7 c8 => all9 = o8) (.cons (i := 0) rfl (.nil)) (fun K9 hK9 => ?_) ?_
    · -- up to
      -- region 5: serial.go:110
      refine W.seqR fun Q10 hQ10 => ?_
      refine WL.q (Y.move (.pl rfl)) rfl ?_
      refine WL.q (Y.len Try.underlying40 (.pl rfl)) rfl ?_
      refine WL.q (Y.move (.pl rfl)) rfl ?_
      refine WL.next hQ10 (.cons (i := 0) rfl (.cons (i := 7) rfl (.cons (i := 21) rfl (.cons (i := 22) rfl (.nil))))) ?_
      refine W.block ?_
      refine W.loop4 (Em := fun (all12 : (List Int)) (v13 : Int) (A10 : Option Addr) (c11 : Nat) => [(7, .slice A10 (all12).length c11), (22, .int .i64 v13)]) (M := fun all12 v13 A10 c11 => [cR (eI .i64) 1 A10 c11 3 all12]) (I := fun all12 v13 A10 c11 k11 => iter (serial_View_L5 N l1) k11 (all12, v13) = some o8) [] 0 none 0 N (hF8) (.cons rfl (.cons rfl (.nil))) (.cons (i := 0) rfl (.cons (i := 21) rfl (.nil))) (fun wz hw => (St.nilR (hw.pick [] rfl) (eI .i64) 1 3).pick [0] rfl) (fun all12 v13 A10 c11 k11 hI K12 hK12 => ?_)
      obtain ⟨k11, t11, rfl, hF11, hN11⟩ := iter_step hI
      -- region 6: serial.go:110
      refine W.seqR fun Q13 hQ13 => ?_
      refine WL.q (Y.lss (.pl rfl) (.pl rfl)) rfl ?_
      refine WL.next hQ13 (.cons (i := 0) rfl (.cons (i := 7) rfl (.cons (i := 21) rfl (.cons (i := 22) rfl (.cons (i := 23) rfl (.nil)))))) ?_
      refine W.seq fun K14 hK14 => ?_
      refine W.cond (.pl rfl) (fun hC15 => ?_) (fun hC15 => ?_)
      · replace hF11 := cpos hC15 hF11
        refine W.skip ?_
        refine W.go hK14 (.cons (i := 0) rfl (.cons (i := 7) rfl (.cons (i := 21) rfl (.cons (i := 22) rfl (.nil))))) ?_
        refine W.seq fun K16 hK16 => ?_
        refine W.block ?_
        -- region 7: serial.go:110
        refine W.seqR fun Q17 hQ17 => ?_
        refine WL.q (Y.move (.pl rfl)) rfl ?_
        refine WL.q (Y.assign (.pl rfl)) rfl ?_
        refine WL.next hQ17 (.cons (i := 0) rfl (.cons (i := 7) rfl (.cons (i := 8) rfl (.cons (i := 21) rfl (.cons (i := 22) rfl (.nil)))))) ?_
        -- region 8: serial.go:111
        refine W.reg ?_
        refine WL.q (Y.move (.pl rfl)) rfl ?_
        refine WL.q (Y.move (.pl rfl)) rfl ?_
        refine WL.step (WO.bsliceC (enc := (eI .i64)) (ys := ([v13] : List Int)) Try.underlying23 bz3 (.cons (.pl rfl) (.nil)) rfl (fun _ => rfl) rfl rfl (by decide) (by decide) rfl fun b14 => ?_)
        obtain ⟨hk17, hF11⟩ := ckh hF11
        refine WL.step (WO.appendC (enc := (eI .i64)) Try.underlying23 ap3 (fun _ => rfl) oneI (.pl rfl) rfl (.pl rfl) (i := 1) rfl (m2 := 0) rfl (hk17) rfl fun A15 c16 => ?_)
        refine WL.q (Y.assign (.pl rfl)) rfl ?_
        refine WL.nil ?_
        refine W.go hK16 (.cons (i := 0) rfl (.cons (i := 7) rfl (.cons (i := 21) rfl (.cons (i := 22) rfl (.nil))))) ?_
        -- region 9: serial.go:110
        refine W.reg ?_
        obtain ⟨hk18, hF11⟩ := ckh hF11
        refine WL.q (Y.add (.pl rfl) (.pl rfl) (ok64_lt (hk18))) rfl ?_
        refine WL.q (Y.move (.pl rfl)) rfl ?_
        refine WL.nil ?_
        obtain rfl := Option.some.inj hF11
        exact W.again4 hK12 (all12 ++ ([v13] : List Int)) (v13 + 1) A15 c16 k11 hN11 (Nat.lt_succ_self _) (.cons rfl (.cons rfl (.nil))) (.cons (i := 0) rfl (.cons (i := 21) rfl (.nil))) (fun wz hw => hw.pick [1] rfl)
      · replace hF11 := cneg hC15 hF11
        refine W.exit ?_
        obtain rfl := Option.some.inj hF11
        exact W.joinAt3 hK9 all12 A10 c11 (einr hN11) (.cons rfl (.nil)) (.cons (i := 0) rfl (.nil)) (fun wz hw => hw.pick [0] rfl)
    · -- behind
      rintro all9 A7 c8 rfl
      -- region 10: serial.go:113
      refine W.seqR fun Q20 hQ20 => ?_
      refine WL.q (Y.move (.pl rfl)) rfl ?_
      refine WL.q (Y.move (.pl rfl)) rfl ?_
      obtain ⟨r19, hr19, hF⟩ := bnd hF
      refine WL.step (WO.callM isGo37 (.cons (.pl rfl) (.cons (.pl rfl) (.nil))) rfl (fun wz hw => serial_sources_ok (hr19) wz (hs4.mono hw) (SlIn.ofRow (fun _ => rfl) hw (i := 0) rfl)) ?_)
      rintro ⟨A20, c21⟩ -
      refine WL.q (Y.assign (.pl rfl)) rfl ?_
      refine WL.next hQ20 (.cons (i := 0) rfl (.cons (i := 9) rfl (.nil))) ?_
      -- region 11: serial.go:114
      refine W.seqR fun Q21 hQ21 => ?_
      refine WL.step (WO.bsliceC (enc := (eI .i64)) (ys := ([0, 1, 2, 3, 4, 5] : List Int)) Try.underlying23 bz3 (.cons (.pl rfl) (.cons (.pl rfl) (.cons (.pl rfl) (.cons (.pl rfl) (.cons (.pl rfl) (.cons (.pl rfl) (.nil))))))) rfl (fun _ => rfl) rfl rfl (by decide) (by decide) rfl fun b22 => ?_)
      refine WL.q (Y.assign (.pl rfl)) rfl ?_
      refine WL.next hQ21 (.cons (i := 0) rfl (.cons (i := 9) rfl (.cons (i := 10) rfl (.nil)))) ?_
      obtain ⟨o22, hF22, hF⟩ := bnd hF
      refine W.join0 (Em := []) (M := []) (I := (.inl ()) = o22) (.nil) (fun K23 hK23 => ?_) ?_
      · -- up to
        -- region 12: serial.go:115
        refine W.seqR fun Q24 hQ24 => ?_
        refine WL.q (Y.assign (.pl rfl)) rfl ?_
        refine WL.next hQ24 (.cons (i := 0) rfl (.cons (i := 9) rfl (.cons (i := 10) rfl (.cons (i := 11) rfl (.nil))))) ?_
        refine W.block ?_
        refine W.loop2 (Em := fun (p23 : (List Int)) (more24 : Bool) => [(10, .slice (some ⟨b22, 0, none⟩) (p23).length (([0, 1, 2, 3, 4, 5] : List Int)).length), (11, .bool more24)]) (M := fun p23 more24 => [cR (eI .i64) 1 A20 c21 3 r19, cR (eI .i64) 1 (some ⟨b22, 0, none⟩) (([0, 1, 2, 3, 4, 5] : List Int)).length 3 p23]) (I := fun p23 more24 k25 => iter (serial_View_L7 N l1 r19) k25 (p23, more24) = some o22) ([0, 1, 2, 3, 4, 5] : List Int) true N (hF22) (.cons rfl (.cons rfl (.nil))) (.cons (i := 0) rfl (.cons (i := 9) rfl (.nil))) (fun wz hw => hw.pick [1, 0] rfl) (fun p23 more24 k25 hI K26 hK26 => ?_)
        obtain ⟨k25, t25, rfl, hF25, hN25⟩ := iter_step hI
        refine W.seq fun K27 hK27 => ?_
        -- region 13: serial.go:115
        refine W.seqR fun Q28 hQ28 => ?_
        refine WL.q (Y.move (.pl rfl)) rfl ?_
        refine WL.next hQ28 (.cons (i := 0) rfl (.cons (i := 9) rfl (.cons (i := 10) rfl (.cons (i := 34) rfl (.nil))))) ?_
        refine W.cond (.pl rfl) (fun hC29 => ?_) (fun hC29 => ?_)
        · replace hF25 := cpos hC29 hF25
          refine W.skip ?_
          refine W.go hK27 (.cons (i := 0) rfl (.cons (i := 9) rfl (.cons (i := 10) rfl (.nil)))) ?_
          refine W.seq fun K30 hK30 => ?_
          refine W.block ?_
          -- region 15: serial.go:116
          refine W.seqR fun Q31 hQ31 => ?_
          refine WL.q (Y.move (.pl rfl)) rfl ?_
          refine WL.q (Y.move (.pl rfl)) rfl ?_
          refine WL.q (Y.move (.pl rfl)) rfl ?_
          obtain ⟨r25, hr25, hF25⟩ := bnd hF25
          refine WL.step (WO.callM isGo39 (.cons (.pl rfl) (.cons (.pl rfl) (.nil))) rfl (fun wz hw => serial_sequence_ok (hr25) wz (hs4.mono hw) (SlIn.ofRow (fun _ => rfl) hw (i := 1) rfl)) ?_)
          rintro ⟨A26, c27⟩ -
          obtain ⟨r28, hr28, hF25⟩ := bnd hF25
          refine WL.step (WO.callM isGo37 (.cons (.pl rfl) (.cons (.pl rfl) (.nil))) rfl (fun wz hw => serial_sources_ok (hr28) wz (hs4.mono hw) (SlIn.ofRow (fun _ => rfl) hw (i := 0) rfl)) ?_)
          rintro ⟨A29, c30⟩ -
          refine WL.q (Y.move (.pl rfl)) rfl ?_
          obtain ⟨r31, hr31, hF25⟩ := bnd hF25
          refine WL.step (WO.callP isGo24 (.cons (.pl rfl) (.cons (.pl rfl) (.nil))) rfl (fun wz hw => slices_Equal_int_int_ok (hr31) wz (SlIn.ofRow (fun _ => rfl) hw (i := 0) rfl) (SlIn.ofRow (fun _ => rfl) hw (i := 2) rfl)) ?_)
          refine WL.next hQ31 (.cons (i := 0) rfl (.cons (i := 9) rfl (.cons (i := 10) rfl (.cons (i := 43) rfl (.nil))))) ?_
          refine W.cond (.pl rfl) (fun hC32 => ?_) (fun hC32 => ?_)
          · replace hF25 := cpos hC32 hF25
            -- region 16: serial.go:117
            refine W.seqR fun Q33 hQ33 => ?_
            refine WL.q (Y.move (.pl rfl)) rfl ?_
            refine WL.q (Y.assign (.pl rfl)) rfl ?_
            refine WL.q (Y.assign (.pl rfl)) rfl ?_
            refine WL.q (Y.assign (.pl rfl)) rfl ?_
            refine WL.next hQ33 (.cons (i := 2) rfl (.cons (i := 3) rfl (.cons (i := 4) rfl (.nil)))) ?_
            obtain rfl := Option.some.inj hF25
            obtain rfl := einr hN25
            obtain rfl := Option.some.inj hF
            refine W.retV (fn := Try.f17) (vs := [.slice (some ⟨b22, 0, none⟩) (p23).length (([0, 1, 2, 3, 4, 5] : List Int)).length, .bool true, .int .i64 0]) Try.results17 ⟨.tmp rfl, ⟨.tmp rfl, ⟨.tmp rfl, trivial⟩⟩⟩ (fun _ _ h => h) (fun wz hw => ?_)
            exact hR _ _ ⟨((some ⟨b22, 0, none⟩), (([0, 1, 2, 3, 4, 5] : List Int)).length), trivial, rfl, (hw.pick [3] rfl)⟩
          · replace hF25 := cneg hC32 hF25
            refine W.skip ?_
            refine W.go hK30 (.cons (i := 0) rfl (.cons (i := 9) rfl (.cons (i := 10) rfl (.nil)))) ?_
            -- region 14: serial.go:115
            refine W.reg ?_
            refine WL.q (Y.move (.pl rfl)) rfl ?_
            obtain ⟨r32, hr32, hF25⟩ := bnd hF25
            refine WL.step (WO.call (γ := Unit) (fun g => .bool r32.2) (fun g => [cR (eI .i64) 1 (some ⟨b22, 0, none⟩) (([0, 1, 2, 3, 4, 5] : List Int)).length 3 r32.1, cR (eI .i64) 1 A29 c30 3 r28, cR (eI .i64) 1 A26 c27 3 r25, cR (eI .i64) 1 A20 c21 3 r19]) (fun g => (r32.1).length = (p23).length) isGo38 (.cons (.pl rfl) (.nil)) rfl (fun wz hw => serial_next_ok (T := [cR (eI .i64) 1 A29 c30 3 r28, cR (eI .i64) 1 A26 c27 3 r25, cR (eI .i64) 1 A20 c21 3 r19]) (hr32) (hw.pick [3, 0, 1, 2] rfl) ) ?_)
            rintro _ hl33
            refine WL.q (Y.assign (.pl rfl)) rfl ?_
            refine WL.nil ?_
            obtain rfl := Option.some.inj hF25
            exact W.again2 hK26 r32.1 r32.2 k25 hN25 (Nat.lt_succ_self _) (.cons (eqSl (by simp [hl33])) (.cons rfl (.nil))) (.cons (i := 0) rfl (.cons (i := 9) rfl (.nil))) (fun wz hw => hw.pick [3, 0] rfl)
        · replace hF25 := cneg hC29 hF25
          refine W.exit ?_
          obtain rfl := Option.some.inj hF25
          exact W.joinAt0 hK23  (einr hN25) (.nil) (.nil) (fun wz hw => hw.pick [] rfl)
      · -- behind
        rintro  rfl
        -- region 17: serial.go:120
        refine W.seqR fun Q35 hQ35 => ?_
        refine WL.q (Y.assign (.pl rfl)) rfl ?_
        refine WL.q (Y.assign (.pl rfl)) rfl ?_
        refine WL.q (Y.assign (.pl rfl)) rfl ?_
        refine WL.next hQ35 (.cons (i := 2) rfl (.cons (i := 3) rfl (.cons (i := 4) rfl (.nil)))) ?_
        obtain rfl := Option.some.inj hF
        refine W.retV (fn := Try.f17) (vs := [.slice none 0 0, .bool false, .int .i64 0]) Try.results17 ⟨.tmp rfl, ⟨.tmp rfl, ⟨.tmp rfl, trivial⟩⟩⟩ (fun _ _ h => h) (fun wz hw => ?_)
        exact hR _ _ ⟨(none, 0), trivial, rfl, ((St.nilR (hw.pick [] rfl) (eI .i64) 1 3).pick [0] rfl)⟩

def alibkeep_ok_L3 (N : Nat) (l1 : (List Int)) : Int → Option (Int ⊕ (Unit ⊕ Bool))
  | v6 =>
    cond (decide (v6 < ((l1).length : Int)))
      (bd (ix l1 v6) fun (x7 : Int) =>
      cond (!(decide (x7 = 0)))
        (some (.inr (.inr false)))
        (ck (ok64 (v6 + 1)) <|
        some (.inl (v6 + 1))))
      (some (.inr (.inl ())))

def alibkeep_ok (N : Nat) (l1 : (List Int)) : Option Bool :=
  bd (α := (Unit ⊕ Bool)) (iter (alibkeep_ok_L3 N l1) N 0) <|
  Sum.elim (fun _ => 
    some true) (fun p => some p)

theorem alibkeep_ok_ok {N : Nat} {l1 : (List Int)} {res : Bool} (hF : alibkeep_ok N l1 = some res) (w : World) {v5 : Value} (hs4 : SlIn (eI .i64) 1 w v5 l1) :
    Pure Try.prog 20 [v5] w (.bool res) := by
  obtain ⟨A2, c3, rfl, hcc3, hs4⟩ := hs4.form
  refine W.enter (n := 14) Try.func20 rfl rfl Sub.refl (by simp) (St.start w) fun R hR => ?_
  unfold alibkeep_ok at hF
  -- region 0: order.go:22
  refine W.seqR fun Q1 hQ1 => ?_
  refine WL.q (Y.assign (.pl rfl)) rfl ?_
  refine WL.next hQ1 (.cons (i := 0) rfl (.nil)) ?_
  obtain ⟨o2, hF2, hF⟩ := bnd hF
  refine W.join0 (Em := []) (M := []) (I := (.inl ()) = o2) (.nil) (fun K3 hK3 => ?_) ?_
  · -- up to
    -- region 1: order.go:23
    refine W.seqR fun Q4 hQ4 => ?_
    refine WL.q (Y.move (.pl rfl)) rfl ?_
    refine WL.q (Y.len Try.underlying99 (.pl rfl)) rfl ?_
    refine WL.q (Y.move (.pl rfl)) rfl ?_
    refine WL.next hQ4 (.cons (i := 5) rfl (.cons (i := 6) rfl (.cons (i := 7) rfl (.nil)))) ?_
    refine W.block ?_
    refine W.loop1 (Em := fun (v6 : Int) => [(7, .int .i64 v6)]) (M := fun v6 => []) (I := fun v6 k5 => iter (alibkeep_ok_L3 N l1) k5 v6 = some o2) 0 N (hF2) (.cons rfl (.nil)) (.cons (i := 5) rfl (.cons (i := 6) rfl (.nil))) (fun wz hw => hw.pick [] rfl) (fun v6 k5 hI K6 hK6 => ?_)
    obtain ⟨k5, t5, rfl, hF5, hN5⟩ := iter_step hI
    -- region 2: order.go:23
    refine W.seqR fun Q7 hQ7 => ?_
    refine WL.q (Y.lss (.pl rfl) (.pl rfl)) rfl ?_
    refine WL.next hQ7 (.cons (i := 5) rfl (.cons (i := 6) rfl (.cons (i := 7) rfl (.cons (i := 8) rfl (.nil))))) ?_
    refine W.seq fun K8 hK8 => ?_
    refine W.cond (.pl rfl) (fun hC9 => ?_) (fun hC9 => ?_)
    · replace hF5 := cpos hC9 hF5
      refine W.skip ?_
      refine W.go hK8 (.cons (i := 5) rfl (.cons (i := 6) rfl (.cons (i := 7) rfl (.nil)))) ?_
      refine W.seq fun K10 hK10 => ?_
      refine W.block ?_
      -- region 3: order.go:23
      refine W.seqR fun Q11 hQ11 => ?_
      obtain ⟨x7, hx7, hF5⟩ := bnd hF5
      refine WL.q (Y.slEl Try.underlying99 cells25 hs4 (.pl rfl) (.pl rfl) (ix_lt (hx7))) rfl ?_
      refine WL.q (Y.loadS (enc := (eI .i64)) (v := .int .i64 x7) (j := 0) Try.underlying25 rfl hs4 (.pl rfl) (hx7) rfl rfl) rfl ?_
      refine WL.q (Y.assign (.pl rfl)) rfl ?_
      refine WL.next hQ11 (.cons (i := 4) rfl (.cons (i := 5) rfl (.cons (i := 6) rfl (.cons (i := 7) rfl (.nil))))) ?_
      -- region 4: order.go:24
      refine W.seqR fun Q12 hQ12 => ?_
      refine WL.q (Y.move (.pl rfl)) rfl ?_
      refine WL.q (Y.neq (.pl rfl) (.pl rfl)) rfl ?_
      refine WL.next hQ12 (.cons (i := 5) rfl (.cons (i := 6) rfl (.cons (i := 7) rfl (.cons (i := 12) rfl (.nil))))) ?_
      refine W.cond (.pl rfl) (fun hC13 => ?_) (fun hC13 => ?_)
      · replace hF5 := cpos hC13 hF5
        -- region 5: order.go:25
        refine W.seqR fun Q14 hQ14 => ?_
        refine WL.q (Y.assign (.pl rfl)) rfl ?_
        refine WL.next hQ14 (.cons (i := 2) rfl (.nil)) ?_
        obtain rfl := Option.some.inj hF5
        obtain rfl := einr hN5
        obtain rfl := Option.some.inj hF
        refine W.retV (fn := Try.f20) (vs := [.bool false]) Try.results20 ⟨.tmp rfl, trivial⟩ (fun _ _ h => h) (fun wz hw => ?_)
        exact hR _ _ ⟨rfl, (hw.pick [] rfl)⟩
      · replace hF5 := cneg hC13 hF5
        refine W.skip ?_
        refine W.go hK10 (.cons (i := 5) rfl (.cons (i := 6) rfl (.cons (i := 7) rfl (.nil)))) ?_
        -- region 6: order.go:23
        refine W.reg ?_
        obtain ⟨hk8, hF5⟩ := ckh hF5
        refine WL.q (Y.add (.pl rfl) (.pl rfl) (ok64_lt (hk8))) rfl ?_
        refine WL.q (Y.move (.pl rfl)) rfl ?_
        refine WL.nil ?_
        obtain rfl := Option.some.inj hF5
        exact W.again1 hK6 (v6 + 1) k5 hN5 (Nat.lt_succ_self _) (.cons rfl (.nil)) (.cons (i := 5) rfl (.cons (i := 6) rfl (.nil))) (fun wz hw => hw.pick [] rfl)
    · replace hF5 := cneg hC9 hF5
      refine W.exit ?_
      obtain rfl := Option.some.inj hF5
      exact W.joinAt0 hK3  (einr hN5) (.nil) (.nil) (fun wz hw => hw.pick [] rfl)
  · -- behind
    rintro  rfl
    -- region 7: order.go:28
    refine W.seqR fun Q16 hQ16 => ?_
    refine WL.q (Y.assign (.pl rfl)) rfl ?_
    refine WL.next hQ16 (.cons (i := 2) rfl (.nil)) ?_
    obtain rfl := Option.some.inj hF
    refine W.retV (fn := Try.f20) (vs := [.bool true]) Try.results20 ⟨.tmp rfl, trivial⟩ (fun _ _ h => h) (fun wz hw => ?_)
    exact hR _ _ ⟨rfl, (hw.pick [] rfl)⟩

def alibkeep_serialLives (N : Nat) : Option Bool :=
  bd (serial_Order N ([(Deed.mk 0 0 0), (Deed.mk 1 0 0), (Deed.mk 0 1 0), (Deed.mk 1 1 0)] : List Deed)) fun (r2 : ((List Int) × Int)) =>
  bd (serial_View N ([(Deed.mk 0 0 0), (Deed.mk 1 0 0), (Deed.mk 0 1 0), (Deed.mk 1 1 0)] : List Deed)) fun (r5 : ((List Int) × Bool × Int)) =>
  ck (slB (([(Deed.mk 0 0 0), (Deed.mk 1 0 0), (Deed.mk 0 1 0), (Deed.mk 1 1 0)] : List Deed)).length 0 3) <|
  bd (serial_Order N (([(Deed.mk 0 0 0), (Deed.mk 1 0 0), (Deed.mk 0 1 0), (Deed.mk 1 1 0)] : List Deed).take (3 : Int).toNat)) fun (r9 : ((List Int) × Int)) =>
  bd (serial_Locks N ([(Deed.mk 0 2 0), (Deed.mk 0 0 0), (Deed.mk 0 4 0), (Deed.mk 0 3 1)] : List Deed)) fun (r13 : (Bool × Bool × Int)) =>
  bd (α := Bool) (cond ((decide (r2.2 = 4)) == true)
      (bd (alibkeep_ok N ([r5.2.2, r9.2, r13.2.2] : List Int)) fun (r16 : Bool) =>
      cond ((((decide (r2.2 = 4)) && r16) && (!r5.2.1)) == true)
        (bd (slices_Equal_int_int N r9.1 ([1, 0, 2, 3, 4, 5] : List Int)) fun (r18 : Bool) =>
        some ((((((decide (r2.2 = 4)) && r16) && (!r5.2.1)) && r18) && r13.1) && (!r13.2.1)))
        (some ((((((decide (r2.2 = 4)) && r16) && (!r5.2.1)) && false) && r13.1) && (!r13.2.1))))
      (cond ((((decide (r2.2 = 4)) && false) && (!r5.2.1)) == true)
        (bd (slices_Equal_int_int N r9.1 ([1, 0, 2, 3, 4, 5] : List Int)) fun (r20 : Bool) =>
        some ((((((decide (r2.2 = 4)) && false) && (!r5.2.1)) && r20) && r13.1) && (!r13.2.1)))
        (some ((((((decide (r2.2 = 4)) && false) && (!r5.2.1)) && false) && r13.1) && (!r13.2.1))))) <|
  fun (v14 : Bool) => 
    some v14

theorem alibkeep_serialLives_ok {N : Nat} {res : Bool} (hF : alibkeep_serialLives N = some res) (w : World) :
    Pure Try.prog 18 [] w (.bool res) := by
  refine W.enter (n := 69) Try.func18 rfl rfl Sub.refl (by simp) (St.start w) fun R hR => ?_
  unfold alibkeep_serialLives at hF
  -- region 0: serial.go:12
  refine W.seqR fun Q1 hQ1 => ?_
  refine WL.q (Y.assign (.pl rfl)) rfl ?_
  refine WL.next hQ1 (.nil) ?_
  -- region 1: serial.go:13
  refine W.seqR fun Q2 hQ2 => ?_
  refine WL.q (Y.build (cs := (encDeed (Deed.mk 0 0 0)).toArray) shape46 (.cons (.pl rfl) (.nil)) (one_parts ⟨rfl, trivial⟩) rfl) rfl ?_
  refine WL.q (Y.build (cs := (encDeed (Deed.mk 1 0 0)).toArray) shape46 (.cons (.pl rfl) (.nil)) (one_parts ⟨rfl, trivial⟩) rfl) rfl ?_
  refine WL.q (Y.build (cs := (encDeed (Deed.mk 0 1 0)).toArray) shape46 (.cons (.pl rfl) (.cons (.pl rfl) (.nil))) (one_parts ⟨rfl, ⟨rfl, trivial⟩⟩) rfl) rfl ?_
  refine WL.q (Y.build (cs := (encDeed (Deed.mk 1 1 0)).toArray) shape46 (.cons (.pl rfl) (.cons (.pl rfl) (.nil))) (one_parts ⟨rfl, ⟨rfl, trivial⟩⟩) rfl) rfl ?_
  refine WL.step (WO.bsliceC (enc := encDeed) (ys := ([(Deed.mk 0 0 0), (Deed.mk 1 0 0), (Deed.mk 0 1 0), (Deed.mk 1 1 0)] : List Deed)) Try.underlying40 bz46 (.cons (.pl rfl) (.cons (.pl rfl) (.cons (.pl rfl) (.cons (.pl rfl) (.nil))))) rfl lenDeed rfl rfl (by decide) (by decide) rfl fun b1 => ?_)
  refine WL.q (Y.assign (.pl rfl)) rfl ?_
  refine WL.next hQ2 (.cons (i := 1) rfl (.nil)) ?_
  -- region 2: serial.go:14
  refine W.seqR fun Q3 hQ3 => ?_
  refine WL.q (Y.move (.pl rfl)) rfl ?_
  obtain ⟨r2, hr2, hF⟩ := bnd hF
  refine WL.step (WO.callM isGo16 (.cons (.pl rfl) (.nil)) rfl (fun wz hw => serial_Order_ok (hr2) wz (SlIn.ofRow lenDeed hw (i := 0) rfl)) ?_)
  rintro ⟨A3, c4⟩ -
  refine WL.q (Y.move (.pl rfl)) rfl ?_
  refine WL.q (Y.extract (.pl rfl) rfl) rfl ?_
  refine WL.q (Y.extract (.pl rfl) rfl) rfl ?_
  refine WL.q (Y.assign (.pl rfl)) rfl ?_
  refine WL.q (Y.assign (.pl rfl)) rfl ?_
  refine WL.next hQ3 (.cons (i := 1) rfl (.cons (i := 3) rfl (.nil))) ?_
  -- region 3: serial.go:15
  refine W.seqR fun Q4 hQ4 => ?_
  refine WL.q (Y.move (.pl rfl)) rfl ?_
  obtain ⟨r5, hr5, hF⟩ := bnd hF
  refine WL.step (WO.callM isGo17 (.cons (.pl rfl) (.nil)) rfl (fun wz hw => serial_View_ok (hr5) wz (SlIn.ofRow lenDeed hw (i := 1) rfl)) ?_)
  rintro ⟨A6, c7⟩ -
  refine WL.q (Y.move (.pl rfl)) rfl ?_
  refine WL.q (Y.extract (.pl rfl) rfl) rfl ?_
  refine WL.q (Y.extract (.pl rfl) rfl) rfl ?_
  refine WL.q (Y.extract (.pl rfl) rfl) rfl ?_
  refine WL.q (Y.assign (.pl rfl)) rfl ?_
  refine WL.q (Y.assign (.pl rfl)) rfl ?_
  refine WL.q (Y.assign (.pl rfl)) rfl ?_
  refine WL.next hQ4 (.cons (i := 1) rfl (.cons (i := 3) rfl (.cons (i := 5) rfl (.cons (i := 6) rfl (.nil))))) ?_
  -- region 4: serial.go:16
  refine W.seqR fun Q5 hQ5 => ?_
  refine WL.q (Y.move (.pl rfl)) rfl ?_
  obtain ⟨hk8, hF⟩ := ckh hF
  refine WL.q (Y.sliceR0 Try.underlying40 cells46 (i := 2) rfl (.pl rfl) rfl (.pl rfl) (hk8)) rfl ?_
  obtain ⟨r9, hr9, hF⟩ := bnd hF
  refine WL.step (WO.callM isGo16 (.cons (.pl rfl) (.nil)) rfl (fun wz hw => serial_Order_ok (hr9) wz (SlIn.sub0 (SlIn.ofRow (enc := encDeed) (sz := 3) lenDeed hw (i := 2) rfl) (slB_nat0 (hk8)))) ?_)
  rintro ⟨A10, c11⟩ -
  refine WL.q (Y.move (.pl rfl)) rfl ?_
  refine WL.q (Y.extract (.pl rfl) rfl) rfl ?_
  refine WL.q (Y.extract (.pl rfl) rfl) rfl ?_
  refine WL.q (Y.assign (.pl rfl)) rfl ?_
  refine WL.q (Y.assign (.pl rfl)) rfl ?_
  refine WL.next hQ5 (.cons (i := 3) rfl (.cons (i := 5) rfl (.cons (i := 6) rfl (.cons (i := 7) rfl (.cons (i := 8) rfl (.nil)))))) ?_
  -- region 5: serial.go:17
  refine W.seqR fun Q6 hQ6 => ?_
  refine WL.q (Y.build (cs := (encDeed (Deed.mk 0 2 0)).toArray) shape46 (.cons (.pl rfl) (.nil)) (one_parts ⟨rfl, trivial⟩) rfl) rfl ?_
  refine WL.q (Y.build (cs := (encDeed (Deed.mk 0 0 0)).toArray) shape46 (.nil) (one_parts trivial) rfl) rfl ?_
  refine WL.q (Y.build (cs := (encDeed (Deed.mk 0 4 0)).toArray) shape46 (.cons (.pl rfl) (.nil)) (one_parts ⟨rfl, trivial⟩) rfl) rfl ?_
  refine WL.q (Y.build (cs := (encDeed (Deed.mk 0 3 1)).toArray) shape46 (.cons (.pl rfl) (.cons (.pl rfl) (.nil))) (one_parts ⟨rfl, ⟨rfl, trivial⟩⟩) rfl) rfl ?_
  refine WL.step (WO.bsliceC (enc := encDeed) (ys := ([(Deed.mk 0 2 0), (Deed.mk 0 0 0), (Deed.mk 0 4 0), (Deed.mk 0 3 1)] : List Deed)) Try.underlying40 bz46 (.cons (.pl rfl) (.cons (.pl rfl) (.cons (.pl rfl) (.cons (.pl rfl) (.nil))))) rfl lenDeed rfl rfl (by decide) (by decide) rfl fun b12 => ?_)
  obtain ⟨r13, hr13, hF⟩ := bnd hF
  refine WL.step (WO.callP isGo40 (.cons (.pl rfl) (.nil)) rfl (fun wz hw => serial_Locks_ok (hr13) wz (SlIn.ofRow lenDeed hw (i := 0) rfl)) ?_)
  refine WL.q (Y.move (.pl rfl)) rfl ?_
  refine WL.q (Y.extract (.pl rfl) rfl) rfl ?_
  refine WL.q (Y.extract (.pl rfl) rfl) rfl ?_
  refine WL.q (Y.extract (.pl rfl) rfl) rfl ?_
  refine WL.q (Y.assign (.pl rfl)) rfl ?_
  refine WL.q (Y.assign (.pl rfl)) rfl ?_
  refine WL.q (Y.assign (.pl rfl)) rfl ?_
  refine WL.next hQ6 (.cons (i := 3) rfl (.cons (i := 5) rfl (.cons (i := 6) rfl (.cons (i := 7) rfl (.cons (i := 8) rfl (.cons (i := 9) rfl (.cons (i := 10) rfl (.cons (i := 11) rfl (.nil))))))))) ?_
  obtain ⟨o7, hF7, hF⟩ := bnd hF
  refine W.join1 (Em := fun (v14 : Bool) => [(0, .bool v14)]) (M := fun v14 => []) (I := fun v14 => v14 = o7) (.nil) (fun K8 hK8 => ?_) ?_
  · -- up to
    -- region 6: serial.go:18
    refine W.reg ?_
    refine WL.q (Y.move (.pl rfl)) rfl ?_
    refine WL.q (Y.eql (.pl rfl) (.pl rfl)) rfl ?_
    refine WL.q (Y.move (.pl rfl)) rfl ?_
    refine WL.g (.pl rfl rfl rfl) (fun hg => Y.move (.pl rfl)) rfl ?_
    refine WL.g (.pl rfl rfl rfl) (fun hg => Y.move (.pl rfl)) rfl ?_
    refine WL.g (.pl rfl rfl rfl) (fun hg => Y.move (.pl rfl)) rfl ?_
    refine bsplit ((decide (r2.2 = 4)) == true) (fun hg9 => ?_) (fun hg9 => ?_)
    · replace hF7 := cpos hg9 hF7
      refine WL.gd (.pl rfl rfl rfl) (hg9) ?_
      refine WL.step (WO.bsliceC (enc := (eI .i64)) (ys := ([r5.2.2, r9.2, r13.2.2] : List Int)) Try.underlying99 bz25 (.cons (.gd (hg9) rfl) (.cons (.gd (hg9) rfl) (.cons (.gd (hg9) rfl) (.nil)))) rfl (fun _ => rfl) rfl rfl (by decide) (by decide) rfl fun b15 => ?_)
      refine WL.gd (.pl rfl rfl rfl) (hg9) ?_
      obtain ⟨r16, hr16, hF7⟩ := bnd hF7
      refine WL.step (WO.callP isGo20 (.cons (.pl rfl) (.nil)) rfl (fun wz hw => alibkeep_ok_ok (hr16) wz (SlIn.ofRow (fun _ => rfl) hw (i := 0) rfl)) ?_)
      refine WL.q (Y.and (.pl rfl) (fun _ => .pl rfl)) rfl ?_
      refine WL.q (Y.move (.pl rfl)) rfl ?_
      refine WL.g (.pl rfl rfl rfl) (fun hg => Y.move (.pl rfl)) rfl ?_
      refine WL.g (.pl rfl rfl rfl) (fun hg => Y.not (.gd (hg) rfl)) rfl ?_
      refine WL.q (Y.and (.pl rfl) (fun h2 => .gd (eqt h2) rfl)) rfl ?_
      refine WL.q (Y.move (.pl rfl)) rfl ?_
      refine WL.g (.pl rfl rfl rfl) (fun hg => Y.move (.pl rfl)) rfl ?_
      refine bsplit ((((decide (r2.2 = 4)) && r16) && (!r5.2.1)) == true) (fun hg10 => ?_) (fun hg10 => ?_)
      · replace hF7 := cpos hg10 hF7
        refine WL.gd (.pl rfl rfl rfl) (hg10) ?_
        refine WL.step (WO.bsliceC (enc := (eI .i64)) (ys := ([1, 0, 2, 3, 4, 5] : List Int)) Try.underlying23 bz3 (.cons (.pl rfl) (.cons (.pl rfl) (.cons (.pl rfl) (.cons (.pl rfl) (.cons (.pl rfl) (.cons (.pl rfl) (.nil))))))) rfl (fun _ => rfl) rfl rfl (by decide) (by decide) rfl fun b17 => ?_)
        refine WL.gd (.pl rfl rfl rfl) (hg10) ?_
        obtain ⟨r18, hr18, hF7⟩ := bnd hF7
        refine WL.step (WO.callP isGo24 (.cons (.gd (hg10) rfl) (.cons (.pl rfl) (.nil))) rfl (fun wz hw => slices_Equal_int_int_ok (hr18) wz (SlIn.ofRow (fun _ => rfl) hw (i := 3) rfl) (SlIn.ofRow (fun _ => rfl) hw (i := 0) rfl)) ?_)
        refine WL.q (Y.and (.pl rfl) (fun _ => .pl rfl)) rfl ?_
        refine WL.q (Y.move (.pl rfl)) rfl ?_
        refine WL.g (.pl rfl rfl rfl) (fun hg => Y.move (.pl rfl)) rfl ?_
        refine WL.q (Y.and (.pl rfl) (fun h2 => .gd (eqt h2) rfl)) rfl ?_
        refine WL.q (Y.move (.pl rfl)) rfl ?_
        refine WL.g (.pl rfl rfl rfl) (fun hg => Y.move (.pl rfl)) rfl ?_
        refine WL.g (.pl rfl rfl rfl) (fun hg => Y.not (.gd (hg) rfl)) rfl ?_
        refine WL.q (Y.and (.pl rfl) (fun h2 => .gd (eqt h2) rfl)) rfl ?_
        refine WL.q (Y.assign (.pl rfl)) rfl ?_
        refine WL.nil ?_
        exact W.joinAt1 hK8 ((((((decide (r2.2 = 4)) && r16) && (!r5.2.1)) && r18) && r13.1) && (!r13.2.1)) (Option.some.inj hF7) (.cons rfl (.nil)) (.nil) (fun wz hw => hw.pick [] rfl)
      · replace hF7 := cneg hg10 hF7
        refine WL.gn (.pl rfl rfl rfl) hg10 rfl ?_
        refine WL.gn (.pl rfl rfl rfl) hg10 rfl ?_
        refine WL.q (Y.and (b := false) (.pl rfl) (fun h2 => (gabsA hg10 h2).elim)) rfl ?_
        refine WL.q (Y.move (.pl rfl)) rfl ?_
        refine WL.g (.pl rfl rfl rfl) (fun hg => Y.move (.pl rfl)) rfl ?_
        refine WL.q (Y.and (.pl rfl) (fun h2 => .gd (eqt h2) rfl)) rfl ?_
        refine WL.q (Y.move (.pl rfl)) rfl ?_
        refine WL.g (.pl rfl rfl rfl) (fun hg => Y.move (.pl rfl)) rfl ?_
        refine WL.g (.pl rfl rfl rfl) (fun hg => Y.not (.gd (hg) rfl)) rfl ?_
        refine WL.q (Y.and (.pl rfl) (fun h2 => .gd (eqt h2) rfl)) rfl ?_
        refine WL.q (Y.assign (.pl rfl)) rfl ?_
        refine WL.nil ?_
        exact W.joinAt1 hK8 ((((((decide (r2.2 = 4)) && r16) && (!r5.2.1)) && false) && r13.1) && (!r13.2.1)) (Option.some.inj hF7) (.cons rfl (.nil)) (.nil) (fun wz hw => hw.pick [] rfl)
    · replace hF7 := cneg hg9 hF7
      refine WL.gn (.pl rfl rfl rfl) hg9 rfl ?_
      refine WL.gn (.pl rfl rfl rfl) hg9 rfl ?_
      refine WL.q (Y.and (b := false) (.pl rfl) (fun h2 => (gabsA hg9 h2).elim)) rfl ?_
      refine WL.q (Y.move (.pl rfl)) rfl ?_
      refine WL.g (.pl rfl rfl rfl) (fun hg => Y.move (.pl rfl)) rfl ?_
      refine WL.g (.pl rfl rfl rfl) (fun hg => Y.not (.gd (hg) rfl)) rfl ?_
      refine WL.q (Y.and (.pl rfl) (fun h2 => .gd (eqt h2) rfl)) rfl ?_
      refine WL.q (Y.move (.pl rfl)) rfl ?_
      refine WL.g (.pl rfl rfl rfl) (fun hg => Y.move (.pl rfl)) rfl ?_
      refine bsplit ((((decide (r2.2 = 4)) && false) && (!r5.2.1)) == true) (fun hg11 => ?_) (fun hg11 => ?_)
      · replace hF7 := cpos hg11 hF7
        refine WL.gd (.pl rfl rfl rfl) (hg11) ?_
        refine WL.step (WO.bsliceC (enc := (eI .i64)) (ys := ([1, 0, 2, 3, 4, 5] : List Int)) Try.underlying23 bz3 (.cons (.pl rfl) (.cons (.pl rfl) (.cons (.pl rfl) (.cons (.pl rfl) (.cons (.pl rfl) (.cons (.pl rfl) (.nil))))))) rfl (fun _ => rfl) rfl rfl (by decide) (by decide) rfl fun b19 => ?_)
        refine WL.gd (.pl rfl rfl rfl) (hg11) ?_
        obtain ⟨r20, hr20, hF7⟩ := bnd hF7
        refine WL.step (WO.callP isGo24 (.cons (.gd (hg11) rfl) (.cons (.pl rfl) (.nil))) rfl (fun wz hw => slices_Equal_int_int_ok (hr20) wz (SlIn.ofRow (fun _ => rfl) hw (i := 2) rfl) (SlIn.ofRow (fun _ => rfl) hw (i := 0) rfl)) ?_)
        refine WL.q (Y.and (.pl rfl) (fun _ => .pl rfl)) rfl ?_
        refine WL.q (Y.move (.pl rfl)) rfl ?_
        refine WL.g (.pl rfl rfl rfl) (fun hg => Y.move (.pl rfl)) rfl ?_
        refine WL.q (Y.and (.pl rfl) (fun h2 => .gd (eqt h2) rfl)) rfl ?_
        refine WL.q (Y.move (.pl rfl)) rfl ?_
        refine WL.g (.pl rfl rfl rfl) (fun hg => Y.move (.pl rfl)) rfl ?_
        refine WL.g (.pl rfl rfl rfl) (fun hg => Y.not (.gd (hg) rfl)) rfl ?_
        refine WL.q (Y.and (.pl rfl) (fun h2 => .gd (eqt h2) rfl)) rfl ?_
        refine WL.q (Y.assign (.pl rfl)) rfl ?_
        refine WL.nil ?_
        exact W.joinAt1 hK8 ((((((decide (r2.2 = 4)) && false) && (!r5.2.1)) && r20) && r13.1) && (!r13.2.1)) (Option.some.inj hF7) (.cons rfl (.nil)) (.nil) (fun wz hw => hw.pick [] rfl)
      · replace hF7 := cneg hg11 hF7
        refine WL.gn (.pl rfl rfl rfl) hg11 rfl ?_
        refine WL.gn (.pl rfl rfl rfl) hg11 rfl ?_
        refine WL.q (Y.and (b := false) (.pl rfl) (fun h2 => (gabsA hg11 h2).elim)) rfl ?_
        refine WL.q (Y.move (.pl rfl)) rfl ?_
        refine WL.g (.pl rfl rfl rfl) (fun hg => Y.move (.pl rfl)) rfl ?_
        refine WL.q (Y.and (.pl rfl) (fun h2 => .gd (eqt h2) rfl)) rfl ?_
        refine WL.q (Y.move (.pl rfl)) rfl ?_
        refine WL.g (.pl rfl rfl rfl) (fun hg => Y.move (.pl rfl)) rfl ?_
        refine WL.g (.pl rfl rfl rfl) (fun hg => Y.not (.gd (hg) rfl)) rfl ?_
        refine WL.q (Y.and (.pl rfl) (fun h2 => .gd (eqt h2) rfl)) rfl ?_
        refine WL.q (Y.assign (.pl rfl)) rfl ?_
        refine WL.nil ?_
        exact W.joinAt1 hK8 ((((((decide (r2.2 = 4)) && false) && (!r5.2.1)) && false) && r13.1) && (!r13.2.1)) (Option.some.inj hF7) (.cons rfl (.nil)) (.nil) (fun wz hw => hw.pick [] rfl)
  · -- behind
    rintro v14 rfl
    obtain rfl := Option.some.inj hF
    refine W.retV (fn := Try.f18) (vs := [.bool v14]) Try.results18 ⟨.tmp rfl, trivial⟩ (fun _ _ h => h) (fun wz hw => ?_)
    exact hR _ _ ⟨rfl, (hw.pick [] rfl)⟩

end Go.Proofs.Ytkmmagekepoapaa
