/- Search: what its code computes, and the walks; ThreadsRight. -/
import Derived.Test.YteklmleiiiodfaaT2
set_option linter.unusedVariables false
set_option linter.unusedSimpArgs false
set_option linter.unusedSectionVars false
set_option maxRecDepth 100000
namespace Go.Proofs.Yteklmleiiiodfaa
open Go.RowKit
structure Rel where
  n : Int
  after : List Int
deriving DecidableEq
def Rel.z : Rel := ⟨0, []⟩
def encRel (x : Rel) : List Value := (Value.int .i64 x.n :: ((encA 12 (eI .u16) 0) x.after ++ []))
theorem lenRel (x : Rel) : (encRel x).length = 13 := rfl
theorem oneRel : ∀ x, ∀ v ∈ encRel x, v.oneCell' = true := fun x => (one_cons rfl (one_app ((oneA oneI) _) one_nil))
theorem cells112 : Try.prog.cellsOf 112 = 0 + 1 := by kernel_rfl
theorem cells113 : Try.prog.cellsOf 113 = 11 + 1 := by kernel_rfl
theorem cells115 : Try.prog.cellsOf 115 = 12 + 1 := by kernel_rfl
theorem cells181 : Try.prog.cellsOf 181 = 0 + 1 := by kernel_rfl
theorem cells215 : Try.prog.cellsOf 215 = 0 + 1 := by kernel_rfl
theorem isGo44 : IsGo Try.prog 44 := ⟨_, Try.func44, by kernel_rfl, rfl⟩
theorem isGo59 : IsGo Try.prog 59 := ⟨_, Try.func59, by kernel_rfl, rfl⟩
theorem isGo60 : IsGo Try.prog 60 := ⟨_, Try.func60, by kernel_rfl, rfl⟩
theorem isGo61 : IsGo Try.prog 61 := ⟨_, Try.func61, by kernel_rfl, rfl⟩
theorem isGo76 : IsGo Try.prog 76 := ⟨_, Try.func76, by kernel_rfl, rfl⟩
theorem isGo94 : IsGo Try.prog 94 := ⟨_, Try.func94, by kernel_rfl, rfl⟩
theorem isGo95 : IsGo Try.prog 95 := ⟨_, Try.func95, by kernel_rfl, rfl⟩
theorem isGo111 : IsGo Try.prog 111 := ⟨_, Try.func111, by kernel_rfl, rfl⟩
theorem isGo125 : IsGo Try.prog 125 := ⟨_, Try.func125, by kernel_rfl, rfl⟩
theorem isGo126 : IsGo Try.prog 126 := ⟨_, Try.func126, by kernel_rfl, rfl⟩
theorem isGo127 : IsGo Try.prog 127 := ⟨_, Try.func127, by kernel_rfl, rfl⟩
theorem zero4 : ∃ i, Try.prog.info? 4 = some i ∧ i.zero = some (Value.bool false) := ⟨_, rfl, by kernel_rfl⟩
theorem zero77 : ∃ i, Try.prog.info? 77 = some i ∧ i.zero = some (Value.agg #[(Value.int .i64 0), (Value.int .i64 0)]) := ⟨_, rfl, by kernel_rfl⟩
theorem zero115 : ∃ i, Try.prog.info? 115 = some i ∧ i.zero = some (Value.agg #[(Value.int .i64 0), (Value.int .u16 0), (Value.int .u16 0), (Value.int .u16 0), (Value.int .u16 0), (Value.int .u16 0), (Value.int .u16 0), (Value.int .u16 0), (Value.int .u16 0), (Value.int .u16 0), (Value.int .u16 0), (Value.int .u16 0), (Value.int .u16 0)]) := ⟨_, rfl, by kernel_rfl⟩
theorem bz5 : ∃ i, Try.prog.info? 5 = some i ∧ i.zero = some (Value.int .u8 0) ∧ i.size = 1 := ⟨_, rfl, by kernel_rfl, by kernel_rfl⟩
theorem bz217 : ∃ i, Try.prog.info? 217 = some i ∧ i.zero = some (Value.agg #[(Value.int .i64 0), (Value.int .i64 0), (Value.int .i64 0)]) ∧ i.size = 3 := ⟨_, rfl, by kernel_rfl, by kernel_rfl⟩
theorem mka215 : ∃ i z, Try.prog.info? 215 = some i ∧ i.zero = some z ∧ i.size = 1 ∧ i.bytes = 24 ∧ z.cells = ([(Value.slice none 0 0)] : List Value).toArray ∧ ([(Value.slice none 0 0)] : List Value).length = 1 ∧ 0 < 1 := ⟨_, (Value.slice none 0 0), rfl, by kernel_rfl, by kernel_rfl, by kernel_rfl, rfl, rfl, by decide⟩
theorem ap5 : ∃ i z, Try.prog.info? 5 = some i ∧ i.zero = some z ∧ i.size = 1 ∧ i.bytes = 1 ∧ z.cells.size = 1 ∧ 0 < 1 := ⟨_, (Value.int .u8 0), rfl, by kernel_rfl, by kernel_rfl, by kernel_rfl, by kernel_rfl, by decide⟩
theorem ap217 : ∃ i z, Try.prog.info? 217 = some i ∧ i.zero = some z ∧ i.size = 3 ∧ i.bytes = 24 ∧ z.cells.size = 3 ∧ 0 < 3 := ⟨_, (Value.agg #[(Value.int .i64 0), (Value.int .i64 0), (Value.int .i64 0)]), rfl, by kernel_rfl, by kernel_rfl, by kernel_rfl, by kernel_rfl, by decide⟩
theorem shape115 : Shape Try.prog 115 [(0, 1), (1, 12)] #[(Value.int .i64 0), (Value.int .u16 0), (Value.int .u16 0), (Value.int .u16 0), (Value.int .u16 0), (Value.int .u16 0), (Value.int .u16 0), (Value.int .u16 0), (Value.int .u16 0), (Value.int .u16 0), (Value.int .u16 0), (Value.int .u16 0), (Value.int .u16 0)] := ⟨_, _, Value.agg #[(Value.int .i64 0), (Value.int .u16 0), (Value.int .u16 0), (Value.int .u16 0), (Value.int .u16 0), (Value.int .u16 0), (Value.int .u16 0), (Value.int .u16 0), (Value.int .u16 0), (Value.int .u16 0), (Value.int .u16 0), (Value.int .u16 0), (Value.int .u16 0)], Try.underlying115, rfl, by kernel_rfl, rfl, by kernel_rfl, by decide⟩
theorem shape183 : Shape Try.prog 183 [(0, 1), (1, 1), (2, 13), (15, 1), (16, 1), (17, 1), (18, 1)] #[(Value.slice none 0 0), (Value.slice none 0 0), (Value.int .i64 0), (Value.int .u16 0), (Value.int .u16 0), (Value.int .u16 0), (Value.int .u16 0), (Value.int .u16 0), (Value.int .u16 0), (Value.int .u16 0), (Value.int .u16 0), (Value.int .u16 0), (Value.int .u16 0), (Value.int .u16 0), (Value.int .u16 0), (Value.slice none 0 0), (Value.int .u16 0), (Value.slice none 0 0), (Value.map none)] := ⟨_, _, Value.agg #[(Value.slice none 0 0), (Value.slice none 0 0), (Value.int .i64 0), (Value.int .u16 0), (Value.int .u16 0), (Value.int .u16 0), (Value.int .u16 0), (Value.int .u16 0), (Value.int .u16 0), (Value.int .u16 0), (Value.int .u16 0), (Value.int .u16 0), (Value.int .u16 0), (Value.int .u16 0), (Value.int .u16 0), (Value.slice none 0 0), (Value.int .u16 0), (Value.slice none 0 0), (Value.map none)], Try.underlying183, rfl, by kernel_rfl, rfl, by kernel_rfl, by decide⟩
theorem shape217 : Shape Try.prog 217 [(0, 1), (1, 1), (2, 1)] #[(Value.int .i64 0), (Value.int .i64 0), (Value.int .i64 0)] := ⟨_, _, Value.agg #[(Value.int .i64 0), (Value.int .i64 0), (Value.int .i64 0)], Try.underlying217, rfl, by kernel_rfl, rfl, by kernel_rfl, by decide⟩
def search_Calls (N : Nat) (types1 : (List Int)) (l6 : (List Event)) : Option ((List Call) × Int) :=
  bd (history_Calls N types1 l6) fun (r11 : ((List Call) × Int × Int)) =>
  cond (!(decide (r11.2.2 = 0)))
    (some ([], r11.2.2))
    (cond (decide (9 < ((r11.1).length : Int)))
      (some ([], 2))
      (some (r11.1, 0)))

theorem search_Calls_ok {N : Nat} {types1 : (List Int)} {l6 : (List Event)} {res : ((List Call) × Int)} (hF : search_Calls N types1 l6 = some res) (w : World) {v5 : Value} (hs4 : SlIn (eI .i64) 1 w v5 types1) {v10 : Value} (hs9 : SlIn encEvent 4 w v10 l6) :
    Made Try.prog 59 [v5, v10] w (fun g : (Option Addr × Nat) => .tuple #[.slice g.1 (res.1).length g.2, .int .i64 res.2]) (fun g => [cR encCall 7 g.1 g.2 51 res.1]) (fun g => True) := by
  obtain ⟨A2, c3, rfl, hcc3, hs4⟩ := hs4.form
  obtain ⟨A7, c8, rfl, hcc8, hs9⟩ := hs9.form
  refine W.enter (n := 25) Try.func59 rfl rfl Sub.refl (by simp) (St.start w) fun R hR => ?_
  unfold search_Calls at hF
  -- region 0: search.go:13
  refine W.seqR fun Q1 hQ1 => ?_
  refine WL.q (Y.assign (.pl rfl)) rfl ?_
  refine WL.q (Y.assign (.pl rfl)) rfl ?_
  refine WL.next hQ1 (.cons (i := 0) rfl (.cons (i := 1) rfl (.nil))) ?_
  -- region 1: search.go:14
  refine W.seqR fun Q2 hQ2 => ?_
  refine WL.q (Y.move (.pl rfl)) rfl ?_
  refine WL.q (Y.move (.pl rfl)) rfl ?_
  obtain ⟨r11, hr11, hF⟩ := bnd hF
  refine WL.step (WO.callM isGo27 (.cons (.pl rfl) (.cons (.pl rfl) (.nil))) rfl (fun wz hw => history_Calls_ok (hr11) wz (hs4.mono hw) (hs9.mono hw)) ?_)
  rintro ⟨A12, c13⟩ -
  refine WL.q (Y.move (.pl rfl)) rfl ?_
  refine WL.q (Y.extract (.pl rfl) rfl) rfl ?_
  refine WL.q (Y.extract (.pl rfl) rfl) rfl ?_
  refine WL.q (Y.extract (.pl rfl) rfl) rfl ?_
  refine WL.q (Y.assign (.pl rfl)) rfl ?_
  refine WL.q (Y.assign (.pl rfl)) rfl ?_
  refine WL.q (Y.assign (.pl rfl)) rfl ?_
  refine WL.next hQ2 (.cons (i := 6) rfl (.cons (i := 8) rfl (.nil))) ?_
  refine W.seq fun K3 hK3 => ?_
  refine W.block ?_
  -- region 2: search.go:16
  refine W.seqR fun Q4 hQ4 => ?_
  refine WL.q (Y.move (.pl rfl)) rfl ?_
  refine WL.q (Y.neq (.pl rfl) (.pl rfl)) rfl ?_
  refine WL.q (Y.assign (.pl rfl)) rfl ?_
  refine WL.next hQ4 (.cons (i := 6) rfl (.cons (i := 8) rfl (.cons (i := 16) rfl (.nil)))) ?_
  refine W.cond (.pl rfl) (fun hC5 => ?_) (fun hC5 => ?_)
  · replace hF := cpos hC5 hF
    -- region 3: search.go:17
    refine W.seqR fun Q6 hQ6 => ?_
    refine WL.q (Y.move (.pl rfl)) rfl ?_
    refine WL.q (Y.assign (.pl rfl)) rfl ?_
    refine WL.q (Y.assign (.pl rfl)) rfl ?_
    refine WL.next hQ6 (.cons (i := 4) rfl (.cons (i := 5) rfl (.nil))) ?_
    obtain rfl := Option.some.inj hF
    refine W.retV (fn := Try.f59) (vs := [.slice none 0 0, .int .i64 r11.2.2]) Try.results59 ⟨.tmp rfl, ⟨.tmp rfl, trivial⟩⟩ (fun _ _ h => h) (fun wz hw => ?_)
    exact hR _ _ ⟨(none, 0), trivial, rfl, ((St.nilR (hw.pick [] rfl) encCall 7 51).pick [0] rfl)⟩
  · replace hF := cneg hC5 hF
    -- region 4: search.go:18
    refine W.seqR fun Q7 hQ7 => ?_
    refine WL.q (Y.move (.pl rfl)) rfl ?_
    refine WL.q (Y.len Try.underlying44 (.pl rfl)) rfl ?_
    refine WL.q (Y.gtr (.pl rfl) (.pl rfl)) rfl ?_
    refine WL.q (Y.assign (.pl rfl)) rfl ?_
    refine WL.next hQ7 (.cons (i := 6) rfl (.cons (i := 20) rfl (.nil))) ?_
    refine W.cond (.pl rfl) (fun hC8 => ?_) (fun hC8 => ?_)
    · replace hF := cpos hC8 hF
      -- region 5: search.go:19
      refine W.seqR fun Q9 hQ9 => ?_
      refine WL.q (Y.assign (.pl rfl)) rfl ?_
      refine WL.q (Y.assign (.pl rfl)) rfl ?_
      refine WL.next hQ9 (.cons (i := 4) rfl (.cons (i := 5) rfl (.nil))) ?_
      obtain rfl := Option.some.inj hF
      refine W.retV (fn := Try.f59) (vs := [.slice none 0 0, .int .i64 2]) Try.results59 ⟨.tmp rfl, ⟨.tmp rfl, trivial⟩⟩ (fun _ _ h => h) (fun wz hw => ?_)
      exact hR _ _ ⟨(none, 0), trivial, rfl, ((St.nilR (hw.pick [] rfl) encCall 7 51).pick [0] rfl)⟩
    · replace hF := cneg hC8 hF
      refine W.skip ?_
      refine W.go hK3 (.cons (i := 6) rfl (.nil)) ?_
      -- region 6: search.go:21
      refine W.seqR fun Q10 hQ10 => ?_
      refine WL.q (Y.move (.pl rfl)) rfl ?_
      refine WL.q (Y.assign (.pl rfl)) rfl ?_
      refine WL.q (Y.assign (.pl rfl)) rfl ?_
      refine WL.next hQ10 (.cons (i := 4) rfl (.cons (i := 5) rfl (.nil))) ?_
      obtain rfl := Option.some.inj hF
      refine W.retV (fn := Try.f59) (vs := [.slice A12 (r11.1).length c13, .int .i64 0]) Try.results59 ⟨.tmp rfl, ⟨.tmp rfl, trivial⟩⟩ (fun _ _ h => h) (fun wz hw => ?_)
      exact hR _ _ ⟨(A12, c13), trivial, rfl, (hw.pick [0] rfl)⟩

def history_Ahead_L27 (N : Nat) (l1 : (List Call)) (x12 : Call) (v10 : Int) : ((List Int) × Int) → Option (((List Int) × Int) ⊕ (List Int))
  | (After14, v15) =>
    cond (decide (v15 < ((l1).length : Int)))
      (bd (ix l1 v15) fun (x16 : Call) =>
      cond ((!(decide (x12.to_ = (-1)))) && (decide (x12.to_ < x16.from_)))
        (bd (ax 12 0 After14 v10) fun (x18 : Int) =>
        bd (ax 12 0 After14 v10) fun (x19 : Int) =>
        ck (ok64 (v15 + 1)) <|
        some (.inl ((setA 12 0 After14 v10 (borI .u16 x18 (shlI .u16 1 (IntKind.u64.wrap v15)))), (v15 + 1))))
        (ck (ok64 (v15 + 1)) <|
        some (.inl (After14, (v15 + 1)))))
      (some (.inr After14))

def history_Ahead_L25 (N : Nat) (l1 : (List Call)) : ((List Int) × Int) → Option (((List Int) × Int) ⊕ (List Int))
  | (After9, v10) =>
    cond (decide (v10 < ((l1).length : Int)))
      (bd (α := (List Int)) (bd (ix l1 v10) fun (x12 : Call) =>
        iter (history_Ahead_L27 N l1 x12 v10) N (After9, 0)) <|
      fun (After11 : (List Int)) => 
        ck (ok64 (v10 + 1)) <|
        some (.inl (After11, (v10 + 1))))
      (some (.inr After9))

def history_Ahead (N : Nat) (l1 : (List Call)) : Option (Int × (List Int) × Int) :=
  cond (decide (12 < ((l1).length : Int)))
    (some (0, [], 2))
    (bd (α := (List Int)) (iter (history_Ahead_L25 N l1) N ([], 0)) <|
    fun (After8 : (List Int)) => 
      some (((l1).length : Int), After8, 0))

theorem history_Ahead_ok {N : Nat} {l1 : (List Call)} {res : (Int × (List Int) × Int)} (hF : history_Ahead N l1 = some res) (w : World) {v5 : Value} (hs4 : SlIn encCall 7 w v5 l1) :
    Pure Try.prog 60 [v5] w (.tuple #[.agg (encRel (Rel.mk res.1 res.2.1)).toArray, .int .i64 res.2.2]) := by
  obtain ⟨A2, c3, rfl, hcc3, hs4⟩ := hs4.form
  refine W.enter (n := 53) Try.func60 rfl rfl Sub.refl (by simp) (St.start w) fun R hR => ?_
  unfold history_Ahead at hF
  -- region 0: history.go:175
  refine W.seqR fun Q1 hQ1 => ?_
  refine WL.step (WO.alloc (cs := (encRel (Rel.mk 0 [])).toArray) zero115 rfl rfl fun b6 => ?_)
  refine WL.q (Y.assign (.pl rfl)) rfl ?_
  refine WL.next hQ1 (.cons (i := 0) rfl (.cons (i := 2) rfl (.nil))) ?_
  refine W.seq fun K2 hK2 => ?_
  -- region 1: history.go:176
  refine W.seqR fun Q3 hQ3 => ?_
  refine WL.q (Y.move (.pl rfl)) rfl ?_
  refine WL.q (Y.len Try.underlying44 (.pl rfl)) rfl ?_
  refine WL.q (Y.gtr (.pl rfl) (.pl rfl)) rfl ?_
  refine WL.next hQ3 (.cons (i := 0) rfl (.cons (i := 2) rfl (.cons (i := 11) rfl (.nil)))) ?_
  refine W.cond (.pl rfl) (fun hC4 => ?_) (fun hC4 => ?_)
  · replace hF := cpos hC4 hF
    -- region 2: history.go:177
    refine W.seqR fun Q5 hQ5 => ?_
    refine WL.q (Y.build (cs := (encRel (Rel.mk 0 [])).toArray) shape115 (.nil) (one_parts trivial) rfl) rfl ?_
    refine WL.step (WO.storeBA (ds := (encRel (Rel.mk 0 []))) (cs' := (encRel (Rel.mk 0 []))) cells115 (.pl rfl) (.pl rfl) rfl (oneRel _) (i := 0) rfl (lel (o := 0) (l := 13) (m := 13) (by decide) rfl rfl) (putW rfl) ?_)
    refine WL.q (Y.assign (.pl rfl)) rfl ?_
    refine WL.next hQ5 (.cons (i := 2) rfl (.cons (i := 3) rfl (.nil))) ?_
    obtain rfl := Option.some.inj hF
    refine W.retV (fn := Try.f60) (vs := [.agg (encRel (Rel.mk 0 [])).toArray, .int .i64 2]) Try.results60 ⟨.cellA Try.underlying115 rfl cells115 rfl (i := 0) rfl rfl, ⟨.tmp rfl, trivial⟩⟩ (fun _ _ h => h) (fun wz hw => ?_)
    exact hR _ _ ⟨rfl, (hw.pick [] rfl)⟩
  · replace hF := cneg hC4 hF
    refine W.skip ?_
    refine W.go hK2 (.cons (i := 0) rfl (.cons (i := 2) rfl (.nil))) ?_
    -- region 3: history.go:179
    refine W.seqR fun Q6 hQ6 => ?_
    refine WL.q (Y.move (.pl rfl)) rfl ?_
    refine WL.q (Y.len Try.underlying44 (.pl rfl)) rfl ?_
    refine WL.q (Y.build (cs := (encRel (Rel.mk ((l1).length : Int) [])).toArray) shape115 (.cons (.pl rfl) (.nil)) (one_parts ⟨rfl, trivial⟩) rfl) rfl ?_
    refine WL.step (WO.alloc (cs := (encRel (Rel.mk 0 [])).toArray) zero115 rfl rfl fun b7 => ?_)
    refine WL.step (WO.storeBA (ds := (encRel (Rel.mk ((l1).length : Int) []))) (cs' := (encRel (Rel.mk ((l1).length : Int) []))) cells115 (.pl rfl) (.pl rfl) rfl (oneRel _) (i := 0) rfl (lel (o := 0) (l := 13) (m := 13) (by decide) rfl rfl) (putW rfl) ?_)
    refine WL.next hQ6 (.cons (i := 0) rfl (.cons (i := 2) rfl (.cons (i := 4) rfl (.nil)))) ?_
    obtain ⟨o7, hF7, hF⟩ := bnd hF
    refine W.join1 (Em := fun (After8 : (List Int)) => []) (M := fun After8 => [cBx b6 115 (encRel (Rel.mk 0 [])), cBx b7 115 (encRel (Rel.mk ((l1).length : Int) After8))]) (I := fun After8 => After8 = o7) (.cons (i := 2) rfl (.cons (i := 4) rfl (.nil))) (fun K8 hK8 => ?_) ?_
    · -- up to
      -- region 4: history.go:180
      refine W.seqR fun Q9 hQ9 => ?_
      refine WL.q (Y.move (.pl rfl)) rfl ?_
      refine WL.q (Y.len Try.underlying44 (.pl rfl)) rfl ?_
      refine WL.q (Y.move (.pl rfl)) rfl ?_
      refine WL.next hQ9 (.cons (i := 0) rfl (.cons (i := 2) rfl (.cons (i := 4) rfl (.cons (i := 16) rfl (.cons (i := 17) rfl (.cons (i := 18) rfl (.nil))))))) ?_
      refine W.block ?_
      refine W.loop2 (Em := fun (After9 : (List Int)) (v10 : Int) => [(18, .int .i64 v10)]) (M := fun After9 v10 => [cBx b6 115 (encRel (Rel.mk 0 [])), cBx b7 115 (encRel (Rel.mk ((l1).length : Int) After9))]) (I := fun After9 v10 k10 => iter (history_Ahead_L25 N l1) k10 (After9, v10) = some o7) [] 0 N (hF7) (.cons rfl (.nil)) (.cons (i := 0) rfl (.cons (i := 2) rfl (.cons (i := 4) rfl (.cons (i := 16) rfl (.cons (i := 17) rfl (.nil)))))) (fun wz hw => hw.pick [1, 0] rfl) (fun After9 v10 k10 hI K11 hK11 => ?_)
      obtain ⟨k10, t10, rfl, hF10, hN10⟩ := iter_step hI
      -- region 5: history.go:180
      refine W.seqR fun Q12 hQ12 => ?_
      refine WL.q (Y.lss (.pl rfl) (.pl rfl)) rfl ?_
      refine WL.next hQ12 (.cons (i := 0) rfl (.cons (i := 2) rfl (.cons (i := 4) rfl (.cons (i := 16) rfl (.cons (i := 17) rfl (.cons (i := 18) rfl (.cons (i := 19) rfl (.nil)))))))) ?_
      refine W.seq fun K13 hK13 => ?_
      refine W.cond (.pl rfl) (fun hC14 => ?_) (fun hC14 => ?_)
      · replace hF10 := cpos hC14 hF10
        refine W.skip ?_
        refine W.go hK13 (.cons (i := 0) rfl (.cons (i := 2) rfl (.cons (i := 4) rfl (.cons (i := 16) rfl (.cons (i := 17) rfl (.cons (i := 18) rfl (.nil))))))) ?_
        obtain ⟨o15, hF15, hF10⟩ := bnd hF10
        refine W.join1 (Em := fun (After11 : (List Int)) => []) (M := fun After11 => [cBx b6 115 (encRel (Rel.mk 0 [])), cBx b7 115 (encRel (Rel.mk ((l1).length : Int) After11))]) (I := fun After11 => After11 = o15) (.cons (i := 0) rfl (.cons (i := 2) rfl (.cons (i := 4) rfl (.cons (i := 16) rfl (.cons (i := 17) rfl (.cons (i := 18) rfl (.nil))))))) (fun K16 hK16 => ?_) ?_
        · -- up to
          refine W.block ?_
          -- region 6: history.go:180
          refine W.seqR fun Q17 hQ17 => ?_
          refine WL.q (Y.move (.pl rfl)) rfl ?_
          obtain ⟨x12, hx12, hF15⟩ := bnd hF15
          refine WL.q (Y.slEl Try.underlying44 cells51 hs4 (.pl rfl) (.pl rfl) (ix_lt (hx12))) rfl ?_
          refine WL.q (Y.loadSA (enc := encCall) (ds := (encCall x12)) (j := 0) Try.underlying51 rfl cells51 hs4 (.pl rfl) (hx12) rfl rfl subW) rfl ?_
          refine WL.step (WO.alloc (cs := (encCall (Call.mk 0 0 0 0 0 0 0)).toArray) zero51 rfl rfl fun b13 => ?_)
          refine WL.q (Y.assign (.pl rfl)) rfl ?_
          refine WL.step (WO.storeBA (ds := (encCall x12)) (cs' := (encCall x12)) cells51 (.pl rfl) (.pl rfl) rfl (oneCall _) (i := 0) rfl (lel (o := 0) (l := 7) (m := 7) (by decide) rfl rfl) (putW rfl) ?_)
          refine WL.next hQ17 (.cons (i := 0) rfl (.cons (i := 2) rfl (.cons (i := 4) rfl (.cons (i := 5) rfl (.cons (i := 6) rfl (.cons (i := 16) rfl (.cons (i := 17) rfl (.cons (i := 18) rfl (.nil))))))))) ?_
          -- region 7: history.go:181
          refine W.seqR fun Q18 hQ18 => ?_
          refine WL.q (Y.move (.pl rfl)) rfl ?_
          refine WL.q (Y.len Try.underlying44 (.pl rfl)) rfl ?_
          refine WL.q (Y.move (.pl rfl)) rfl ?_
          refine WL.next hQ18 (.cons (i := 0) rfl (.cons (i := 2) rfl (.cons (i := 4) rfl (.cons (i := 5) rfl (.cons (i := 6) rfl (.cons (i := 16) rfl (.cons (i := 17) rfl (.cons (i := 18) rfl (.cons (i := 23) rfl (.cons (i := 24) rfl (.cons (i := 25) rfl (.nil)))))))))))) ?_
          refine W.block ?_
          refine W.loop2 (Em := fun (After14 : (List Int)) (v15 : Int) => [(25, .int .i64 v15)]) (M := fun After14 v15 => [cBx b6 115 (encRel (Rel.mk 0 [])), cBx b7 115 (encRel (Rel.mk ((l1).length : Int) After14)), cBx b13 51 (encCall x12)]) (I := fun After14 v15 k19 => iter (history_Ahead_L27 N l1 x12 v10) k19 (After14, v15) = some o15) After9 0 N (hF15) (.cons rfl (.nil)) (.cons (i := 0) rfl (.cons (i := 2) rfl (.cons (i := 4) rfl (.cons (i := 5) rfl (.cons (i := 6) rfl (.cons (i := 16) rfl (.cons (i := 17) rfl (.cons (i := 18) rfl (.cons (i := 23) rfl (.cons (i := 24) rfl (.nil))))))))))) (fun wz hw => hw.pick [1, 2, 0] rfl) (fun After14 v15 k19 hI K20 hK20 => ?_)
          obtain ⟨k19, t19, rfl, hF19, hN19⟩ := iter_step hI
          -- region 8: history.go:181
          refine W.seqR fun Q21 hQ21 => ?_
          refine WL.q (Y.lss (.pl rfl) (.pl rfl)) rfl ?_
          refine WL.next hQ21 (.cons (i := 0) rfl (.cons (i := 2) rfl (.cons (i := 4) rfl (.cons (i := 5) rfl (.cons (i := 6) rfl (.cons (i := 16) rfl (.cons (i := 17) rfl (.cons (i := 18) rfl (.cons (i := 23) rfl (.cons (i := 24) rfl (.cons (i := 25) rfl (.cons (i := 26) rfl (.nil))))))))))))) ?_
          refine W.seq fun K22 hK22 => ?_
          refine W.cond (.pl rfl) (fun hC23 => ?_) (fun hC23 => ?_)
          · replace hF19 := cpos hC23 hF19
            refine W.skip ?_
            refine W.go hK22 (.cons (i := 0) rfl (.cons (i := 2) rfl (.cons (i := 4) rfl (.cons (i := 5) rfl (.cons (i := 6) rfl (.cons (i := 16) rfl (.cons (i := 17) rfl (.cons (i := 18) rfl (.cons (i := 23) rfl (.cons (i := 24) rfl (.cons (i := 25) rfl (.nil)))))))))))) ?_
            refine W.seq fun K24 hK24 => ?_
            refine W.block ?_
            -- region 9: history.go:181
            refine W.seqR fun Q25 hQ25 => ?_
            refine WL.q (Y.move (.pl rfl)) rfl ?_
            obtain ⟨x16, hx16, hF19⟩ := bnd hF19
            refine WL.q (Y.slEl Try.underlying44 cells51 hs4 (.pl rfl) (.pl rfl) (ix_lt (hx16))) rfl ?_
            refine WL.q (Y.loadSA (enc := encCall) (ds := (encCall x16)) (j := 0) Try.underlying51 rfl cells51 hs4 (.pl rfl) (hx16) rfl rfl subW) rfl ?_
            refine WL.step (WO.alloc (cs := (encCall (Call.mk 0 0 0 0 0 0 0)).toArray) zero51 rfl rfl fun b17 => ?_)
            refine WL.q (Y.assign (.pl rfl)) rfl ?_
            refine WL.step (WO.storeBA (ds := (encCall x16)) (cs' := (encCall x16)) cells51 (.pl rfl) (.pl rfl) rfl (oneCall _) (i := 0) rfl (lel (o := 0) (l := 7) (m := 7) (by decide) rfl rfl) (putW rfl) ?_)
            refine WL.next hQ25 (.cons (i := 0) rfl (.cons (i := 2) rfl (.cons (i := 4) rfl (.cons (i := 5) rfl (.cons (i := 6) rfl (.cons (i := 7) rfl (.cons (i := 8) rfl (.cons (i := 16) rfl (.cons (i := 17) rfl (.cons (i := 18) rfl (.cons (i := 23) rfl (.cons (i := 24) rfl (.cons (i := 25) rfl (.nil)))))))))))))) ?_
            -- region 10: history.go:182
            refine W.seqR fun Q26 hQ26 => ?_
            refine WL.q (Y.fieldAddr0 (off := 6) (ft := 3) Try.underlying51 rfl cells3 (.pl rfl)) rfl ?_
            refine WL.q (Y.loadB (v := .int .i64 x12.to_) Try.underlying3 rfl (.pl rfl) (i := 3) rfl (rfl)) rfl ?_
            refine WL.q (Y.neq (.pl rfl) (.pl rfl)) rfl ?_
            refine WL.q (Y.move (.pl rfl)) rfl ?_
            refine WL.g (.pl rfl rfl rfl) (fun hg => Y.fieldAddr0 (off := 5) (ft := 3) Try.underlying51 rfl cells3 (.pl rfl)) rfl ?_
            refine WL.g (.pl rfl rfl rfl) (fun hg => Y.loadB (v := .int .i64 x16.from_) Try.underlying3 rfl (.gd (hg) rfl) (i := 0) rfl (rfl)) rfl ?_
            refine WL.g (.pl rfl rfl rfl) (fun hg => Y.fieldAddr0 (off := 6) (ft := 3) Try.underlying51 rfl cells3 (.pl rfl)) rfl ?_
            refine WL.g (.pl rfl rfl rfl) (fun hg => Y.loadB (v := .int .i64 x12.to_) Try.underlying3 rfl (.gd (hg) rfl) (i := 3) rfl (rfl)) rfl ?_
            refine WL.g (.pl rfl rfl rfl) (fun hg => Y.gtr (.gd (hg) rfl) (.gd (hg) rfl)) rfl ?_
            refine WL.q (Y.and (.pl rfl) (fun h2 => .gd (eqt h2) rfl)) rfl ?_
            refine WL.next hQ26 (.cons (i := 0) rfl (.cons (i := 2) rfl (.cons (i := 4) rfl (.cons (i := 5) rfl (.cons (i := 6) rfl (.cons (i := 7) rfl (.cons (i := 16) rfl (.cons (i := 17) rfl (.cons (i := 18) rfl (.cons (i := 23) rfl (.cons (i := 24) rfl (.cons (i := 25) rfl (.cons (i := 39) rfl (.nil)))))))))))))) ?_
            refine W.cond (.pl rfl) (fun hC27 => ?_) (fun hC27 => ?_)
            · replace hF19 := cpos hC27 hF19
              -- region 11: history.go:183
              refine W.reg ?_
              refine WL.q (Y.move (.pl rfl)) rfl ?_
              refine WL.q (Y.fieldAddr0 (off := 1) (ft := 113) Try.underlying115 rfl cells113 (.pl rfl)) rfl ?_
              obtain ⟨x18, hx18, hF19⟩ := bnd hF19
              refine WL.q (Y.arrZ Try.underlying113 cells112 (.pl rfl) (.pl rfl) (ax_lt (hx18))) rfl ?_
              refine WL.q (Y.loadB (v := .int .u16 x18) Try.underlying112 rfl (.pl rfl) (i := 2) rfl (cellsA (pre := (Value.int .i64 ((l1).length : Int) :: [])) (off := 1) (post := []) (a := After14) (enc := (eI .u16)) (d := 0) (n := 12) (sz := 1) (j := 0) (fun _ => rfl) rfl (ax_nat (hx18)) (ax_get (hx18)) rfl)) rfl ?_
              refine WL.q (Y.move (.pl rfl)) rfl ?_
              refine WL.q (Y.conv Try.underlying3 Try.underlying179 (.pl rfl)) rfl ?_
              refine WL.q (Y.shl (.pl rfl) (.pl rfl) (wrapU_nn rfl _)) rfl ?_
              refine WL.q (Y.bor (.pl rfl) (.pl rfl)) rfl ?_
              refine WL.q (Y.fieldAddr0 (off := 1) (ft := 113) Try.underlying115 rfl cells113 (.pl rfl)) rfl ?_
              obtain ⟨x19, hx19, hF19⟩ := bnd hF19
              refine WL.q (Y.arrZ Try.underlying113 cells112 (.pl rfl) (.pl rfl) (ax_lt (hx19))) rfl ?_
              refine WL.step (WO.storeB (cs' := (encRel (Rel.mk ((l1).length : Int) (setA 12 0 After14 v10 (borI .u16 x18 (shlI .u16 1 (IntKind.u64.wrap v15))))))) cells112 (.pl rfl) (.pl rfl) rfl (i := 2) rfl (ltl (m := 13) (offlt (off := 1) (sz := 1) (j := 0) (ax_nat (hx19)) (by decide)) rfl) (cellsSet (pre := (Value.int .i64 ((l1).length : Int) :: [])) (off := 1) (post := []) (a := After14) (enc := (eI .u16)) (d := 0) (n := 12) (sz := 1) (j := 0) (x := x19) (x' := (borI .u16 x18 (shlI .u16 1 (IntKind.u64.wrap v15)))) (fun _ => rfl) rfl (ax_lt (hx19)) (ax_get (hx19)) (by decide) rfl rfl) ?_)
              refine WL.nil ?_
              refine W.go hK24 (.cons (i := 0) rfl (.cons (i := 2) rfl (.cons (i := 4) rfl (.cons (i := 5) rfl (.cons (i := 6) rfl (.cons (i := 16) rfl (.cons (i := 17) rfl (.cons (i := 18) rfl (.cons (i := 23) rfl (.cons (i := 24) rfl (.cons (i := 25) rfl (.nil)))))))))))) ?_
              -- region 12: history.go:181
              refine W.reg ?_
              obtain ⟨hk20, hF19⟩ := ckh hF19
              refine WL.q (Y.add (.pl rfl) (.pl rfl) (ok64_lt (hk20))) rfl ?_
              refine WL.q (Y.move (.pl rfl)) rfl ?_
              refine WL.nil ?_
              obtain rfl := Option.some.inj hF19
              exact W.again2 hK20 (setA 12 0 After14 v10 (borI .u16 x18 (shlI .u16 1 (IntKind.u64.wrap v15)))) (v15 + 1) k19 hN19 (Nat.lt_succ_self _) (.cons rfl (.nil)) (.cons (i := 0) rfl (.cons (i := 2) rfl (.cons (i := 4) rfl (.cons (i := 5) rfl (.cons (i := 6) rfl (.cons (i := 16) rfl (.cons (i := 17) rfl (.cons (i := 18) rfl (.cons (i := 23) rfl (.cons (i := 24) rfl (.nil))))))))))) (fun wz hw => hw.pick [1, 2, 3] rfl)
            · replace hF19 := cneg hC27 hF19
              refine W.skip ?_
              refine W.go hK24 (.cons (i := 0) rfl (.cons (i := 2) rfl (.cons (i := 4) rfl (.cons (i := 5) rfl (.cons (i := 6) rfl (.cons (i := 16) rfl (.cons (i := 17) rfl (.cons (i := 18) rfl (.cons (i := 23) rfl (.cons (i := 24) rfl (.cons (i := 25) rfl (.nil)))))))))))) ?_
              -- region 12: history.go:181
              refine W.reg ?_
              obtain ⟨hk21, hF19⟩ := ckh hF19
              refine WL.q (Y.add (.pl rfl) (.pl rfl) (ok64_lt (hk21))) rfl ?_
              refine WL.q (Y.move (.pl rfl)) rfl ?_
              refine WL.nil ?_
              obtain rfl := Option.some.inj hF19
              exact W.again2 hK20 After14 (v15 + 1) k19 hN19 (Nat.lt_succ_self _) (.cons rfl (.nil)) (.cons (i := 0) rfl (.cons (i := 2) rfl (.cons (i := 4) rfl (.cons (i := 5) rfl (.cons (i := 6) rfl (.cons (i := 16) rfl (.cons (i := 17) rfl (.cons (i := 18) rfl (.cons (i := 23) rfl (.cons (i := 24) rfl (.nil))))))))))) (fun wz hw => hw.pick [1, 2, 3] rfl)
          · replace hF19 := cneg hC23 hF19
            refine W.exit ?_
            obtain rfl := Option.some.inj hF19
            exact W.joinAt1 hK16 After14 (einr hN19) (.nil) (.cons (i := 0) rfl (.cons (i := 2) rfl (.cons (i := 4) rfl (.cons (i := 16) rfl (.cons (i := 17) rfl (.cons (i := 18) rfl (.nil))))))) (fun wz hw => hw.pick [0, 1] rfl)
        · -- behind
          rintro After11 rfl
          -- region 13: history.go:180
          refine W.reg ?_
          obtain ⟨hk22, hF10⟩ := ckh hF10
          refine WL.q (Y.add (.pl rfl) (.pl rfl) (ok64_lt (hk22))) rfl ?_
          refine WL.q (Y.move (.pl rfl)) rfl ?_
          refine WL.nil ?_
          obtain rfl := Option.some.inj hF10
          exact W.again2 hK11 After11 (v10 + 1) k10 hN10 (Nat.lt_succ_self _) (.cons rfl (.nil)) (.cons (i := 0) rfl (.cons (i := 2) rfl (.cons (i := 4) rfl (.cons (i := 16) rfl (.cons (i := 17) rfl (.nil)))))) (fun wz hw => hw.pick [0, 1] rfl)
      · replace hF10 := cneg hC14 hF10
        refine W.exit ?_
        obtain rfl := Option.some.inj hF10
        exact W.joinAt1 hK8 After9 (einr hN10) (.nil) (.cons (i := 2) rfl (.cons (i := 4) rfl (.nil))) (fun wz hw => hw.pick [0, 1] rfl)
    · -- behind
      rintro After8 rfl
      -- region 14: history.go:187
      refine W.seqR fun Q32 hQ32 => ?_
      refine WL.q (Y.loadBA (ds := (encRel (Rel.mk ((l1).length : Int) After8))) Try.underlying115 rfl cells115 (.pl rfl) (i := 1) rfl rfl subW) rfl ?_
      refine WL.step (WO.storeBA (ds := (encRel (Rel.mk ((l1).length : Int) After8))) (cs' := (encRel (Rel.mk ((l1).length : Int) After8))) cells115 (.pl rfl) (.pl rfl) rfl (oneRel _) (i := 0) rfl (lel (o := 0) (l := 13) (m := 13) (by decide) rfl rfl) (putW rfl) ?_)
      refine WL.q (Y.assign (.pl rfl)) rfl ?_
      refine WL.next hQ32 (.cons (i := 2) rfl (.cons (i := 3) rfl (.nil))) ?_
      obtain rfl := Option.some.inj hF
      refine W.retV (fn := Try.f60) (vs := [.agg (encRel (Rel.mk ((l1).length : Int) After8)).toArray, .int .i64 0]) Try.results60 ⟨.cellA Try.underlying115 rfl cells115 rfl (i := 0) rfl rfl, ⟨.tmp rfl, trivial⟩⟩ (fun _ _ h => h) (fun wz hw => ?_)
      exact hR _ _ ⟨rfl, (hw.pick [] rfl)⟩

def search_finder_complete_L3 (N : Nat) (calls6 : (List Call)) (placed15 : Int) : Int → Option (Int ⊕ (Unit ⊕ Bool))
  | v21 =>
    cond (decide (v21 < ((calls6).length : Int)))
      (bd (ix calls6 v21) fun (x22 : Call) =>
      cond ((!(decide (x22.to_ = (-1)))) && (decide ((bandI .u16 (shrI .u16 placed15 (IntKind.u64.wrap v21)) 1) = 0)))
        (some (.inr (.inr false)))
        (ck (ok64 (v21 + 1)) <|
        some (.inl (v21 + 1))))
      (some (.inr (.inl ())))

def search_finder_complete (N : Nat) (types2 : (List Int)) (calls6 : (List Call)) (ahead10 : Rel) (states13 : (List (List Int))) (placed15 : Int) (out18 : (List Step)) (failed20 : (List (ByteArray × Bool))) : Option Bool :=
  bd (α := (Unit ⊕ Bool)) (iter (search_finder_complete_L3 N calls6 placed15) N 0) <|
  Sum.elim (fun _ => 
    some true) (fun p => some p)

theorem search_finder_complete_ok {N : Nat} {types2 : (List Int)} {calls6 : (List Call)} {ahead10 : Rel} {states13 : (List (List Int))} {placed15 : Int} {out18 : (List Step)} {failed20 : (List (ByteArray × Bool))} {b1 : Nat} {A3 : Option Addr} {c4 : Nat} {A7 : Option Addr} {c8 : Nat} {A11 : Option Addr} {c12 : Nat} {hd14 : List Hd} {A16 : Option Addr} {c17 : Nat} {b19 : Nat} {res : Bool} (hF : search_finder_complete N types2 calls6 ahead10 states13 placed15 out18 failed20 = some res) {w0 w : World} {T : List Chunk} (hw : St w0.heap.size w0 ([cBx b1 183 (Value.slice A3 (types2).length c4 :: (Value.slice A7 (calls6).length c8 :: ((encRel ahead10) ++ (Value.slice A11 (states13).length c12 :: (Value.int .u16 placed15 :: (Value.slice A16 (out18).length c17 :: (Value.map (some b19) :: []))))))), cN encSl (innSl (eI .i64) 1 3) 1 A11 c12 47 hd14 states13, cR encStep 2 A16 c17 77 out18, cMS Value.bool (some b19) failed20] ++ T) w) (hs5 : SlIn (eI .i64) 1 w0 (.slice A3 (types2).length c4) types2) (hs9 : SlIn encCall 7 w0 (.slice A7 (calls6).length c8) calls6) :
    Calls Try.prog 125 (List.toArray [.pointer (some ⟨b1, 0, none⟩)]) w (fun e w' => ∃ g : Unit, (True) ∧ e = .returned (.bool res) ∧ St w0.heap.size w0 ([cBx b1 183 (Value.slice A3 (types2).length c4 :: (Value.slice A7 (calls6).length c8 :: ((encRel ahead10) ++ (Value.slice A11 (states13).length c12 :: (Value.int .u16 placed15 :: (Value.slice A16 (out18).length c17 :: (Value.map (some b19) :: []))))))), cN encSl (innSl (eI .i64) 1 3) 1 A11 c12 47 hd14 states13, cR encStep 2 A16 c17 77 out18, cMS Value.bool (some b19) failed20] ++ T) w') := by
  refine W.enter (n := 30) Try.func125 rfl rfl Sub.refl (by simp) hw fun R hR => ?_
  unfold search_finder_complete at hF
  -- region 0: search.go:76
  refine W.seqR fun Q1 hQ1 => ?_
  refine WL.q (Y.assign (.pl rfl)) rfl ?_
  refine WL.next hQ1 (.cons (i := 0) rfl (.nil)) ?_
  obtain ⟨o2, hF2, hF⟩ := bnd hF
  refine W.join0 (Em := []) (M := ([cBx b1 183 (Value.slice A3 (types2).length c4 :: (Value.slice A7 (calls6).length c8 :: ((encRel ahead10) ++ (Value.slice A11 (states13).length c12 :: (Value.int .u16 placed15 :: (Value.slice A16 (out18).length c17 :: (Value.map (some b19) :: []))))))), cN encSl (innSl (eI .i64) 1 3) 1 A11 c12 47 hd14 states13, cR encStep 2 A16 c17 77 out18, cMS Value.bool (some b19) failed20] ++ T)) (I := (.inl ()) = o2) (.nil) (fun K3 hK3 => ?_) ?_
  · -- up to
    -- region 1: search.go:77
    refine W.seqR fun Q4 hQ4 => ?_
    refine WL.q (Y.move (.pl rfl)) rfl ?_
    refine WL.q (Y.nilCheck (.pl rfl)) rfl ?_
    refine WL.q (Y.fieldAddr0 (off := 1) (ft := 44) Try.underlying183 rfl cells44 (.pl rfl)) rfl ?_
    refine WL.q (Y.loadB (v := .slice A7 (calls6).length c8) Try.underlying44 rfl (.pl rfl) (i := 0) rfl (rfl)) rfl ?_
    refine WL.q (Y.len Try.underlying44 (.pl rfl)) rfl ?_
    refine WL.q (Y.move (.pl rfl)) rfl ?_
    refine WL.next hQ4 (.cons (i := 0) rfl (.cons (i := 8) rfl (.cons (i := 9) rfl (.cons (i := 10) rfl (.nil))))) ?_
    refine W.block ?_
    refine W.loop1 (Em := fun (v21 : Int) => [(10, .int .i64 v21)]) (M := fun v21 => ([cBx b1 183 (Value.slice A3 (types2).length c4 :: (Value.slice A7 (calls6).length c8 :: ((encRel ahead10) ++ (Value.slice A11 (states13).length c12 :: (Value.int .u16 placed15 :: (Value.slice A16 (out18).length c17 :: (Value.map (some b19) :: []))))))), cN encSl (innSl (eI .i64) 1 3) 1 A11 c12 47 hd14 states13, cR encStep 2 A16 c17 77 out18, cMS Value.bool (some b19) failed20] ++ T)) (I := fun v21 k5 => iter (search_finder_complete_L3 N calls6 placed15) k5 v21 = some o2) 0 N (hF2) (.cons rfl (.nil)) (.cons (i := 0) rfl (.cons (i := 8) rfl (.cons (i := 9) rfl (.nil)))) (fun wz hw => hw.pickK 4 [0, 1, 2, 3] rfl) (fun v21 k5 hI K6 hK6 => ?_)
    obtain ⟨k5, t5, rfl, hF5, hN5⟩ := iter_step hI
    -- region 2: search.go:77
    refine W.seqR fun Q7 hQ7 => ?_
    refine WL.q (Y.lss (.pl rfl) (.pl rfl)) rfl ?_
    refine WL.next hQ7 (.cons (i := 0) rfl (.cons (i := 8) rfl (.cons (i := 9) rfl (.cons (i := 10) rfl (.cons (i := 11) rfl (.nil)))))) ?_
    refine W.seq fun K8 hK8 => ?_
    refine W.cond (.pl rfl) (fun hC9 => ?_) (fun hC9 => ?_)
    · replace hF5 := cpos hC9 hF5
      refine W.skip ?_
      refine W.go hK8 (.cons (i := 0) rfl (.cons (i := 8) rfl (.cons (i := 9) rfl (.cons (i := 10) rfl (.nil))))) ?_
      refine W.seq fun K10 hK10 => ?_
      refine W.block ?_
      -- region 3: search.go:77
      refine W.seqR fun Q11 hQ11 => ?_
      refine WL.q (Y.move (.pl rfl)) rfl ?_
      obtain ⟨x22, hx22, hF5⟩ := bnd hF5
      refine WL.q (Y.slEl Try.underlying44 cells51 hs9 (.pl rfl) (.pl rfl) (ix_lt (hx22))) rfl ?_
      refine WL.q (Y.loadSA (enc := encCall) (ds := (encCall x22)) (j := 0) Try.underlying51 rfl cells51 hs9 (.pl rfl) (hx22) rfl rfl subW) rfl ?_
      refine WL.step (WO.alloc (cs := (encCall (Call.mk 0 0 0 0 0 0 0)).toArray) zero51 rfl rfl fun b23 => ?_)
      refine WL.q (Y.assign (.pl rfl)) rfl ?_
      refine WL.step (WO.storeBA (ds := (encCall x22)) (cs' := (encCall x22)) cells51 (.pl rfl) (.pl rfl) rfl (oneCall _) (i := 0) rfl (lel (o := 0) (l := 7) (m := 7) (by decide) rfl rfl) (putW rfl) ?_)
      refine WL.next hQ11 (.cons (i := 0) rfl (.cons (i := 3) rfl (.cons (i := 4) rfl (.cons (i := 8) rfl (.cons (i := 9) rfl (.cons (i := 10) rfl (.nil))))))) ?_
      -- region 4: search.go:78
      refine W.seqR fun Q12 hQ12 => ?_
      refine WL.q (Y.fieldAddr0 (off := 6) (ft := 3) Try.underlying51 rfl cells3 (.pl rfl)) rfl ?_
      refine WL.q (Y.loadB (v := .int .i64 x22.to_) Try.underlying3 rfl (.pl rfl) (i := 0) rfl (rfl)) rfl ?_
      refine WL.q (Y.neq (.pl rfl) (.pl rfl)) rfl ?_
      refine WL.q (Y.move (.pl rfl)) rfl ?_
      refine WL.g (.pl rfl rfl rfl) (fun hg => Y.move (.pl rfl)) rfl ?_
      refine WL.g (.pl rfl rfl rfl) (fun hg => Y.nilCheck (.gd (hg) rfl)) rfl ?_
      refine WL.g (.pl rfl rfl rfl) (fun hg => Y.fieldAddr0 (off := 16) (ft := 112) Try.underlying183 rfl cells112 (.gd (hg) rfl)) rfl ?_
      refine WL.g (.pl rfl rfl rfl) (fun hg => Y.loadB (v := .int .u16 placed15) Try.underlying112 rfl (.gd (hg) rfl) (i := 1) rfl (rfl)) rfl ?_
      refine WL.g (.pl rfl rfl rfl) (fun hg => Y.move (.pl rfl)) rfl ?_
      refine WL.g (.pl rfl rfl rfl) (fun hg => Y.conv Try.underlying3 Try.underlying179 (.gd (hg) rfl)) rfl ?_
      refine WL.g (.pl rfl rfl rfl) (fun hg => Y.shr (.gd (hg) rfl) (.gd (hg) rfl) (wrapU_nn rfl _)) rfl ?_
      refine WL.g (.pl rfl rfl rfl) (fun hg => Y.band (.gd (hg) rfl) (.pl rfl)) rfl ?_
      refine WL.g (.pl rfl rfl rfl) (fun hg => Y.eql (.gd (hg) rfl) (.pl rfl)) rfl ?_
      refine WL.q (Y.and (.pl rfl) (fun h2 => .gd (eqt h2) rfl)) rfl ?_
      refine WL.next hQ12 (.cons (i := 0) rfl (.cons (i := 8) rfl (.cons (i := 9) rfl (.cons (i := 10) rfl (.cons (i := 28) rfl (.nil)))))) ?_
      refine W.cond (.pl rfl) (fun hC13 => ?_) (fun hC13 => ?_)
      · replace hF5 := cpos hC13 hF5
        -- region 5: search.go:79
        refine W.seqR fun Q14 hQ14 => ?_
        refine WL.q (Y.assign (.pl rfl)) rfl ?_
        refine WL.next hQ14 (.cons (i := 2) rfl (.nil)) ?_
        obtain rfl := Option.some.inj hF5
        obtain rfl := einr hN5
        obtain rfl := Option.some.inj hF
        refine W.retV (fn := Try.f125) (vs := [.bool false]) Try.results125 ⟨.tmp rfl, trivial⟩ (fun _ _ h => h) (fun wz hw => ?_)
        exact hR _ _ ⟨(), trivial, rfl, (hw.pickK 5 [1, 2, 3, 4] rfl)⟩
      · replace hF5 := cneg hC13 hF5
        refine W.skip ?_
        refine W.go hK10 (.cons (i := 0) rfl (.cons (i := 8) rfl (.cons (i := 9) rfl (.cons (i := 10) rfl (.nil))))) ?_
        -- region 6: search.go:77
        refine W.reg ?_
        obtain ⟨hk24, hF5⟩ := ckh hF5
        refine WL.q (Y.add (.pl rfl) (.pl rfl) (ok64_lt (hk24))) rfl ?_
        refine WL.q (Y.move (.pl rfl)) rfl ?_
        refine WL.nil ?_
        obtain rfl := Option.some.inj hF5
        exact W.again1 hK6 (v21 + 1) k5 hN5 (Nat.lt_succ_self _) (.cons rfl (.nil)) (.cons (i := 0) rfl (.cons (i := 8) rfl (.cons (i := 9) rfl (.nil)))) (fun wz hw => hw.pickK 5 [1, 2, 3, 4] rfl)
    · replace hF5 := cneg hC9 hF5
      refine W.exit ?_
      obtain rfl := Option.some.inj hF5
      exact W.joinAt0 hK3  (einr hN5) (.nil) (.nil) (fun wz hw => hw.pickK 4 [0, 1, 2, 3] rfl)
  · -- behind
    rintro  rfl
    -- region 7: search.go:82
    refine W.seqR fun Q16 hQ16 => ?_
    refine WL.q (Y.assign (.pl rfl)) rfl ?_
    refine WL.next hQ16 (.cons (i := 2) rfl (.nil)) ?_
    obtain rfl := Option.some.inj hF
    refine W.retV (fn := Try.f125) (vs := [.bool true]) Try.results125 ⟨.tmp rfl, trivial⟩ (fun _ _ h => h) (fun wz hw => ?_)
    exact hR _ _ ⟨(), trivial, rfl, (hw.pickK 4 [0, 1, 2, 3] rfl)⟩

def search_finder_key_L27 (N : Nat) (x32 : (List Int)) : ((List Int) × Int) → Option (((List Int) × Int) ⊕ (List Int))
  | (b39, v40) =>
    cond (decide (v40 < ((x32).length : Int)))
      (bd (ix x32 v40) fun (x41 : Int) =>
      ck (limB 1 ((b39).length + (([(IntKind.u8.wrap x41), (IntKind.u8.wrap (shrI .i64 x41 8))] : List Int)).length)) <|
      ck (ok64 (v40 + 1)) <|
      some (.inl ((b39 ++ ([(IntKind.u8.wrap x41), (IntKind.u8.wrap (shrI .i64 x41 8))] : List Int)), (v40 + 1))))
      (some (.inr b39))

def search_finder_key_L25 (N : Nat) (states13 : (List (List Int))) : ((List Int) × Int) → Option (((List Int) × Int) ⊕ (List Int))
  | (b27, v28) =>
    cond (decide (v28 < ((states13).length : Int)))
      (bd (α := (List Int)) (bd (ix states13 v28) fun (x32 : (List Int)) =>
        ck (limB 1 ((b27).length + (([(IntKind.u8.wrap ((x32).length : Int))] : List Int)).length)) <|
        iter (search_finder_key_L27 N x32) N ((b27 ++ ([(IntKind.u8.wrap ((x32).length : Int))] : List Int)), 0)) <|
      fun (b31 : (List Int)) => 
        ck (ok64 (v28 + 1)) <|
        some (.inl (b31, (v28 + 1))))
      (some (.inr b27))

def search_finder_key (N : Nat) (types2 : (List Int)) (calls6 : (List Call)) (ahead10 : Rel) (states13 : (List (List Int))) (placed15 : Int) (out18 : (List Step)) (failed20 : (List (ByteArray × Bool))) : Option ByteArray :=
  bd (α := (List Int)) (iter (search_finder_key_L25 N states13) N (([(IntKind.u8.wrap placed15), (IntKind.u8.wrap (shrI .u16 placed15 8))] : List Int), 0)) <|
  fun (b24 : (List Int)) => 
    some (bstr b24)

theorem search_finder_key_ok {N : Nat} {types2 : (List Int)} {calls6 : (List Call)} {ahead10 : Rel} {states13 : (List (List Int))} {placed15 : Int} {out18 : (List Step)} {failed20 : (List (ByteArray × Bool))} {b1 : Nat} {A3 : Option Addr} {c4 : Nat} {A7 : Option Addr} {c8 : Nat} {A11 : Option Addr} {c12 : Nat} {hd14 : List Hd} {A16 : Option Addr} {c17 : Nat} {b19 : Nat} {res : ByteArray} (hF : search_finder_key N types2 calls6 ahead10 states13 placed15 out18 failed20 = some res) {w0 w : World} {T : List Chunk} (hw : St w0.heap.size w0 ([cBx b1 183 (Value.slice A3 (types2).length c4 :: (Value.slice A7 (calls6).length c8 :: ((encRel ahead10) ++ (Value.slice A11 (states13).length c12 :: (Value.int .u16 placed15 :: (Value.slice A16 (out18).length c17 :: (Value.map (some b19) :: []))))))), cN encSl (innSl (eI .i64) 1 3) 1 A11 c12 47 hd14 states13, cR encStep 2 A16 c17 77 out18, cMS Value.bool (some b19) failed20] ++ T) w) (hs5 : SlIn (eI .i64) 1 w0 (.slice A3 (types2).length c4) types2) (hs9 : SlIn encCall 7 w0 (.slice A7 (calls6).length c8) calls6) :
    Calls Try.prog 126 (List.toArray [.pointer (some ⟨b1, 0, none⟩)]) w (fun e w' => ∃ g : Unit, (True) ∧ e = .returned (.string res) ∧ St w0.heap.size w0 ([cBx b1 183 (Value.slice A3 (types2).length c4 :: (Value.slice A7 (calls6).length c8 :: ((encRel ahead10) ++ (Value.slice A11 (states13).length c12 :: (Value.int .u16 placed15 :: (Value.slice A16 (out18).length c17 :: (Value.map (some b19) :: []))))))), cN encSl (innSl (eI .i64) 1 3) 1 A11 c12 47 hd14 states13, cR encStep 2 A16 c17 77 out18, cMS Value.bool (some b19) failed20] ++ T) w') := by
  refine W.enter (n := 53) Try.func126 rfl rfl Sub.refl (by simp) hw fun R hR => ?_
  unfold search_finder_key at hF
  -- region 0: search.go:64
  refine W.seqR fun Q1 hQ1 => ?_
  refine WL.q (Y.assign (.pl rfl)) rfl ?_
  refine WL.next hQ1 (.cons (i := 0) rfl (.nil)) ?_
  -- region 1: search.go:65
  refine W.seqT 11 (by kernel_rfl) (by kernel_rfl) fun Q2 hQ2 => ?_
  refine WS.q (Y.move (.pl rfl)) rfl ?_
  refine WS.q (Y.nilCheck (.pl rfl)) rfl ?_
  refine WS.q (Y.fieldAddr0 (off := 16) (ft := 112) Try.underlying183 rfl cells112 (.pl rfl)) rfl ?_
  refine WS.q (Y.loadB (v := .int .u16 placed15) Try.underlying112 rfl (.pl rfl) (i := 0) rfl (rfl)) rfl ?_
  refine WS.q (Y.conv Try.underlying112 Try.underlying5 (.pl rfl)) rfl ?_
  refine WS.q (Y.move (.pl rfl)) rfl ?_
  refine WS.q (Y.nilCheck (.pl rfl)) rfl ?_
  refine WS.q (Y.fieldAddr0 (off := 16) (ft := 112) Try.underlying183 rfl cells112 (.pl rfl)) rfl ?_
  refine WS.q (Y.loadB (v := .int .u16 placed15) Try.underlying112 rfl (.pl rfl) (i := 0) rfl (rfl)) rfl ?_
  refine WS.q (Y.shr (.pl rfl) (.pl rfl) (by decide)) rfl ?_
  refine WS.q (Y.conv Try.underlying112 Try.underlying5 (.pl rfl)) rfl ?_
  refine WS.tail ?_
  refine WL.step (WO.bsliceC (enc := (eI .u8)) (ys := ([(IntKind.u8.wrap placed15), (IntKind.u8.wrap (shrI .u16 placed15 8))] : List Int)) Try.underlying258 bz5 (.cons (.pl rfl) (.cons (.pl rfl) (.nil))) rfl (fun _ => rfl) rfl rfl (by decide) (by decide) rfl fun b21 => ?_)
  refine WL.q (Y.assign (.pl rfl)) rfl ?_
  refine WL.next hQ2 (.cons (i := 0) rfl (.cons (i := 3) rfl (.nil))) ?_
  obtain ⟨o3, hF3, hF⟩ := bnd hF
  refine W.join3 (Em := fun (b24 : (List Int)) (A22 : Option Addr) (c23 : Nat) => [(3, .slice A22 (b24).length c23)]) (M := fun b24 A22 c23 => ([cBx b1 183 (Value.slice A3 (types2).length c4 :: (Value.slice A7 (calls6).length c8 :: ((encRel ahead10) ++ (Value.slice A11 (states13).length c12 :: (Value.int .u16 placed15 :: (Value.slice A16 (out18).length c17 :: (Value.map (some b19) :: []))))))), cN encSl (innSl (eI .i64) 1 3) 1 A11 c12 47 hd14 states13, cR encStep 2 A16 c17 77 out18, cMS Value.bool (some b19) failed20, cR (eI .u8) 1 A22 c23 5 b24] ++ T)) (I := fun b24 A22 c23 => b24 = o3) (.nil) (fun K4 hK4 => ?_) ?_
  · -- up to
    -- region 2: search.go:66
    refine W.seqR fun Q5 hQ5 => ?_
    refine WL.q (Y.move (.pl rfl)) rfl ?_
    refine WL.q (Y.nilCheck (.pl rfl)) rfl ?_
    refine WL.q (Y.fieldAddr0 (off := 15) (ft := 142) Try.underlying183 rfl cells142 (.pl rfl)) rfl ?_
    refine WL.q (Y.loadB (v := .slice A11 (states13).length c12) Try.underlying142 rfl (.pl rfl) (i := 1) rfl (rfl)) rfl ?_
    refine WL.q (Y.len Try.underlying142 (.pl rfl)) rfl ?_
    refine WL.q (Y.move (.pl rfl)) rfl ?_
    refine WL.next hQ5 (.cons (i := 3) rfl (.cons (i := 23) rfl (.cons (i := 24) rfl (.cons (i := 25) rfl (.nil))))) ?_
    refine W.block ?_
    refine W.loop4 (Em := fun (b27 : (List Int)) (v28 : Int) (A25 : Option Addr) (c26 : Nat) => [(3, .slice A25 (b27).length c26), (25, .int .i64 v28)]) (M := fun b27 v28 A25 c26 => ([cBx b1 183 (Value.slice A3 (types2).length c4 :: (Value.slice A7 (calls6).length c8 :: ((encRel ahead10) ++ (Value.slice A11 (states13).length c12 :: (Value.int .u16 placed15 :: (Value.slice A16 (out18).length c17 :: (Value.map (some b19) :: []))))))), cN encSl (innSl (eI .i64) 1 3) 1 A11 c12 47 hd14 states13, cR encStep 2 A16 c17 77 out18, cMS Value.bool (some b19) failed20, cR (eI .u8) 1 A25 c26 5 b27] ++ T)) (I := fun b27 v28 A25 c26 k6 => iter (search_finder_key_L25 N states13) k6 (b27, v28) = some o3) ([(IntKind.u8.wrap placed15), (IntKind.u8.wrap (shrI .u16 placed15 8))] : List Int) 0 (some ⟨b21, 0, none⟩) ((([(IntKind.u8.wrap placed15), (IntKind.u8.wrap (shrI .u16 placed15 8))] : List Int)).length) N (hF3) (.cons rfl (.cons rfl (.nil))) (.cons (i := 23) rfl (.cons (i := 24) rfl (.nil))) (fun wz hw => hw.pickK 5 [1, 2, 3, 4, 0] rfl) (fun b27 v28 A25 c26 k6 hI K7 hK7 => ?_)
    obtain ⟨k6, t6, rfl, hF6, hN6⟩ := iter_step hI
    -- region 3: search.go:66
    refine W.seqR fun Q8 hQ8 => ?_
    refine WL.q (Y.lss (.pl rfl) (.pl rfl)) rfl ?_
    refine WL.next hQ8 (.cons (i := 3) rfl (.cons (i := 23) rfl (.cons (i := 24) rfl (.cons (i := 25) rfl (.cons (i := 26) rfl (.nil)))))) ?_
    refine W.seq fun K9 hK9 => ?_
    refine W.cond (.pl rfl) (fun hC10 => ?_) (fun hC10 => ?_)
    · replace hF6 := cpos hC10 hF6
      refine W.skip ?_
      refine W.go hK9 (.cons (i := 3) rfl (.cons (i := 23) rfl (.cons (i := 24) rfl (.cons (i := 25) rfl (.nil))))) ?_
      obtain ⟨o11, hF11, hF6⟩ := bnd hF6
      refine W.join3 (Em := fun (b31 : (List Int)) (A29 : Option Addr) (c30 : Nat) => [(3, .slice A29 (b31).length c30)]) (M := fun b31 A29 c30 => ([cBx b1 183 (Value.slice A3 (types2).length c4 :: (Value.slice A7 (calls6).length c8 :: ((encRel ahead10) ++ (Value.slice A11 (states13).length c12 :: (Value.int .u16 placed15 :: (Value.slice A16 (out18).length c17 :: (Value.map (some b19) :: []))))))), cN encSl (innSl (eI .i64) 1 3) 1 A11 c12 47 hd14 states13, cR encStep 2 A16 c17 77 out18, cMS Value.bool (some b19) failed20, cR (eI .u8) 1 A29 c30 5 b31] ++ T)) (I := fun b31 A29 c30 => b31 = o11) (.cons (i := 23) rfl (.cons (i := 24) rfl (.cons (i := 25) rfl (.nil)))) (fun K12 hK12 => ?_) ?_
      · -- up to
        refine W.block ?_
        -- region 4: search.go:66
        refine W.seqR fun Q13 hQ13 => ?_
        obtain ⟨x32, hx32, hF11⟩ := bnd hF11
        refine WL.q (Y.nEl Try.underlying142 cells47 (i := 1) rfl (.pl rfl) rfl (.pl rfl) (ix_lt (hx32))) rfl ?_
        refine WL.q (Y.loadN (enc := encSl) (h0 := ((none, 0) : Hd)) (v := .slice (hd14.getD v28.toNat ((none, 0) : Hd)).1 (x32).length (hd14.getD v28.toNat ((none, 0) : Hd)).2) (a := x32) (idx := v28) (j := 0) Try.underlying47 rfl lenSl (i := 1) rfl (.pl rfl) (ix_get (hx32)) rfl rfl) rfl ?_
        refine WL.q (Y.assign (.pl rfl)) rfl ?_
        refine WL.next hQ13 (.cons (i := 3) rfl (.cons (i := 5) rfl (.cons (i := 23) rfl (.cons (i := 24) rfl (.cons (i := 25) rfl (.nil)))))) ?_
        -- region 5: search.go:67
        refine W.seqR fun Q14 hQ14 => ?_
        refine WL.q (Y.move (.pl rfl)) rfl ?_
        refine WL.q (Y.move (.pl rfl)) rfl ?_
        refine WL.q (Y.len Try.underlying47 (.pl rfl)) rfl ?_
        refine WL.q (Y.conv Try.underlying3 Try.underlying5 (.pl rfl)) rfl ?_
        refine WL.step (WO.bsliceC (enc := (eI .u8)) (ys := ([(IntKind.u8.wrap ((x32).length : Int))] : List Int)) Try.underlying258 bz5 (.cons (.pl rfl) (.nil)) rfl (fun _ => rfl) rfl rfl (by decide) (by decide) rfl fun b33 => ?_)
        obtain ⟨hk36, hF11⟩ := ckh hF11
        refine WL.step (WO.appendC (enc := (eI .u8)) Try.underlying258 ap5 (fun _ => rfl) oneI (.pl rfl) rfl (.pl rfl) (i := 5) rfl (m2 := 0) rfl (hk36) rfl fun A34 c35 => ?_)
        refine WL.q (Y.assign (.pl rfl)) rfl ?_
        refine WL.next hQ14 (.cons (i := 3) rfl (.cons (i := 5) rfl (.cons (i := 23) rfl (.cons (i := 24) rfl (.cons (i := 25) rfl (.nil)))))) ?_
        -- region 6: search.go:68
        refine W.seqR fun Q15 hQ15 => ?_
        refine WL.q (Y.move (.pl rfl)) rfl ?_
        refine WL.q (Y.len Try.underlying47 (.pl rfl)) rfl ?_
        refine WL.q (Y.move (.pl rfl)) rfl ?_
        refine WL.next hQ15 (.cons (i := 3) rfl (.cons (i := 23) rfl (.cons (i := 24) rfl (.cons (i := 25) rfl (.cons (i := 35) rfl (.cons (i := 36) rfl (.cons (i := 37) rfl (.nil)))))))) ?_
        refine W.block ?_
        refine W.loop4 (Em := fun (b39 : (List Int)) (v40 : Int) (A37 : Option Addr) (c38 : Nat) => [(3, .slice A37 (b39).length c38), (37, .int .i64 v40)]) (M := fun b39 v40 A37 c38 => ([cBx b1 183 (Value.slice A3 (types2).length c4 :: (Value.slice A7 (calls6).length c8 :: ((encRel ahead10) ++ (Value.slice A11 (states13).length c12 :: (Value.int .u16 placed15 :: (Value.slice A16 (out18).length c17 :: (Value.map (some b19) :: []))))))), cN encSl (innSl (eI .i64) 1 3) 1 A11 c12 47 hd14 states13, cR encStep 2 A16 c17 77 out18, cMS Value.bool (some b19) failed20, cR (eI .u8) 1 A37 c38 5 b39] ++ T)) (I := fun b39 v40 A37 c38 k16 => iter (search_finder_key_L27 N x32) k16 (b39, v40) = some o11) (b27 ++ ([(IntKind.u8.wrap ((x32).length : Int))] : List Int)) 0 A34 c35 N (hF11) (.cons rfl (.cons rfl (.nil))) (.cons (i := 23) rfl (.cons (i := 24) rfl (.cons (i := 25) rfl (.cons (i := 35) rfl (.cons (i := 36) rfl (.nil)))))) (fun wz hw => hw.pickK 6 [1, 2, 3, 4, 5] rfl) (fun b39 v40 A37 c38 k16 hI K17 hK17 => ?_)
        obtain ⟨k16, t16, rfl, hF16, hN16⟩ := iter_step hI
        -- region 7: search.go:68
        refine W.seqR fun Q18 hQ18 => ?_
        refine WL.q (Y.lss (.pl rfl) (.pl rfl)) rfl ?_
        refine WL.next hQ18 (.cons (i := 3) rfl (.cons (i := 23) rfl (.cons (i := 24) rfl (.cons (i := 25) rfl (.cons (i := 35) rfl (.cons (i := 36) rfl (.cons (i := 37) rfl (.cons (i := 38) rfl (.nil))))))))) ?_
        refine W.seq fun K19 hK19 => ?_
        refine W.cond (.pl rfl) (fun hC20 => ?_) (fun hC20 => ?_)
        · replace hF16 := cpos hC20 hF16
          refine W.skip ?_
          refine W.go hK19 (.cons (i := 3) rfl (.cons (i := 23) rfl (.cons (i := 24) rfl (.cons (i := 25) rfl (.cons (i := 35) rfl (.cons (i := 36) rfl (.cons (i := 37) rfl (.nil)))))))) ?_
          refine W.seq fun K21 hK21 => ?_
          refine W.block ?_
          -- region 8: search.go:68
          refine W.seqR fun Q22 hQ22 => ?_
          obtain ⟨x41, hx41, hF16⟩ := bnd hF16
          refine WL.q (Y.wEl (enc := (eI .i64)) (sz := 1) Try.underlying47 cells3 (fun wz hw => (SlIn.inN (enc2 := (eI .i64)) (sz2 := 1) (E2 := 3) (h0 := ((none, 0) : Hd)) (fun _ => rfl) hw (i := 1) rfl (hx32) (.head _))) (.pl rfl) (.pl rfl) (ix_lt (hx41))) rfl ?_
          refine WL.q (Y.loadW (enc := (eI .i64)) (v := .int .i64 x41) (j := 0) Try.underlying3 rfl (fun wz hw => (SlIn.inN (enc2 := (eI .i64)) (sz2 := 1) (E2 := 3) (h0 := ((none, 0) : Hd)) (fun _ => rfl) hw (i := 1) rfl (hx32) (.head _))) (.pl rfl) (hx41) rfl rfl) rfl ?_
          refine WL.q (Y.assign (.pl rfl)) rfl ?_
          refine WL.next hQ22 (.cons (i := 3) rfl (.cons (i := 7) rfl (.cons (i := 23) rfl (.cons (i := 24) rfl (.cons (i := 25) rfl (.cons (i := 35) rfl (.cons (i := 36) rfl (.cons (i := 37) rfl (.nil))))))))) ?_
          -- region 9: search.go:69
          refine W.reg ?_
          refine WL.q (Y.move (.pl rfl)) rfl ?_
          refine WL.q (Y.move (.pl rfl)) rfl ?_
          refine WL.q (Y.conv Try.underlying3 Try.underlying5 (.pl rfl)) rfl ?_
          refine WL.q (Y.move (.pl rfl)) rfl ?_
          refine WL.q (Y.shr (.pl rfl) (.pl rfl) (by decide)) rfl ?_
          refine WL.q (Y.conv Try.underlying3 Try.underlying5 (.pl rfl)) rfl ?_
          refine WL.step (WO.bsliceC (enc := (eI .u8)) (ys := ([(IntKind.u8.wrap x41), (IntKind.u8.wrap (shrI .i64 x41 8))] : List Int)) Try.underlying258 bz5 (.cons (.pl rfl) (.cons (.pl rfl) (.nil))) rfl (fun _ => rfl) rfl rfl (by decide) (by decide) rfl fun b42 => ?_)
          obtain ⟨hk45, hF16⟩ := ckh hF16
          refine WL.step (WO.appendC (enc := (eI .u8)) Try.underlying258 ap5 (fun _ => rfl) oneI (.pl rfl) rfl (.pl rfl) (i := 5) rfl (m2 := 0) rfl (hk45) rfl fun A43 c44 => ?_)
          refine WL.q (Y.assign (.pl rfl)) rfl ?_
          refine WL.nil ?_
          refine W.go hK21 (.cons (i := 3) rfl (.cons (i := 23) rfl (.cons (i := 24) rfl (.cons (i := 25) rfl (.cons (i := 35) rfl (.cons (i := 36) rfl (.cons (i := 37) rfl (.nil)))))))) ?_
          -- region 10: search.go:68
          refine W.reg ?_
          obtain ⟨hk46, hF16⟩ := ckh hF16
          refine WL.q (Y.add (.pl rfl) (.pl rfl) (ok64_lt (hk46))) rfl ?_
          refine WL.q (Y.move (.pl rfl)) rfl ?_
          refine WL.nil ?_
          obtain rfl := Option.some.inj hF16
          exact W.again4 hK17 (b39 ++ ([(IntKind.u8.wrap x41), (IntKind.u8.wrap (shrI .i64 x41 8))] : List Int)) (v40 + 1) A43 c44 k16 hN16 (Nat.lt_succ_self _) (.cons rfl (.cons rfl (.nil))) (.cons (i := 23) rfl (.cons (i := 24) rfl (.cons (i := 25) rfl (.cons (i := 35) rfl (.cons (i := 36) rfl (.nil)))))) (fun wz hw => hw.pickK 6 [1, 2, 3, 4, 5] rfl)
        · replace hF16 := cneg hC20 hF16
          refine W.exit ?_
          obtain rfl := Option.some.inj hF16
          exact W.joinAt3 hK12 b39 A37 c38 (einr hN16) (.cons rfl (.nil)) (.cons (i := 23) rfl (.cons (i := 24) rfl (.cons (i := 25) rfl (.nil)))) (fun wz hw => hw.pickK 5 [0, 1, 2, 3, 4] rfl)
      · -- behind
        rintro b31 A29 c30 rfl
        -- region 11: search.go:66
        refine W.reg ?_
        obtain ⟨hk47, hF6⟩ := ckh hF6
        refine WL.q (Y.add (.pl rfl) (.pl rfl) (ok64_lt (hk47))) rfl ?_
        refine WL.q (Y.move (.pl rfl)) rfl ?_
        refine WL.nil ?_
        obtain rfl := Option.some.inj hF6
        exact W.again4 hK7 b31 (v28 + 1) A29 c30 k6 hN6 (Nat.lt_succ_self _) (.cons rfl (.cons rfl (.nil))) (.cons (i := 23) rfl (.cons (i := 24) rfl (.nil))) (fun wz hw => hw.pickK 5 [0, 1, 2, 3, 4] rfl)
    · replace hF6 := cneg hC10 hF6
      refine W.exit ?_
      obtain rfl := Option.some.inj hF6
      exact W.joinAt3 hK4 b27 A25 c26 (einr hN6) (.cons rfl (.nil)) (.nil) (fun wz hw => hw.pickK 5 [0, 1, 2, 3, 4] rfl)
  · -- behind
    rintro b24 A22 c23 rfl
    -- region 12: search.go:72
    refine W.seqR fun Q26 hQ26 => ?_
    refine WL.q (Y.move (.pl rfl)) rfl ?_
    refine WL.q (Y.bstr (xs := b24) Try.underlying258 Try.underlying5 Try.underlying9 (.pl rfl) rfl (i := 4) rfl) rfl ?_
    refine WL.q (Y.assign (.pl rfl)) rfl ?_
    refine WL.next hQ26 (.cons (i := 2) rfl (.nil)) ?_
    obtain rfl := Option.some.inj hF
    refine W.retV (fn := Try.f126) (vs := [.string (bstr b24)]) Try.results126 ⟨.tmp rfl, trivial⟩ (fun _ _ h => h) (fun wz hw => ?_)
    exact hR _ _ ⟨(), trivial, rfl, (hw.pickK 5 [0, 1, 2, 3] rfl)⟩

def search_finder_place (N : Nat) (self : (List Int) → (List Call) → Rel → (List (List Int)) → Int → (List Step) → (List (ByteArray × Bool)) → Option ((List (List Int)) × Int × (List Step) × (List (ByteArray × Bool)) × Bool)) (types2 : (List Int)) (calls6 : (List Call)) (ahead10 : Rel) (states13 : (List (List Int))) (placed15 : Int) (out18 : (List Step)) (failed20 : (List (ByteArray × Bool))) (i21 : Int) : Option ((List (List Int)) × Int × (List Step) × (List (ByteArray × Bool)) × Bool) :=
  bd (ix calls6 i21) fun (x22 : Call) =>
  bd ((cond ((decide ((bandI .u16 (shrI .u16 placed15 (IntKind.u64.wrap i21)) 1) = 1)) == false) (ax 12 0 ahead10.after i21) (some 0))) fun (x24 : Int) =>
  cond ((decide ((bandI .u16 (shrI .u16 placed15 (IntKind.u64.wrap i21)) 1) = 1)) || (!(decide ((bandI .u16 x24 placed15) = 0))))
    (some (states13, placed15, out18, failed20, false))
    (bd (ix states13 x22.thing) fun (x25 : (List Int)) =>
    bd (ix types2 x22.thing) fun (x26 : Int) =>
    bd (object_Step N x26 x25 x22.kind x22.arg) fun (r27 : ((List Int) × Int × Int)) =>
    cond ((!(decide (r27.2.2 = 0))) || ((!(decide (x22.to_ = (-1)))) && (!(decide (r27.2.1 = x22.res)))))
      (some (states13, placed15, out18, failed20, false))
      (ck (limB 16 ((out18).length + (([(Step.mk i21 r27.2.1)] : List Step)).length)) <|
      bd (self types2 calls6 ahead10 (states13.set x22.thing.toNat r27.1) (borI .u16 placed15 (shlI .u16 1 (IntKind.u64.wrap i21))) (out18 ++ ([(Step.mk i21 r27.2.1)] : List Step)) failed20) fun (r34 : ((List (List Int)) × Int × (List Step) × (List (ByteArray × Bool)) × Bool)) =>
      cond r34.2.2.2.2
        (some (r34.1, r34.2.1, r34.2.2.1, r34.2.2.2.1, true))
        (bd (ix r34.1 x22.thing) fun (x38 : (List Int)) =>
        ck (ok64 (((r34.2.2.1).length : Int) - 1)) <|
        ck (slB (r34.2.2.1).length 0 (((r34.2.2.1).length : Int) - 1)) <|
        some ((r34.1.set x22.thing.toNat x25), (bclrI .u16 r34.2.1 (shlI .u16 1 (IntKind.u64.wrap i21))), (r34.2.2.1.take (((r34.2.2.1).length : Int) - 1).toNat), r34.2.2.2.1, false))))

theorem search_finder_place_ok {N : Nat} {self : (List Int) → (List Call) → Rel → (List (List Int)) → Int → (List Step) → (List (ByteArray × Bool)) → Option ((List (List Int)) × Int × (List Step) × (List (ByteArray × Bool)) × Bool)} (ih : ∀ {types2 : (List Int)} {calls6 : (List Call)} {ahead10 : Rel} {states13 : (List (List Int))} {placed15 : Int} {out18 : (List Step)} {failed20 : (List (ByteArray × Bool))} {b1 : Nat} {A3 : Option Addr} {c4 : Nat} {A7 : Option Addr} {c8 : Nat} {A11 : Option Addr} {c12 : Nat} {hd14 : List Hd} {A16 : Option Addr} {c17 : Nat} {b19 : Nat} {res : ((List (List Int)) × Int × (List Step) × (List (ByteArray × Bool)) × Bool)} (hF : self types2 calls6 ahead10 states13 placed15 out18 failed20 = some res) {w0 w : World} {T : List Chunk} (hw : St w0.heap.size w0 ([cBx b1 183 (Value.slice A3 (types2).length c4 :: (Value.slice A7 (calls6).length c8 :: ((encRel ahead10) ++ (Value.slice A11 (states13).length c12 :: (Value.int .u16 placed15 :: (Value.slice A16 (out18).length c17 :: (Value.map (some b19) :: []))))))), cN encSl (innSl (eI .i64) 1 3) 1 A11 c12 47 hd14 states13, cR encStep 2 A16 c17 77 out18, cMS Value.bool (some b19) failed20] ++ T) w) (hs5 : SlIn (eI .i64) 1 w0 (.slice A3 (types2).length c4) types2) (hs9 : SlIn encCall 7 w0 (.slice A7 (calls6).length c8) calls6), Calls Try.prog 94 (List.toArray [.pointer (some ⟨b1, 0, none⟩)]) w (fun e w' => ∃ g : (List Hd × Option Addr × Nat), (True) ∧ e = .returned (.bool res.2.2.2.2) ∧ St w0.heap.size w0 ([cBx b1 183 (Value.slice A3 (types2).length c4 :: (Value.slice A7 (calls6).length c8 :: ((encRel ahead10) ++ (Value.slice A11 (res.1).length c12 :: (Value.int .u16 res.2.1 :: (Value.slice g.2.1 (res.2.2.1).length g.2.2 :: (Value.map (some b19) :: []))))))), cN encSl (innSl (eI .i64) 1 3) 1 A11 c12 47 g.1 res.1, cR encStep 2 g.2.1 g.2.2 77 res.2.2.1, cMS Value.bool (some b19) res.2.2.2.1] ++ T) w')) {types2 : (List Int)} {calls6 : (List Call)} {ahead10 : Rel} {states13 : (List (List Int))} {placed15 : Int} {out18 : (List Step)} {failed20 : (List (ByteArray × Bool))} {i21 : Int} {b1 : Nat} {A3 : Option Addr} {c4 : Nat} {A7 : Option Addr} {c8 : Nat} {A11 : Option Addr} {c12 : Nat} {hd14 : List Hd} {A16 : Option Addr} {c17 : Nat} {b19 : Nat} {res : ((List (List Int)) × Int × (List Step) × (List (ByteArray × Bool)) × Bool)} (hF : search_finder_place N self types2 calls6 ahead10 states13 placed15 out18 failed20 i21 = some res) {w0 w : World} {T : List Chunk} (hw : St w0.heap.size w0 ([cBx b1 183 (Value.slice A3 (types2).length c4 :: (Value.slice A7 (calls6).length c8 :: ((encRel ahead10) ++ (Value.slice A11 (states13).length c12 :: (Value.int .u16 placed15 :: (Value.slice A16 (out18).length c17 :: (Value.map (some b19) :: []))))))), cN encSl (innSl (eI .i64) 1 3) 1 A11 c12 47 hd14 states13, cR encStep 2 A16 c17 77 out18, cMS Value.bool (some b19) failed20] ++ T) w) (hs5 : SlIn (eI .i64) 1 w0 (.slice A3 (types2).length c4) types2) (hs9 : SlIn encCall 7 w0 (.slice A7 (calls6).length c8) calls6) :
    Calls Try.prog 127 (List.toArray [.pointer (some ⟨b1, 0, none⟩), .int .i64 i21]) w (fun e w' => ∃ g : (List Hd × Option Addr × Nat), (True) ∧ e = .returned (.bool res.2.2.2.2) ∧ St w0.heap.size w0 ([cBx b1 183 (Value.slice A3 (types2).length c4 :: (Value.slice A7 (calls6).length c8 :: ((encRel ahead10) ++ (Value.slice A11 (res.1).length c12 :: (Value.int .u16 res.2.1 :: (Value.slice g.2.1 (res.2.2.1).length g.2.2 :: (Value.map (some b19) :: []))))))), cN encSl (innSl (eI .i64) 1 3) 1 A11 c12 47 g.1 res.1, cR encStep 2 g.2.1 g.2.2 77 res.2.2.1, cMS Value.bool (some b19) res.2.2.2.1] ++ T) w') := by
  refine W.enter (n := 144) Try.func127 rfl rfl Sub.refl (by simp) hw fun R hR => ?_
  unfold search_finder_place at hF
  -- region 0: search.go:86
  refine W.seqR fun Q1 hQ1 => ?_
  refine WL.q (Y.assign (.pl rfl)) rfl ?_
  refine WL.next hQ1 (.cons (i := 0) rfl (.cons (i := 1) rfl (.nil))) ?_
  -- region 1: search.go:87
  refine W.seqR fun Q2 hQ2 => ?_
  refine WL.q (Y.move (.pl rfl)) rfl ?_
  refine WL.q (Y.nilCheck (.pl rfl)) rfl ?_
  refine WL.q (Y.fieldAddr0 (off := 1) (ft := 44) Try.underlying183 rfl cells44 (.pl rfl)) rfl ?_
  refine WL.q (Y.loadB (v := .slice A7 (calls6).length c8) Try.underlying44 rfl (.pl rfl) (i := 0) rfl (rfl)) rfl ?_
  refine WL.q (Y.move (.pl rfl)) rfl ?_
  obtain ⟨x22, hx22, hF⟩ := bnd hF
  refine WL.q (Y.slEl Try.underlying44 cells51 hs9 (.pl rfl) (.pl rfl) (ix_lt (hx22))) rfl ?_
  refine WL.q (Y.loadSA (enc := encCall) (ds := (encCall x22)) (j := 0) Try.underlying51 rfl cells51 hs9 (.pl rfl) (hx22) rfl rfl subW) rfl ?_
  refine WL.step (WO.alloc (cs := (encCall (Call.mk 0 0 0 0 0 0 0)).toArray) zero51 rfl rfl fun b23 => ?_)
  refine WL.step (WO.storeBA (ds := (encCall x22)) (cs' := (encCall x22)) cells51 (.pl rfl) (.pl rfl) rfl (oneCall _) (i := 0) rfl (lel (o := 0) (l := 7) (m := 7) (by decide) rfl rfl) (putW rfl) ?_)
  refine WL.next hQ2 (.cons (i := 0) rfl (.cons (i := 1) rfl (.cons (i := 5) rfl (.nil)))) ?_
  refine W.seq fun K3 hK3 => ?_
  -- region 2: search.go:88
  refine W.seqD (by kernel_rfl) (by kernel_rfl) fun R4 hR4 => ?_
  refine WD.q (Y.move (.pl rfl)) rfl ?_
  refine WD.q (Y.nilCheck (.pl rfl)) rfl ?_
  refine WD.q (Y.fieldAddr0 (off := 16) (ft := 112) Try.underlying183 rfl cells112 (.pl rfl)) rfl ?_
  refine WD.q (Y.loadB (v := .int .u16 placed15) Try.underlying112 rfl (.pl rfl) (i := 1) rfl (rfl)) rfl ?_
  refine WD.q (Y.move (.pl rfl)) rfl ?_
  refine WD.q (Y.conv Try.underlying3 Try.underlying179 (.pl rfl)) rfl ?_
  refine WD.q (Y.shr (.pl rfl) (.pl rfl) (wrapU_nn rfl _)) rfl ?_
  refine WD.q (Y.band (.pl rfl) (.pl rfl)) rfl ?_
  refine WD.q (Y.eql (.pl rfl) (.pl rfl)) rfl ?_
  refine WD.q (Y.move (.pl rfl)) rfl ?_
  refine WD.g (.pl rfl rfl rfl) (fun hg => Y.move (.pl rfl)) rfl ?_
  refine WD.g (.pl rfl rfl rfl) (fun hg => Y.move (.pl rfl)) rfl ?_
  refine WD.g (.pl rfl rfl rfl) (fun hg => Y.nilCheck (.gd (hg) rfl)) rfl ?_
  refine WD.g (.pl rfl rfl rfl) (fun hg => Y.fieldAddr0 (off := 2) (ft := 115) Try.underlying183 rfl cells115 (.gd (hg) rfl)) rfl ?_
  refine WD.g (.pl rfl rfl rfl) (fun hg => Y.fieldAddr (off := 1) (ft := 113) Try.underlying115 rfl cells113 (.gd (hg) rfl)) rfl ?_
  obtain ⟨x24, hx24, hF⟩ := bnd hF
  refine WD.g (.pl rfl rfl rfl) (fun hg => Y.arrZ Try.underlying113 cells112 (.gd (hg) rfl) (.gd (hg) rfl) (ax_lt (gpos hg hx24))) rfl ?_
  refine WD.g (.pl rfl rfl rfl) (fun hg => Y.loadB (v := .int .u16 x24) Try.underlying112 rfl (.gd (hg) rfl) (i := 1) rfl (cellsA (pre := (Value.slice A3 (types2).length c4 :: (Value.slice A7 (calls6).length c8 :: (Value.int .i64 ahead10.n :: [])))) (off := 3) (post := (Value.slice A11 (states13).length c12 :: (Value.int .u16 placed15 :: (Value.slice A16 (out18).length c17 :: (Value.map (some b19) :: []))))) (a := ahead10.after) (enc := (eI .u16)) (d := 0) (n := 12) (sz := 1) (j := 0) (fun _ => rfl) rfl (ax_nat (gpos hg hx24)) (ax_get (gpos hg hx24)) rfl)) rfl ?_
  refine WD.g (.pl rfl rfl rfl) (fun hg => Y.move (.pl rfl)) rfl ?_
  refine WD.g (.pl rfl rfl rfl) (fun hg => Y.nilCheck (.gd (hg) rfl)) rfl ?_
  refine WD.g (.pl rfl rfl rfl) (fun hg => Y.fieldAddr0 (off := 16) (ft := 112) Try.underlying183 rfl cells112 (.gd (hg) rfl)) rfl ?_
  refine WD.g (.pl rfl rfl rfl) (fun hg => Y.loadB (v := .int .u16 placed15) Try.underlying112 rfl (.gd (hg) rfl) (i := 1) rfl (rfl)) rfl ?_
  refine WD.g (.pl rfl rfl rfl) (fun hg => Y.band (.gd (hg) rfl) (.gd (hg) rfl)) rfl ?_
  refine WD.g (.pl rfl rfl rfl) (fun hg => Y.neq (.gd (hg) rfl) (.pl rfl)) rfl ?_
  refine WD.q (Y.or (.pl rfl) (fun h2 => .gd (eqf h2) rfl)) rfl ?_
  refine WD.next hR4 (.cons (i := 0) rfl (.cons (i := 1) rfl (.cons (i := 5) rfl (.cons (i := 40) rfl (.nil))))) ?_
  refine W.cond (.pl rfl) (fun hC5 => ?_) (fun hC5 => ?_)
  · replace hF := cpos hC5 hF
    -- region 3: search.go:89
    refine W.seqR fun Q6 hQ6 => ?_
    refine WL.q (Y.assign (.pl rfl)) rfl ?_
    refine WL.next hQ6 (.cons (i := 4) rfl (.nil)) ?_
    obtain rfl := Option.some.inj hF
    refine W.retV (fn := Try.f127) (vs := [.bool false]) Try.results127 ⟨.tmp rfl, trivial⟩ (fun _ _ h => h) (fun wz hw => ?_)
    exact hR _ _ ⟨(hd14, A16, c17), trivial, rfl, (hw.pickK 5 [1, 2, 3, 4] rfl)⟩
  · replace hF := cneg hC5 hF
    refine W.skip ?_
    refine W.go hK3 (.cons (i := 0) rfl (.cons (i := 1) rfl (.cons (i := 5) rfl (.nil)))) ?_
    -- region 4: search.go:91
    refine W.seqD (by kernel_rfl) (by kernel_rfl) fun R7 hR7 => ?_
    refine WD.q (Y.move (.pl rfl)) rfl ?_
    refine WD.q (Y.nilCheck (.pl rfl)) rfl ?_
    refine WD.q (Y.fieldAddr0 (off := 15) (ft := 142) Try.underlying183 rfl cells142 (.pl rfl)) rfl ?_
    refine WD.q (Y.loadB (v := .slice A11 (states13).length c12) Try.underlying142 rfl (.pl rfl) (i := 1) rfl (rfl)) rfl ?_
    refine WD.q (Y.fieldAddr0 (off := 1) (ft := 3) Try.underlying51 rfl cells3 (.pl rfl)) rfl ?_
    refine WD.q (Y.loadB (v := .int .i64 x22.thing) Try.underlying3 rfl (.pl rfl) (i := 0) rfl (rfl)) rfl ?_
    obtain ⟨x25, hx25, hF⟩ := bnd hF
    refine WD.q (Y.nEl Try.underlying142 cells47 (i := 2) rfl (.pl rfl) rfl (.pl rfl) (ix_lt (hx25))) rfl ?_
    refine WD.q (Y.loadN (enc := encSl) (h0 := ((none, 0) : Hd)) (v := .slice (hd14.getD x22.thing.toNat ((none, 0) : Hd)).1 (x25).length (hd14.getD x22.thing.toNat ((none, 0) : Hd)).2) (a := x25) (idx := x22.thing) (j := 0) Try.underlying47 rfl lenSl (i := 2) rfl (.pl rfl) (ix_get (hx25)) rfl rfl) rfl ?_
    refine WD.q (Y.assign (.pl rfl)) rfl ?_
    refine WD.next hR7 (.cons (i := 0) rfl (.cons (i := 1) rfl (.cons (i := 5) rfl (.cons (i := 6) rfl (.nil))))) ?_
    -- region 5: search.go:92
    refine W.seqX 20 (by kernel_rfl) fun K8 hK8 => ?_
    refine WX.pure 0 #[true, false, false, false, false, false, false, false, false, false, false, false, false, false, false, false, false, false, false, false, false] rfl (by kernel_rfl) (fun _ _ => Y.move (.pl rfl)) rfl ?_
    refine WX.pure 1 #[true, true, false, false, false, false, false, false, false, false, false, false, false, false, false, false, false, false, false, false, false] rfl (by kernel_rfl) (fun _ _ => Y.nilCheck (.pl rfl)) rfl ?_
    refine WX.pure 2 #[true, true, true, false, false, false, false, false, false, false, false, false, false, false, false, false, false, false, false, false, false] rfl (by kernel_rfl) (fun _ _ => Y.fieldAddr0 (off := 0) (ft := 47) Try.underlying183 rfl cells47 (.pl rfl)) rfl ?_
    refine WX.take 3 #[true, true, true, true, false, false, false, false, false, false, false, false, false, false, false, false, false, false, false, false, false] (fun wz hw => St.tail [] hw) rfl (by kernel_rfl) (Y.loadB (v := .slice A3 (types2).length c4) Try.underlying47 rfl (.pl rfl) (i := 1) rfl (rfl)) rfl ?_
    refine WX.pure 4 #[true, true, true, true, true, false, false, false, false, false, false, false, false, false, false, false, false, false, false, false, false] rfl (by kernel_rfl) (fun _ _ => Y.fieldAddr0 (off := 1) (ft := 3) Try.underlying51 rfl cells3 (.pl rfl)) rfl ?_
    refine WX.take 5 #[true, true, true, true, true, true, false, false, false, false, false, false, false, false, false, false, false, false, false, false, false] (fun wz hw => St.tail [] hw) rfl (by kernel_rfl) (Y.loadB (v := .int .i64 x22.thing) Try.underlying3 rfl (.pl rfl) (i := 0) rfl (rfl)) rfl ?_
    obtain ⟨x26, hx26, hF⟩ := bnd hF
    refine WX.take 6 #[true, true, true, true, true, true, true, false, false, false, false, false, false, false, false, false, false, false, false, false, false] (fun wz hw => St.tail [] hw) rfl (by kernel_rfl) (Y.slEl Try.underlying47 cells3 hs5 (.pl rfl) (.pl rfl) (ix_lt (hx26))) rfl ?_
    refine WX.take 7 #[true, true, true, true, true, true, true, true, false, false, false, false, false, false, false, false, false, false, false, false, false] (fun wz hw => St.tail [] hw) rfl (by kernel_rfl) (Y.loadS (enc := (eI .i64)) (v := .int .i64 x26) (j := 0) Try.underlying3 rfl hs5 (.pl rfl) (hx26) rfl rfl) rfl ?_
    refine WX.pure 8 #[true, true, true, true, true, true, true, true, true, false, false, false, false, false, false, false, false, false, false, false, false] rfl (by kernel_rfl) (fun _ _ => Y.move (.pl rfl)) rfl ?_
    refine WX.pure 9 #[true, true, true, true, true, true, true, true, true, true, false, false, false, false, false, false, false, false, false, false, false] rfl (by kernel_rfl) (fun _ _ => Y.fieldAddr0 (off := 2) (ft := 3) Try.underlying51 rfl cells3 (.pl rfl)) rfl ?_
    refine WX.take 10 #[true, true, true, true, true, true, true, true, true, true, true, false, false, false, false, false, false, false, false, false, false] (fun wz hw => St.tail [] hw) rfl (by kernel_rfl) (Y.loadB (v := .int .i64 x22.kind) Try.underlying3 rfl (.pl rfl) (i := 0) rfl (rfl)) rfl ?_
    refine WX.pure 11 #[true, true, true, true, true, true, true, true, true, true, true, true, false, false, false, false, false, false, false, false, false] rfl (by kernel_rfl) (fun _ _ => Y.fieldAddr0 (off := 3) (ft := 3) Try.underlying51 rfl cells3 (.pl rfl)) rfl ?_
    refine WX.take 12 #[true, true, true, true, true, true, true, true, true, true, true, true, true, false, false, false, false, false, false, false, false] (fun wz hw => St.tail [] hw) rfl (by kernel_rfl) (Y.loadB (v := .int .i64 x22.arg) Try.underlying3 rfl (.pl rfl) (i := 0) rfl (rfl)) rfl ?_
    obtain ⟨r27, hr27, hF⟩ := bnd hF
    refine WX.one 13 #[true, true, true, true, true, true, true, true, true, true, true, true, true, true, false, false, false, false, false, false, false] (fun wz hw => St.tail [] hw) rfl (by kernel_rfl) (WO.callM isGo110 (.cons (.pl rfl) (.cons (.pl rfl) (.cons (.pl rfl) (.cons (.pl rfl) (.nil))))) rfl (fun wz hw => object_Step_ok (hr27) wz (SlIn.inN (enc2 := (eI .i64)) (sz2 := 1) (E2 := 3) (h0 := ((none, 0) : Hd)) (fun _ => rfl) hw (i := 2) rfl (hx25) (.head _))) ?_)
    rintro ⟨A28, c29⟩ -
    refine WX.pure 14 #[true, true, true, true, true, true, true, true, true, true, true, true, true, true, true, false, false, false, false, false, false] rfl (by kernel_rfl) (fun _ _ => Y.move (.pl rfl)) rfl ?_
    refine WX.pure 15 #[true, true, true, true, true, true, true, true, true, true, true, true, true, true, true, true, false, false, false, false, false] rfl (by kernel_rfl) (fun _ _ => Y.extract (.pl rfl) rfl) rfl ?_
    refine WX.pure 16 #[true, true, true, true, true, true, true, true, true, true, true, true, true, true, true, true, true, false, false, false, false] rfl (by kernel_rfl) (fun _ _ => Y.extract (.pl rfl) rfl) rfl ?_
    refine WX.pure 17 #[true, true, true, true, true, true, true, true, true, true, true, true, true, true, true, true, true, true, false, false, false] rfl (by kernel_rfl) (fun _ _ => Y.extract (.pl rfl) rfl) rfl ?_
    refine WX.pure 18 #[true, true, true, true, true, true, true, true, true, true, true, true, true, true, true, true, true, true, true, false, false] rfl (by kernel_rfl) (fun _ _ => Y.assign (.pl rfl)) rfl ?_
    refine WX.pure 19 #[true, true, true, true, true, true, true, true, true, true, true, true, true, true, true, true, true, true, true, true, false] rfl (by kernel_rfl) (fun _ _ => Y.assign (.pl rfl)) rfl ?_
    refine WX.stop #[true, true, true, true, true, true, true, true, true, true, true, true, true, true, true, true, true, true, true, true, true] (fun wz hw => St.tail [_] hw) rfl (by kernel_rfl) (WO.q (Y.assign (.pl rfl)) rfl ?_)
    refine WA.done (by kernel_rfl) ?_
    refine KK.next hK8 (.cons (i := 0) rfl (.cons (i := 1) rfl (.cons (i := 5) rfl (.cons (i := 6) rfl (.cons (i := 7) rfl (.cons (i := 8) rfl (.cons (i := 9) rfl (.nil)))))))) ?_
    refine W.seq fun K9 hK9 => ?_
    -- region 6: search.go:93
    refine W.seqR fun Q10 hQ10 => ?_
    refine WL.q (Y.move (.pl rfl)) rfl ?_
    refine WL.q (Y.neq (.pl rfl) (.pl rfl)) rfl ?_
    refine WL.q (Y.move (.pl rfl)) rfl ?_
    refine WL.g (.pl rfl rfl rfl) (fun hg => Y.fieldAddr0 (off := 6) (ft := 3) Try.underlying51 rfl cells3 (.pl rfl)) rfl ?_
    refine WL.g (.pl rfl rfl rfl) (fun hg => Y.loadB (v := .int .i64 x22.to_) Try.underlying3 rfl (.gd (hg) rfl) (i := 1) rfl (rfl)) rfl ?_
    refine WL.g (.pl rfl rfl rfl) (fun hg => Y.neq (.gd (hg) rfl) (.pl rfl)) rfl ?_
    refine WL.g (.pl rfl rfl rfl) (fun hg => Y.move (.gd (hg) rfl)) rfl ?_
    refine WL.g (.gd rfl rfl rfl) (fun hg => Y.move (.pl rfl)) rfl ?_
    refine WL.g (.gd rfl rfl rfl) (fun hg => Y.fieldAddr0 (off := 4) (ft := 3) Try.underlying51 rfl cells3 (.pl rfl)) rfl ?_
    refine WL.g (.gd rfl rfl rfl) (fun hg => Y.loadB (v := .int .i64 x22.res) Try.underlying3 rfl (.gd (hg) rfl) (i := 1) rfl (rfl)) rfl ?_
    refine WL.g (.gd rfl rfl rfl) (fun hg => Y.neq (.gd (hg) rfl) (.gd (hg) rfl)) rfl ?_
    refine WL.g (.pl rfl rfl rfl) (fun hg => Y.and (.gd (hg) rfl) (fun h2 => .gd (band hg (eqt h2)) rfl)) rfl ?_
    refine WL.q (Y.or (.pl rfl) (fun h2 => .gd (eqf h2) rfl)) rfl ?_
    refine WL.next hQ10 (.cons (i := 0) rfl (.cons (i := 1) rfl (.cons (i := 5) rfl (.cons (i := 6) rfl (.cons (i := 7) rfl (.cons (i := 8) rfl (.cons (i := 79) rfl (.nil)))))))) ?_
    refine W.cond (.pl rfl) (fun hC11 => ?_) (fun hC11 => ?_)
    · replace hF := cpos hC11 hF
      -- region 7: search.go:94
      refine W.seqR fun Q12 hQ12 => ?_
      refine WL.q (Y.assign (.pl rfl)) rfl ?_
      refine WL.next hQ12 (.cons (i := 4) rfl (.nil)) ?_
      obtain rfl := Option.some.inj hF
      refine W.retV (fn := Try.f127) (vs := [.bool false]) Try.results127 ⟨.tmp rfl, trivial⟩ (fun _ _ h => h) (fun wz hw => ?_)
      exact hR _ _ ⟨(hd14, A16, c17), trivial, rfl, (hw.pickK 6 [2, 3, 4, 5] rfl)⟩
    · replace hF := cneg hC11 hF
      refine W.skip ?_
      refine W.go hK9 (.cons (i := 0) rfl (.cons (i := 1) rfl (.cons (i := 5) rfl (.cons (i := 6) rfl (.cons (i := 7) rfl (.cons (i := 8) rfl (.nil))))))) ?_
      -- region 8: search.go:96
      refine W.seqT 8 (by kernel_rfl) (by kernel_rfl) fun Q13 hQ13 => ?_
      refine WS.q (Y.move (.pl rfl)) rfl ?_
      refine WS.q (Y.nilCheck (.pl rfl)) rfl ?_
      refine WS.q (Y.fieldAddr0 (off := 15) (ft := 142) Try.underlying183 rfl cells142 (.pl rfl)) rfl ?_
      refine WS.q (Y.loadB (v := .slice A11 (states13).length c12) Try.underlying142 rfl (.pl rfl) (i := 2) rfl (rfl)) rfl ?_
      refine WS.q (Y.fieldAddr0 (off := 1) (ft := 3) Try.underlying51 rfl cells3 (.pl rfl)) rfl ?_
      refine WS.q (Y.loadB (v := .int .i64 x22.thing) Try.underlying3 rfl (.pl rfl) (i := 1) rfl (rfl)) rfl ?_
      refine WS.q (Y.move (.pl rfl)) rfl ?_
      refine WS.q (Y.nEl Try.underlying142 cells47 (i := 3) rfl (.pl rfl) rfl (.pl rfl) (ix_lt (hx25))) rfl ?_
      refine WS.tail ?_
      refine WL.ent (Ent.hole (h0 := ((none, 0) : Hd)) (i := 3) rfl (ix_get (hx25))) ?_
      refine WL.step (WO.storeH (enc := encSl) (inn := (innSl (eI .i64) 1 3)) (h0 := ((none, 0) : Hd)) (h' := ((A28, c29) : Hd)) (a := x25) (a' := r27.1) (idx := x22.thing) (j := 0) cells47 (.pl rfl) (.pl rfl) rfl lenSl (i := 1) rfl (ix_get (hx25)) rfl (by decide) rfl (.pickN 6 [1, 0, 2, 3, 4, 5] rfl) ?_)
      refine WL.next hQ13 (.cons (i := 0) rfl (.cons (i := 1) rfl (.cons (i := 5) rfl (.cons (i := 6) rfl (.cons (i := 8) rfl (.nil)))))) ?_
      -- region 9: search.go:97
      refine W.seqR fun Q14 hQ14 => ?_
      refine WL.q (Y.move (.pl rfl)) rfl ?_
      refine WL.q (Y.nilCheck (.pl rfl)) rfl ?_
      refine WL.q (Y.fieldAddr0 (off := 16) (ft := 112) Try.underlying183 rfl cells112 (.pl rfl)) rfl ?_
      refine WL.q (Y.loadB (v := .int .u16 placed15) Try.underlying112 rfl (.pl rfl) (i := 3) rfl (rfl)) rfl ?_
      refine WL.q (Y.move (.pl rfl)) rfl ?_
      refine WL.q (Y.conv Try.underlying3 Try.underlying179 (.pl rfl)) rfl ?_
      refine WL.q (Y.shl (.pl rfl) (.pl rfl) (wrapU_nn rfl _)) rfl ?_
      refine WL.q (Y.bor (.pl rfl) (.pl rfl)) rfl ?_
      refine WL.q (Y.nilCheck (.pl rfl)) rfl ?_
      refine WL.q (Y.fieldAddr0 (off := 16) (ft := 112) Try.underlying183 rfl cells112 (.pl rfl)) rfl ?_
      refine WL.step (WO.storeB (cs' := (Value.slice A3 (types2).length c4 :: (Value.slice A7 (calls6).length c8 :: ((encRel ahead10) ++ (Value.slice A11 (states13).length c12 :: (Value.int .u16 (borI .u16 placed15 (shlI .u16 1 (IntKind.u64.wrap i21))) :: (Value.slice A16 (out18).length c17 :: (Value.map (some b19) :: [])))))))) cells112 (.pl rfl) (.pl rfl) rfl (i := 3) rfl (ltl (m := 19) (by decide) rfl) (rfl) ?_)
      refine WL.next hQ14 (.cons (i := 0) rfl (.cons (i := 1) rfl (.cons (i := 5) rfl (.cons (i := 6) rfl (.cons (i := 8) rfl (.nil)))))) ?_
      -- region 10: search.go:98
      refine W.seqR fun Q15 hQ15 => ?_
      refine WL.q (Y.move (.pl rfl)) rfl ?_
      refine WL.q (Y.move (.pl rfl)) rfl ?_
      refine WL.q (Y.nilCheck (.pl rfl)) rfl ?_
      refine WL.q (Y.fieldAddr0 (off := 17) (ft := 53) Try.underlying183 rfl cells53 (.pl rfl)) rfl ?_
      refine WL.q (Y.loadB (v := .slice A16 (out18).length c17) Try.underlying53 rfl (.pl rfl) (i := 3) rfl (rfl)) rfl ?_
      refine WL.q (Y.move (.pl rfl)) rfl ?_
      refine WL.q (Y.move (.pl rfl)) rfl ?_
      refine WL.q (Y.build (cs := (encStep (Step.mk i21 r27.2.1)).toArray) shape77 (.cons (.pl rfl) (.cons (.pl rfl) (.nil))) (one_parts ⟨rfl, ⟨rfl, trivial⟩⟩) rfl) rfl ?_
      refine WL.step (WO.bsliceC (enc := encStep) (ys := ([(Step.mk i21 r27.2.1)] : List Step)) Try.underlying53 bz77 (.cons (.pl rfl) (.nil)) rfl lenStep rfl rfl (by decide) (by decide) rfl fun b30 => ?_)
      obtain ⟨hk33, hF⟩ := ckh hF
      refine WL.step (WO.appendC (enc := encStep) Try.underlying53 ap77 lenStep oneStep (.pl rfl) rfl (.pl rfl) (i := 5) rfl (m2 := 0) rfl (hk33) rfl fun A31 c32 => ?_)
      refine WL.q (Y.nilCheck (.pl rfl)) rfl ?_
      refine WL.q (Y.fieldAddr0 (off := 17) (ft := 53) Try.underlying183 rfl cells53 (.pl rfl)) rfl ?_
      refine WL.step (WO.storeB (cs' := (Value.slice A3 (types2).length c4 :: (Value.slice A7 (calls6).length c8 :: ((encRel ahead10) ++ (Value.slice A11 (states13).length c12 :: (Value.int .u16 (borI .u16 placed15 (shlI .u16 1 (IntKind.u64.wrap i21))) :: (Value.slice A31 ((out18 ++ ([(Step.mk i21 r27.2.1)] : List Step))).length c32 :: (Value.map (some b19) :: [])))))))) cells53 (.pl rfl) (.pl rfl) rfl (i := 4) rfl (ltl (m := 19) (by decide) rfl) (rfl) ?_)
      refine WL.next hQ15 (.cons (i := 0) rfl (.cons (i := 1) rfl (.cons (i := 5) rfl (.cons (i := 6) rfl (.nil))))) ?_
      refine W.seq fun K16 hK16 => ?_
      -- region 11: search.go:99
      refine W.seqR fun Q17 hQ17 => ?_
      refine WL.q (Y.move (.pl rfl)) rfl ?_
      obtain ⟨r34, hr34, hF⟩ := bnd hF
      refine WL.step (WO.call (γ := (List Hd × Option Addr × Nat)) (fun g => .bool r34.2.2.2.2) (fun g => ([cBx b1 183 (Value.slice A3 (types2).length c4 :: (Value.slice A7 (calls6).length c8 :: ((encRel ahead10) ++ (Value.slice A11 (r34.1).length c12 :: (Value.int .u16 r34.2.1 :: (Value.slice g.2.1 (r34.2.2.1).length g.2.2 :: (Value.map (some b19) :: []))))))), cN encSl (innSl (eI .i64) 1 3) 1 A11 c12 47 g.1 r34.1, cR encStep 2 g.2.1 g.2.2 77 r34.2.2.1, cMS Value.bool (some b19) r34.2.2.2.1, cR encStep 2 (some ⟨b30, 0, none⟩) (([(Step.mk i21 r27.2.1)] : List Step)).length 77 ([(Step.mk i21 r27.2.1)] : List Step), cR (eI .i64) 1 (hd14.getD x22.thing.toNat ((none, 0) : Hd)).1 (hd14.getD x22.thing.toNat ((none, 0) : Hd)).2 3 x25, cBx b23 51 (encCall x22)] ++ T)) (fun g => True) isGo94 (.cons (.pl rfl) (.nil)) rfl (fun wz hw => ih (T := ([cR encStep 2 (some ⟨b30, 0, none⟩) (([(Step.mk i21 r27.2.1)] : List Step)).length 77 ([(Step.mk i21 r27.2.1)] : List Step), cR (eI .i64) 1 (hd14.getD x22.thing.toNat ((none, 0) : Hd)).1 (hd14.getD x22.thing.toNat ((none, 0) : Hd)).2 3 x25, cBx b23 51 (encCall x22)] ++ T)) (b1 := b1) (A3 := A3) (c4 := c4) (A7 := A7) (c8 := c8) (A11 := A11) (c12 := c12) (hd14 := (hd14.set x22.thing.toNat ((A28, c29) : Hd))) (A16 := A31) (c17 := c32) (b19 := b19) (hr34) (St.cong (L := ([cBx b1 183 (Value.slice A3 (types2).length c4 :: (Value.slice A7 (calls6).length c8 :: ((encRel ahead10) ++ (Value.slice A11 (states13).length c12 :: (Value.int .u16 (borI .u16 placed15 (shlI .u16 1 (IntKind.u64.wrap i21))) :: (Value.slice A31 ((out18 ++ ([(Step.mk i21 r27.2.1)] : List Step))).length c32 :: (Value.map (some b19) :: []))))))), cN encSl (innSl (eI .i64) 1 3) 1 A11 c12 47 (hd14.set x22.thing.toNat ((A28, c29) : Hd)) (states13.set x22.thing.toNat r27.1), cR encStep 2 A31 c32 77 (out18 ++ ([(Step.mk i21 r27.2.1)] : List Step)), cMS Value.bool (some b19) failed20, cR encStep 2 (some ⟨b30, 0, none⟩) (([(Step.mk i21 r27.2.1)] : List Step)).length 77 ([(Step.mk i21 r27.2.1)] : List Step), cR (eI .i64) 1 (hd14.getD x22.thing.toNat ((none, 0) : Hd)).1 (hd14.getD x22.thing.toNat ((none, 0) : Hd)).2 3 x25, cBx b23 51 (encCall x22)] ++ T)) (hw.pickK 7 [4, 1, 5, 6, 0, 2, 3] rfl) (by simp only [List.length_set, List.nil_append, List.cons_append])) hs5 hs9) ?_)
      rintro ⟨hd35, A36, c37⟩ -
      refine WL.next hQ17 (.cons (i := 0) rfl (.cons (i := 1) rfl (.cons (i := 5) rfl (.cons (i := 6) rfl (.cons (i := 111) rfl (.nil)))))) ?_
      refine W.cond (.pl rfl) (fun hC18 => ?_) (fun hC18 => ?_)
      · replace hF := cpos hC18 hF
        -- region 12: search.go:100
        refine W.seqR fun Q19 hQ19 => ?_
        refine WL.q (Y.assign (.pl rfl)) rfl ?_
        refine WL.next hQ19 (.cons (i := 4) rfl (.nil)) ?_
        obtain rfl := Option.some.inj hF
        refine W.retV (fn := Try.f127) (vs := [.bool true]) Try.results127 ⟨.tmp rfl, trivial⟩ (fun _ _ h => h) (fun wz hw => ?_)
        exact hR _ _ ⟨(hd35, A36, c37), trivial, rfl, (hw.pickK 7 [0, 1, 2, 3] rfl)⟩
      · replace hF := cneg hC18 hF
        refine W.skip ?_
        refine W.go hK16 (.cons (i := 0) rfl (.cons (i := 1) rfl (.cons (i := 5) rfl (.cons (i := 6) rfl (.nil))))) ?_
        -- region 13: search.go:102
        refine W.seqT 8 (by kernel_rfl) (by kernel_rfl) fun Q20 hQ20 => ?_
        refine WS.q (Y.move (.pl rfl)) rfl ?_
        refine WS.q (Y.nilCheck (.pl rfl)) rfl ?_
        refine WS.q (Y.fieldAddr0 (off := 15) (ft := 142) Try.underlying183 rfl cells142 (.pl rfl)) rfl ?_
        refine WS.q (Y.loadB (v := .slice A11 (r34.1).length c12) Try.underlying142 rfl (.pl rfl) (i := 0) rfl (rfl)) rfl ?_
        refine WS.q (Y.fieldAddr0 (off := 1) (ft := 3) Try.underlying51 rfl cells3 (.pl rfl)) rfl ?_
        refine WS.q (Y.loadB (v := .int .i64 x22.thing) Try.underlying3 rfl (.pl rfl) (i := 6) rfl (rfl)) rfl ?_
        refine WS.q (Y.move (.pl rfl)) rfl ?_
        obtain ⟨x38, hx38, hF⟩ := bnd hF
        refine WS.q (Y.nEl Try.underlying142 cells47 (i := 1) rfl (.pl rfl) rfl (.pl rfl) (ix_lt (hx38))) rfl ?_
        refine WS.tail ?_
        refine WL.ent (Ent.hole (h0 := ((none, 0) : Hd)) (i := 1) rfl (ix_get (hx38))) ?_
        refine WL.step (WO.storeH (enc := encSl) (inn := (innSl (eI .i64) 1 3)) (h0 := ((none, 0) : Hd)) (h' := (((hd14.getD x22.thing.toNat ((none, 0) : Hd)).1, (hd14.getD x22.thing.toNat ((none, 0) : Hd)).2) : Hd)) (a := x38) (a' := x25) (idx := x22.thing) (j := 0) cells47 (.pl rfl) (.pl rfl) rfl lenSl (i := 1) rfl (ix_get (hx38)) rfl (by decide) rfl (.pickN 7 [5, 0, 1, 2, 3, 4, 6] rfl) ?_)
        refine WL.next hQ20 (.cons (i := 0) rfl (.cons (i := 1) rfl (.nil))) ?_
        -- region 14: search.go:103
        refine W.seqR fun Q21 hQ21 => ?_
        refine WL.q (Y.move (.pl rfl)) rfl ?_
        refine WL.q (Y.nilCheck (.pl rfl)) rfl ?_
        refine WL.q (Y.fieldAddr0 (off := 16) (ft := 112) Try.underlying183 rfl cells112 (.pl rfl)) rfl ?_
        refine WL.q (Y.loadB (v := .int .u16 r34.2.1) Try.underlying112 rfl (.pl rfl) (i := 2) rfl (rfl)) rfl ?_
        refine WL.q (Y.move (.pl rfl)) rfl ?_
        refine WL.q (Y.conv Try.underlying3 Try.underlying179 (.pl rfl)) rfl ?_
        refine WL.q (Y.shl (.pl rfl) (.pl rfl) (wrapU_nn rfl _)) rfl ?_
        refine WL.q (Y.bclr (.pl rfl) (.pl rfl)) rfl ?_
        refine WL.q (Y.nilCheck (.pl rfl)) rfl ?_
        refine WL.q (Y.fieldAddr0 (off := 16) (ft := 112) Try.underlying183 rfl cells112 (.pl rfl)) rfl ?_
        refine WL.step (WO.storeB (cs' := (Value.slice A3 (types2).length c4 :: (Value.slice A7 (calls6).length c8 :: ((encRel ahead10) ++ (Value.slice A11 (r34.1).length c12 :: (Value.int .u16 (bclrI .u16 r34.2.1 (shlI .u16 1 (IntKind.u64.wrap i21))) :: (Value.slice A36 (r34.2.2.1).length c37 :: (Value.map (some b19) :: [])))))))) cells112 (.pl rfl) (.pl rfl) rfl (i := 2) rfl (ltl (m := 19) (by decide) rfl) (rfl) ?_)
        refine WL.next hQ21 (.cons (i := 0) rfl (.nil)) ?_
        -- region 15: search.go:104
        refine W.seqT 14 (by kernel_rfl) (by kernel_rfl) fun Q22 hQ22 => ?_
        refine WS.q (Y.move (.pl rfl)) rfl ?_
        refine WS.q (Y.move (.pl rfl)) rfl ?_
        refine WS.q (Y.nilCheck (.pl rfl)) rfl ?_
        refine WS.q (Y.fieldAddr0 (off := 17) (ft := 53) Try.underlying183 rfl cells53 (.pl rfl)) rfl ?_
        refine WS.q (Y.loadB (v := .slice A36 (r34.2.2.1).length c37) Try.underlying53 rfl (.pl rfl) (i := 2) rfl (rfl)) rfl ?_
        refine WS.q (Y.move (.pl rfl)) rfl ?_
        refine WS.q (Y.nilCheck (.pl rfl)) rfl ?_
        refine WS.q (Y.fieldAddr0 (off := 17) (ft := 53) Try.underlying183 rfl cells53 (.pl rfl)) rfl ?_
        refine WS.q (Y.loadB (v := .slice A36 (r34.2.2.1).length c37) Try.underlying53 rfl (.pl rfl) (i := 2) rfl (rfl)) rfl ?_
        refine WS.q (Y.len Try.underlying53 (.pl rfl)) rfl ?_
        obtain ⟨hk39, hF⟩ := ckh hF
        refine WS.q (Y.sub (.pl rfl) (.pl rfl) (ok64_lt (hk39))) rfl ?_
        obtain ⟨hk40, hF⟩ := ckh hF
        refine WS.q (Y.sliceR0 Try.underlying53 cells77 (i := 3) rfl (.pl rfl) rfl (.pl rfl) (hk40)) rfl ?_
        refine WS.q (Y.nilCheck (.pl rfl)) rfl ?_
        refine WS.q (Y.fieldAddr0 (off := 17) (ft := 53) Try.underlying183 rfl cells53 (.pl rfl)) rfl ?_
        refine WS.tail ?_
        refine WL.step (WO.storeB (cs' := (Value.slice A3 (types2).length c4 :: (Value.slice A7 (calls6).length c8 :: ((encRel ahead10) ++ (Value.slice A11 (r34.1).length c12 :: (Value.int .u16 (bclrI .u16 r34.2.1 (shlI .u16 1 (IntKind.u64.wrap i21))) :: (Value.slice A36 ((r34.2.2.1.take (((r34.2.2.1).length : Int) - 1).toNat)).length c37 :: (Value.map (some b19) :: [])))))))) cells53 (.pl rfl) (.pl rfl) rfl (i := 2) rfl (ltl (m := 19) (by decide) rfl) (rfl) ?_)
        refine WL.next hQ22 (.nil) ?_
        -- region 16: search.go:105
        refine W.seqR fun Q23 hQ23 => ?_
        refine WL.q (Y.assign (.pl rfl)) rfl ?_
        refine WL.next hQ23 (.cons (i := 4) rfl (.nil)) ?_
        obtain rfl := Option.some.inj hF
        refine W.retV (fn := Try.f127) (vs := [.bool false]) Try.results127 ⟨.tmp rfl, trivial⟩ (fun _ _ h => h) (fun wz hw => ?_)
        exact hR _ _ ⟨((hd35.set x22.thing.toNat (((hd14.getD x22.thing.toNat ((none, 0) : Hd)).1, (hd14.getD x22.thing.toNat ((none, 0) : Hd)).2) : Hd)), A36, c37), trivial, rfl, (St.cong (L := ([cBx b1 183 (Value.slice A3 (types2).length c4 :: (Value.slice A7 (calls6).length c8 :: ((encRel ahead10) ++ (Value.slice A11 (r34.1).length c12 :: (Value.int .u16 (bclrI .u16 r34.2.1 (shlI .u16 1 (IntKind.u64.wrap i21))) :: (Value.slice A36 ((r34.2.2.1.take (((r34.2.2.1).length : Int) - 1).toNat)).length c37 :: (Value.map (some b19) :: []))))))), cN encSl (innSl (eI .i64) 1 3) 1 A11 c12 47 (hd35.set x22.thing.toNat (((hd14.getD x22.thing.toNat ((none, 0) : Hd)).1, (hd14.getD x22.thing.toNat ((none, 0) : Hd)).2) : Hd)) (r34.1.set x22.thing.toNat x25), cR encStep 2 A36 c37 77 (r34.2.2.1.take (((r34.2.2.1).length : Int) - 1).toNat), cMS Value.bool (some b19) r34.2.2.2.1] ++ T)) ((St.trunc (enc := encStep) (sz := 2) (j := (((r34.2.2.1).length : Int) - 1).toNat) hw lenStep (i := 3) rfl).pickK 7 [2, 0, 3, 4] rfl) (by simp only [List.length_set, List.nil_append, List.cons_append]))⟩

def search_finder_run_L7 (N : Nat) (self : (List Int) → (List Call) → Rel → (List (List Int)) → Int → (List Step) → (List (ByteArray × Bool)) → Option ((List (List Int)) × Int × (List Step) × (List (ByteArray × Bool)) × Bool)) (calls6 : (List Call)) (types2 : (List Int)) (ahead10 : Rel) : ((List (List Int)) × Int × (List Step) × (List (ByteArray × Bool)) × Int) → Option (((List (List Int)) × Int × (List Step) × (List (ByteArray × Bool)) × Int) ⊕ (((List (List Int)) × Int × (List Step) × (List (ByteArray × Bool))) ⊕ ((List (List Int)) × Int × (List Step) × (List (ByteArray × Bool)) × Bool)))
  | (states30, placed32, out35, failed36, v37) =>
    cond (decide (v37 < ((calls6).length : Int)))
      (bd (search_finder_place N self types2 calls6 ahead10 states30 placed32 out35 failed36 v37) fun (r38 : ((List (List Int)) × Int × (List Step) × (List (ByteArray × Bool)) × Bool)) =>
      cond r38.2.2.2.2
        (some (.inr (.inr (r38.1, r38.2.1, r38.2.2.1, r38.2.2.2.1, true))))
        (ck (ok64 (v37 + 1)) <|
        some (.inl (r38.1, r38.2.1, r38.2.2.1, r38.2.2.2.1, (v37 + 1)))))
      (some (.inr (.inl (states30, placed32, out35, failed36))))

def search_finder_run_B (N : Nat) (self : (List Int) → (List Call) → Rel → (List (List Int)) → Int → (List Step) → (List (ByteArray × Bool)) → Option ((List (List Int)) × Int × (List Step) × (List (ByteArray × Bool)) × Bool)) (types2 : (List Int)) (calls6 : (List Call)) (ahead10 : Rel) (states13 : (List (List Int))) (placed15 : Int) (out18 : (List Step)) (failed20 : (List (ByteArray × Bool))) : Option ((List (List Int)) × Int × (List Step) × (List (ByteArray × Bool)) × Bool) :=
  bd (search_finder_complete N types2 calls6 ahead10 states13 placed15 out18 failed20) fun (r21 : Bool) =>
  cond r21
    (some (states13, placed15, out18, failed20, true))
    (bd (search_finder_key N types2 calls6 ahead10 states13 placed15 out18 failed20) fun (r22 : ByteArray) =>
    cond ((mgetS failed20 r22).getD false)
      (some (states13, placed15, out18, failed20, false))
      (bd (α := (((List (List Int)) × Int × (List Step) × (List (ByteArray × Bool))) ⊕ ((List (List Int)) × Int × (List Step) × (List (ByteArray × Bool)) × Bool))) (iter (search_finder_run_L7 N self calls6 types2 ahead10) N (states13, placed15, out18, failed20, 0)) <|
      Sum.elim (fun (states23, placed25, out28, failed29) => 
        some (states23, placed25, out28, (mputS failed29 r22 true), false)) (fun p => some p)))
def search_finder_run (N : Nat) : Nat → (List Int) → (List Call) → Rel → (List (List Int)) → Int → (List Step) → (List (ByteArray × Bool)) → Option ((List (List Int)) × Int × (List Step) × (List (ByteArray × Bool)) × Bool)
  | 0 => fun _ _ _ _ _ _ _ => none
  | M + 1 => search_finder_run_B N (search_finder_run N M)

theorem search_finder_run_ok_B {N : Nat} {self : (List Int) → (List Call) → Rel → (List (List Int)) → Int → (List Step) → (List (ByteArray × Bool)) → Option ((List (List Int)) × Int × (List Step) × (List (ByteArray × Bool)) × Bool)} (ih : ∀ {types2 : (List Int)} {calls6 : (List Call)} {ahead10 : Rel} {states13 : (List (List Int))} {placed15 : Int} {out18 : (List Step)} {failed20 : (List (ByteArray × Bool))} {b1 : Nat} {A3 : Option Addr} {c4 : Nat} {A7 : Option Addr} {c8 : Nat} {A11 : Option Addr} {c12 : Nat} {hd14 : List Hd} {A16 : Option Addr} {c17 : Nat} {b19 : Nat} {res : ((List (List Int)) × Int × (List Step) × (List (ByteArray × Bool)) × Bool)} (hF : self types2 calls6 ahead10 states13 placed15 out18 failed20 = some res) {w0 w : World} {T : List Chunk} (hw : St w0.heap.size w0 ([cBx b1 183 (Value.slice A3 (types2).length c4 :: (Value.slice A7 (calls6).length c8 :: ((encRel ahead10) ++ (Value.slice A11 (states13).length c12 :: (Value.int .u16 placed15 :: (Value.slice A16 (out18).length c17 :: (Value.map (some b19) :: []))))))), cN encSl (innSl (eI .i64) 1 3) 1 A11 c12 47 hd14 states13, cR encStep 2 A16 c17 77 out18, cMS Value.bool (some b19) failed20] ++ T) w) (hs5 : SlIn (eI .i64) 1 w0 (.slice A3 (types2).length c4) types2) (hs9 : SlIn encCall 7 w0 (.slice A7 (calls6).length c8) calls6), Calls Try.prog 94 (List.toArray [.pointer (some ⟨b1, 0, none⟩)]) w (fun e w' => ∃ g : (List Hd × Option Addr × Nat), (True) ∧ e = .returned (.bool res.2.2.2.2) ∧ St w0.heap.size w0 ([cBx b1 183 (Value.slice A3 (types2).length c4 :: (Value.slice A7 (calls6).length c8 :: ((encRel ahead10) ++ (Value.slice A11 (res.1).length c12 :: (Value.int .u16 res.2.1 :: (Value.slice g.2.1 (res.2.2.1).length g.2.2 :: (Value.map (some b19) :: []))))))), cN encSl (innSl (eI .i64) 1 3) 1 A11 c12 47 g.1 res.1, cR encStep 2 g.2.1 g.2.2 77 res.2.2.1, cMS Value.bool (some b19) res.2.2.2.1] ++ T) w')) {types2 : (List Int)} {calls6 : (List Call)} {ahead10 : Rel} {states13 : (List (List Int))} {placed15 : Int} {out18 : (List Step)} {failed20 : (List (ByteArray × Bool))} {b1 : Nat} {A3 : Option Addr} {c4 : Nat} {A7 : Option Addr} {c8 : Nat} {A11 : Option Addr} {c12 : Nat} {hd14 : List Hd} {A16 : Option Addr} {c17 : Nat} {b19 : Nat} {res : ((List (List Int)) × Int × (List Step) × (List (ByteArray × Bool)) × Bool)} (hF : search_finder_run_B N self types2 calls6 ahead10 states13 placed15 out18 failed20 = some res) {w0 w : World} {T : List Chunk} (hw : St w0.heap.size w0 ([cBx b1 183 (Value.slice A3 (types2).length c4 :: (Value.slice A7 (calls6).length c8 :: ((encRel ahead10) ++ (Value.slice A11 (states13).length c12 :: (Value.int .u16 placed15 :: (Value.slice A16 (out18).length c17 :: (Value.map (some b19) :: []))))))), cN encSl (innSl (eI .i64) 1 3) 1 A11 c12 47 hd14 states13, cR encStep 2 A16 c17 77 out18, cMS Value.bool (some b19) failed20] ++ T) w) (hs5 : SlIn (eI .i64) 1 w0 (.slice A3 (types2).length c4) types2) (hs9 : SlIn encCall 7 w0 (.slice A7 (calls6).length c8) calls6) :
    Calls Try.prog 94 (List.toArray [.pointer (some ⟨b1, 0, none⟩)]) w (fun e w' => ∃ g : (List Hd × Option Addr × Nat), (True) ∧ e = .returned (.bool res.2.2.2.2) ∧ St w0.heap.size w0 ([cBx b1 183 (Value.slice A3 (types2).length c4 :: (Value.slice A7 (calls6).length c8 :: ((encRel ahead10) ++ (Value.slice A11 (res.1).length c12 :: (Value.int .u16 res.2.1 :: (Value.slice g.2.1 (res.2.2.1).length g.2.2 :: (Value.map (some b19) :: []))))))), cN encSl (innSl (eI .i64) 1 3) 1 A11 c12 47 g.1 res.1, cR encStep 2 g.2.1 g.2.2 77 res.2.2.1, cMS Value.bool (some b19) res.2.2.2.1] ++ T) w') := by
  refine W.enter (n := 32) Try.func94 rfl rfl Sub.refl (by simp) hw fun R hR => ?_
  unfold search_finder_run_B at hF
  -- region 0: search.go:108
  refine W.seqR fun Q1 hQ1 => ?_
  refine WL.q (Y.assign (.pl rfl)) rfl ?_
  refine WL.next hQ1 (.cons (i := 0) rfl (.nil)) ?_
  refine W.seq fun K2 hK2 => ?_
  -- region 1: search.go:109
  refine W.seqR fun Q3 hQ3 => ?_
  refine WL.q (Y.move (.pl rfl)) rfl ?_
  obtain ⟨r21, hr21, hF⟩ := bnd hF
  refine WL.step (WO.call (γ := Unit) (fun g => .bool r21) (fun g => ([cBx b1 183 (Value.slice A3 (types2).length c4 :: (Value.slice A7 (calls6).length c8 :: ((encRel ahead10) ++ (Value.slice A11 (states13).length c12 :: (Value.int .u16 placed15 :: (Value.slice A16 (out18).length c17 :: (Value.map (some b19) :: []))))))), cN encSl (innSl (eI .i64) 1 3) 1 A11 c12 47 hd14 states13, cR encStep 2 A16 c17 77 out18, cMS Value.bool (some b19) failed20] ++ T)) (fun g => True) isGo125 (.cons (.pl rfl) (.nil)) rfl (fun wz hw => search_finder_complete_ok (T := ([] ++ T)) (hr21) (hw.pickK 4 [0, 1, 2, 3] rfl) hs5 hs9) ?_)
  rintro _ -
  refine WL.next hQ3 (.cons (i := 0) rfl (.cons (i := 6) rfl (.nil))) ?_
  refine W.cond (.pl rfl) (fun hC4 => ?_) (fun hC4 => ?_)
  · replace hF := cpos hC4 hF
    -- region 2: search.go:110
    refine W.seqR fun Q5 hQ5 => ?_
    refine WL.q (Y.assign (.pl rfl)) rfl ?_
    refine WL.next hQ5 (.cons (i := 2) rfl (.nil)) ?_
    obtain rfl := Option.some.inj hF
    refine W.retV (fn := Try.f94) (vs := [.bool true]) Try.results94 ⟨.tmp rfl, trivial⟩ (fun _ _ h => h) (fun wz hw => ?_)
    exact hR _ _ ⟨(hd14, A16, c17), trivial, rfl, (hw.pickK 4 [0, 1, 2, 3] rfl)⟩
  · replace hF := cneg hC4 hF
    refine W.skip ?_
    refine W.go hK2 (.cons (i := 0) rfl (.nil)) ?_
    -- region 3: search.go:112
    refine W.seqR fun Q6 hQ6 => ?_
    refine WL.q (Y.move (.pl rfl)) rfl ?_
    obtain ⟨r22, hr22, hF⟩ := bnd hF
    refine WL.step (WO.call (γ := Unit) (fun g => .string r22) (fun g => ([cBx b1 183 (Value.slice A3 (types2).length c4 :: (Value.slice A7 (calls6).length c8 :: ((encRel ahead10) ++ (Value.slice A11 (states13).length c12 :: (Value.int .u16 placed15 :: (Value.slice A16 (out18).length c17 :: (Value.map (some b19) :: []))))))), cN encSl (innSl (eI .i64) 1 3) 1 A11 c12 47 hd14 states13, cR encStep 2 A16 c17 77 out18, cMS Value.bool (some b19) failed20] ++ T)) (fun g => True) isGo126 (.cons (.pl rfl) (.nil)) rfl (fun wz hw => search_finder_key_ok (T := ([] ++ T)) (hr22) (hw.pickK 4 [0, 1, 2, 3] rfl) hs5 hs9) ?_)
    rintro _ -
    refine WL.q (Y.assign (.pl rfl)) rfl ?_
    refine WL.next hQ6 (.cons (i := 0) rfl (.cons (i := 3) rfl (.nil))) ?_
    refine W.seq fun K7 hK7 => ?_
    -- region 4: search.go:113
    refine W.seqR fun Q8 hQ8 => ?_
    refine WL.q (Y.move (.pl rfl)) rfl ?_
    refine WL.q (Y.nilCheck (.pl rfl)) rfl ?_
    refine WL.q (Y.fieldAddr0 (off := 18) (ft := 181) Try.underlying183 rfl cells181 (.pl rfl)) rfl ?_
    refine WL.q (Y.loadB (v := .map (some b19)) Try.underlying181 rfl (.pl rfl) (i := 0) rfl (rfl)) rfl ?_
    refine WL.q (Y.move (.pl rfl)) rfl ?_
    refine WL.q (Y.mgetS (f := Value.bool) (dv := false) Try.underlying181 Try.underlying9 zero4 (.pl rfl) (.pl rfl) (i := 3) rfl) rfl ?_
    refine WL.next hQ8 (.cons (i := 0) rfl (.cons (i := 3) rfl (.cons (i := 14) rfl (.nil)))) ?_
    refine W.cond (.pl rfl) (fun hC9 => ?_) (fun hC9 => ?_)
    · replace hF := cpos hC9 hF
      -- region 5: search.go:114
      refine W.seqR fun Q10 hQ10 => ?_
      refine WL.q (Y.assign (.pl rfl)) rfl ?_
      refine WL.next hQ10 (.cons (i := 2) rfl (.nil)) ?_
      obtain rfl := Option.some.inj hF
      refine W.retV (fn := Try.f94) (vs := [.bool false]) Try.results94 ⟨.tmp rfl, trivial⟩ (fun _ _ h => h) (fun wz hw => ?_)
      exact hR _ _ ⟨(hd14, A16, c17), trivial, rfl, (hw.pickK 4 [0, 1, 2, 3] rfl)⟩
    · replace hF := cneg hC9 hF
      refine W.skip ?_
      refine W.go hK7 (.cons (i := 0) rfl (.cons (i := 3) rfl (.nil))) ?_
      obtain ⟨o11, hF11, hF⟩ := bnd hF
      refine W.join7 (Em := fun (states23 : (List (List Int))) (placed25 : Int) (out28 : (List Step)) (failed29 : (List (ByteArray × Bool))) (hd24 : List Hd) (A26 : Option Addr) (c27 : Nat) => []) (M := fun states23 placed25 out28 failed29 hd24 A26 c27 => ([cBx b1 183 (Value.slice A3 (types2).length c4 :: (Value.slice A7 (calls6).length c8 :: ((encRel ahead10) ++ (Value.slice A11 (states23).length c12 :: (Value.int .u16 placed25 :: (Value.slice A26 (out28).length c27 :: (Value.map (some b19) :: []))))))), cN encSl (innSl (eI .i64) 1 3) 1 A11 c12 47 hd24 states23, cR encStep 2 A26 c27 77 out28, cMS Value.bool (some b19) failed29] ++ T)) (I := fun states23 placed25 out28 failed29 hd24 A26 c27 => (.inl (states23, placed25, out28, failed29)) = o11) (.cons (i := 0) rfl (.cons (i := 3) rfl (.nil))) (fun K12 hK12 => ?_) ?_
      · -- up to
        -- region 6: search.go:116
        refine W.seqR fun Q13 hQ13 => ?_
        refine WL.q (Y.move (.pl rfl)) rfl ?_
        refine WL.q (Y.nilCheck (.pl rfl)) rfl ?_
        refine WL.q (Y.fieldAddr0 (off := 1) (ft := 44) Try.underlying183 rfl cells44 (.pl rfl)) rfl ?_
        refine WL.q (Y.loadB (v := .slice A7 (calls6).length c8) Try.underlying44 rfl (.pl rfl) (i := 0) rfl (rfl)) rfl ?_
        refine WL.q (Y.len Try.underlying44 (.pl rfl)) rfl ?_
        refine WL.q (Y.move (.pl rfl)) rfl ?_
        refine WL.next hQ13 (.cons (i := 0) rfl (.cons (i := 3) rfl (.cons (i := 19) rfl (.cons (i := 20) rfl (.nil))))) ?_
        refine W.block ?_
        refine W.loop8 (Em := fun (states30 : (List (List Int))) (placed32 : Int) (out35 : (List Step)) (failed36 : (List (ByteArray × Bool))) (v37 : Int) (hd31 : List Hd) (A33 : Option Addr) (c34 : Nat) => [(20, .int .i64 v37)]) (M := fun states30 placed32 out35 failed36 v37 hd31 A33 c34 => ([cBx b1 183 (Value.slice A3 (types2).length c4 :: (Value.slice A7 (calls6).length c8 :: ((encRel ahead10) ++ (Value.slice A11 (states30).length c12 :: (Value.int .u16 placed32 :: (Value.slice A33 (out35).length c34 :: (Value.map (some b19) :: []))))))), cN encSl (innSl (eI .i64) 1 3) 1 A11 c12 47 hd31 states30, cR encStep 2 A33 c34 77 out35, cMS Value.bool (some b19) failed36] ++ T)) (I := fun states30 placed32 out35 failed36 v37 hd31 A33 c34 k14 => iter (search_finder_run_L7 N self calls6 types2 ahead10) k14 (states30, placed32, out35, failed36, v37) = some o11) states13 placed15 out18 failed20 0 hd14 A16 c17 N (hF11) (.cons rfl (.nil)) (.cons (i := 0) rfl (.cons (i := 3) rfl (.cons (i := 19) rfl (.nil)))) (fun wz hw => hw.pickK 4 [0, 1, 2, 3] rfl) (fun states30 placed32 out35 failed36 v37 hd31 A33 c34 k14 hI K15 hK15 => ?_)
        obtain ⟨k14, t14, rfl, hF14, hN14⟩ := iter_step hI
        -- region 7: search.go:116
        refine W.seqR fun Q16 hQ16 => ?_
        refine WL.q (Y.lss (.pl rfl) (.pl rfl)) rfl ?_
        refine WL.next hQ16 (.cons (i := 0) rfl (.cons (i := 3) rfl (.cons (i := 19) rfl (.cons (i := 20) rfl (.cons (i := 21) rfl (.nil)))))) ?_
        refine W.seq fun K17 hK17 => ?_
        refine W.cond (.pl rfl) (fun hC18 => ?_) (fun hC18 => ?_)
        · replace hF14 := cpos hC18 hF14
          refine W.skip ?_
          refine W.go hK17 (.cons (i := 0) rfl (.cons (i := 3) rfl (.cons (i := 19) rfl (.cons (i := 20) rfl (.nil))))) ?_
          refine W.seq fun K19 hK19 => ?_
          refine W.block ?_
          -- region 8: search.go:116
          refine W.seqR fun Q20 hQ20 => ?_
          refine WL.q (Y.move (.pl rfl)) rfl ?_
          refine WL.q (Y.assign (.pl rfl)) rfl ?_
          refine WL.next hQ20 (.cons (i := 0) rfl (.cons (i := 3) rfl (.cons (i := 4) rfl (.cons (i := 19) rfl (.cons (i := 20) rfl (.nil)))))) ?_
          -- region 9: search.go:117
          refine W.seqR fun Q21 hQ21 => ?_
          refine WL.q (Y.move (.pl rfl)) rfl ?_
          refine WL.q (Y.move (.pl rfl)) rfl ?_
          obtain ⟨r38, hr38, hF14⟩ := bnd hF14
          refine WL.step (WO.call (γ := (List Hd × Option Addr × Nat)) (fun g => .bool r38.2.2.2.2) (fun g => ([cBx b1 183 (Value.slice A3 (types2).length c4 :: (Value.slice A7 (calls6).length c8 :: ((encRel ahead10) ++ (Value.slice A11 (r38.1).length c12 :: (Value.int .u16 r38.2.1 :: (Value.slice g.2.1 (r38.2.2.1).length g.2.2 :: (Value.map (some b19) :: []))))))), cN encSl (innSl (eI .i64) 1 3) 1 A11 c12 47 g.1 r38.1, cR encStep 2 g.2.1 g.2.2 77 r38.2.2.1, cMS Value.bool (some b19) r38.2.2.2.1] ++ T)) (fun g => True) isGo127 (.cons (.pl rfl) (.cons (.pl rfl) (.nil))) rfl (fun wz hw => search_finder_place_ok ih (T := ([] ++ T)) (b1 := b1) (A3 := A3) (c4 := c4) (A7 := A7) (c8 := c8) (A11 := A11) (c12 := c12) (hd14 := hd31) (A16 := A33) (c17 := c34) (b19 := b19) (hr38) (hw.pickK 4 [0, 1, 2, 3] rfl) hs5 hs9) ?_)
          rintro ⟨hd39, A40, c41⟩ -
          refine WL.next hQ21 (.cons (i := 0) rfl (.cons (i := 3) rfl (.cons (i := 19) rfl (.cons (i := 20) rfl (.cons (i := 25) rfl (.nil)))))) ?_
          refine W.cond (.pl rfl) (fun hC22 => ?_) (fun hC22 => ?_)
          · replace hF14 := cpos hC22 hF14
            -- region 10: search.go:118
            refine W.seqR fun Q23 hQ23 => ?_
            refine WL.q (Y.assign (.pl rfl)) rfl ?_
            refine WL.next hQ23 (.cons (i := 2) rfl (.nil)) ?_
            obtain rfl := Option.some.inj hF14
            obtain rfl := einr hN14
            obtain rfl := Option.some.inj hF
            refine W.retV (fn := Try.f94) (vs := [.bool true]) Try.results94 ⟨.tmp rfl, trivial⟩ (fun _ _ h => h) (fun wz hw => ?_)
            exact hR _ _ ⟨(hd39, A40, c41), trivial, rfl, (hw.pickK 4 [0, 1, 2, 3] rfl)⟩
          · replace hF14 := cneg hC22 hF14
            refine W.skip ?_
            refine W.go hK19 (.cons (i := 0) rfl (.cons (i := 3) rfl (.cons (i := 19) rfl (.cons (i := 20) rfl (.nil))))) ?_
            -- region 11: search.go:116
            refine W.reg ?_
            obtain ⟨hk42, hF14⟩ := ckh hF14
            refine WL.q (Y.add (.pl rfl) (.pl rfl) (ok64_lt (hk42))) rfl ?_
            refine WL.q (Y.move (.pl rfl)) rfl ?_
            refine WL.nil ?_
            obtain rfl := Option.some.inj hF14
            exact W.again8 hK15 r38.1 r38.2.1 r38.2.2.1 r38.2.2.2.1 (v37 + 1) hd39 A40 c41 k14 hN14 (Nat.lt_succ_self _) (.cons rfl (.nil)) (.cons (i := 0) rfl (.cons (i := 3) rfl (.cons (i := 19) rfl (.nil)))) (fun wz hw => hw.pickK 4 [0, 1, 2, 3] rfl)
        · replace hF14 := cneg hC18 hF14
          refine W.exit ?_
          obtain rfl := Option.some.inj hF14
          exact W.joinAt7 hK12 states30 placed32 out35 failed36 hd31 A33 c34 (einr hN14) (.nil) (.cons (i := 0) rfl (.cons (i := 3) rfl (.nil))) (fun wz hw => hw.pickK 4 [0, 1, 2, 3] rfl)
      · -- behind
        rintro states23 placed25 out28 failed29 hd24 A26 c27 rfl
        -- region 12: search.go:121
        refine W.seqR fun Q25 hQ25 => ?_
        refine WL.q (Y.move (.pl rfl)) rfl ?_
        refine WL.q (Y.nilCheck (.pl rfl)) rfl ?_
        refine WL.q (Y.fieldAddr0 (off := 18) (ft := 181) Try.underlying183 rfl cells181 (.pl rfl)) rfl ?_
        refine WL.q (Y.loadB (v := .map (some b19)) Try.underlying181 rfl (.pl rfl) (i := 0) rfl (rfl)) rfl ?_
        refine WL.q (Y.move (.pl rfl)) rfl ?_
        refine WL.step (WO.msetS (f := Value.bool) (a := true) Try.underlying181 Try.underlying9 (.pl rfl) (.pl rfl) (.pl rfl) (i := 3) rfl ?_)
        refine WL.next hQ25 (.nil) ?_
        -- region 13: search.go:122
        refine W.seqR fun Q26 hQ26 => ?_
        refine WL.q (Y.assign (.pl rfl)) rfl ?_
        refine WL.next hQ26 (.cons (i := 2) rfl (.nil)) ?_
        obtain rfl := Option.some.inj hF
        refine W.retV (fn := Try.f94) (vs := [.bool false]) Try.results94 ⟨.tmp rfl, trivial⟩ (fun _ _ h => h) (fun wz hw => ?_)
        exact hR _ _ ⟨(hd24, A26, c27), trivial, rfl, (hw.pickK 4 [0, 1, 2, 3] rfl)⟩
theorem search_finder_run_ok {N : Nat} {M : Nat} : ∀ {types2 : (List Int)} {calls6 : (List Call)} {ahead10 : Rel} {states13 : (List (List Int))} {placed15 : Int} {out18 : (List Step)} {failed20 : (List (ByteArray × Bool))} {b1 : Nat} {A3 : Option Addr} {c4 : Nat} {A7 : Option Addr} {c8 : Nat} {A11 : Option Addr} {c12 : Nat} {hd14 : List Hd} {A16 : Option Addr} {c17 : Nat} {b19 : Nat} {res : ((List (List Int)) × Int × (List Step) × (List (ByteArray × Bool)) × Bool)} (hF : search_finder_run N M types2 calls6 ahead10 states13 placed15 out18 failed20 = some res) {w0 w : World} {T : List Chunk} (hw : St w0.heap.size w0 ([cBx b1 183 (Value.slice A3 (types2).length c4 :: (Value.slice A7 (calls6).length c8 :: ((encRel ahead10) ++ (Value.slice A11 (states13).length c12 :: (Value.int .u16 placed15 :: (Value.slice A16 (out18).length c17 :: (Value.map (some b19) :: []))))))), cN encSl (innSl (eI .i64) 1 3) 1 A11 c12 47 hd14 states13, cR encStep 2 A16 c17 77 out18, cMS Value.bool (some b19) failed20] ++ T) w) (hs5 : SlIn (eI .i64) 1 w0 (.slice A3 (types2).length c4) types2) (hs9 : SlIn encCall 7 w0 (.slice A7 (calls6).length c8) calls6),
    Calls Try.prog 94 (List.toArray [.pointer (some ⟨b1, 0, none⟩)]) w (fun e w' => ∃ g : (List Hd × Option Addr × Nat), (True) ∧ e = .returned (.bool res.2.2.2.2) ∧ St w0.heap.size w0 ([cBx b1 183 (Value.slice A3 (types2).length c4 :: (Value.slice A7 (calls6).length c8 :: ((encRel ahead10) ++ (Value.slice A11 (res.1).length c12 :: (Value.int .u16 res.2.1 :: (Value.slice g.2.1 (res.2.2.1).length g.2.2 :: (Value.map (some b19) :: []))))))), cN encSl (innSl (eI .i64) 1 3) 1 A11 c12 47 g.1 res.1, cR encStep 2 g.2.1 g.2.2 77 res.2.2.1, cMS Value.bool (some b19) res.2.2.2.1] ++ T) w') := by
  induction M with
  | zero => exact fun hF => nomatch (show (none : Option _) = some _ from hF)
  | succ M ih => exact fun hF => search_finder_run_ok_B ih hF

/-- slices.Clone -/
theorem slices_Clone_api_Step_api_Step_ok {xs : List Step} (hb : limB 16 xs.length = true) (w : World) {v : Value} (h : SlIn encStep 2 w v xs) :
    Made Try.prog 95 [v] w (fun g : Option Addr × Nat => .slice g.1 xs.length g.2) (fun g => [cR encStep 2 g.1 g.2 77 xs]) (fun _ => True) := by
  obtain ⟨A1, c1, rfl, hc1, hs⟩ := h.form
  refine W.enter (n := 8) Try.func95 rfl rfl Sub.refl (by simp) (St.start w) fun R hR => ?_
  refine W.seqR fun Q1 hQ1 => ?_
  refine WL.q (Y.assign (.pl rfl)) rfl ?_
  refine WL.next hQ1 (.cons (i := 0) rfl (.nil)) ?_
  refine W.seq fun K2 hK2 => ?_
  refine W.seqR fun Q3 hQ3 => ?_
  refine WL.q (Y.move (.pl rfl)) rfl ?_
  refine WL.q (Y.eqNil Try.underlying53 (.pl rfl)) rfl ?_
  refine WL.next hQ3 (.cons (i := 0) rfl (.cons (i := 4) rfl (.nil))) ?_
  refine W.cond (.pl rfl) (fun hC => ?_) (fun hC => ?_)
  · refine W.seqR fun Q4 hQ4 => ?_
    refine WL.q (Y.assign (.pl rfl)) rfl ?_
    refine WL.next hQ4 (.cons (i := 2) rfl (.nil)) ?_
    have hx : xs = [] := by
      cases xs with
      | nil => rfl
      | cons a r =>
        have := (hs.okA' (idx := 0) ⟨Int.le_refl _, by simp⟩).1
        rw [Option.isNone_iff_eq_none] at hC
        rw [hC] at this; cases this
    subst hx
    refine W.retV (fn := Try.f95) (vs := [.slice none 0 0]) Try.results95 ⟨.tmp rfl, trivial⟩ (fun _ _ h => h) (fun w hw => ?_)
    exact hR _ _ ⟨(none, 0), trivial, rfl, St.nilR hw encStep 2 77⟩
  · refine W.skip ?_
    refine W.go hK2 (.cons (i := 0) rfl (.nil)) ?_
    obtain ⟨a1, rfl⟩ : ∃ a, A1 = some a := by cases A1 with
      | none => cases hC
      | some a => exact ⟨a, rfl⟩
    refine W.seqR fun Q5 hQ5 => ?_
    refine WL.step (WO.bsliceC (enc := encStep) (ys := []) Try.underlying53 bz77 (.nil) rfl lenStep rfl rfl (by decide) (by decide) rfl fun b => ?_)
    refine WL.q (Y.move (.pl rfl)) rfl ?_
    refine WL.step (WO.appendS (enc := encStep) (ys := xs) (xs := []) Try.underlying53 ap77 lenStep oneStep (.pl rfl) rfl (.pl rfl) (i := 0) rfl (fun w hw => hs.mono hw) (by simpa using hb) rfl fun A c => ?_)
    refine WL.q (Y.assign (.pl rfl)) rfl ?_
    refine WL.next hQ5 (.cons (i := 2) rfl (.nil)) ?_
    refine W.retV (fn := Try.f95) (vs := [.slice A xs.length c]) Try.results95 ⟨.tmp rfl, trivial⟩ (fun _ _ h => h) (fun w hw => ?_)
    exact hR _ _ ⟨(A, c), trivial, rfl, hw⟩

def search_Smallest_L3 (N : Nat) (types1 : (List Int)) : ((List (List Int)) × Int) → Option (((List (List Int)) × Int) ⊕ (List (List Int)))
  | (states21, v23) =>
    cond (decide (v23 < ((types1).length : Int)))
      (bd (ix types1 v23) fun (x24 : Int) =>
      bd (object_Start N x24) fun (r25 : ((List Int) × Int)) =>
      ck (limB 24 ((states21).length + (([r25.1] : List (List Int))).length)) <|
      ck (ok64 (v23 + 1)) <|
      some (.inl ((states21 ++ ([r25.1] : List (List Int))), (v23 + 1))))
      (some (.inr states21))

def search_Smallest (N : Nat) (types1 : (List Int)) (calls6 : (List Call)) (ahead11 : Rel) : Option ((List Step) × Bool) :=
  bd (α := (List (List Int))) (iter (search_Smallest_L3 N types1) N ([], 0)) <|
  fun (states17 : (List (List Int))) => 
    bd (search_finder_run N N types1 calls6 ahead11 states17 0 ([] : (List Step)) ([] : List (ByteArray × Bool))) fun (r33 : ((List (List Int)) × Int × (List Step) × (List (ByteArray × Bool)) × Bool)) =>
    cond (!r33.2.2.2.2)
      (some ([], false))
      (ck (limB 16 (r33.2.2.1).length) <|
      some (r33.2.2.1, true))

theorem search_Smallest_ok {N : Nat} {types1 : (List Int)} {calls6 : (List Call)} {ahead11 : Rel} {res : ((List Step) × Bool)} (hF : search_Smallest N types1 calls6 ahead11 = some res) (w : World) {v5 : Value} (hs4 : SlIn (eI .i64) 1 w v5 types1) {v10 : Value} (hs9 : SlIn encCall 7 w v10 calls6) :
    Made Try.prog 61 [v5, v10, .agg (encRel ahead11).toArray] w (fun g : (Option Addr × Nat) => .tuple #[.slice g.1 (res.1).length g.2, .bool res.2]) (fun g => [cR encStep 2 g.1 g.2 77 res.1]) (fun g => True) := by
  obtain ⟨A2, c3, rfl, hcc3, hs4⟩ := hs4.form
  obtain ⟨A7, c8, rfl, hcc8, hs9⟩ := hs9.form
  refine W.enter (n := 49) Try.func61 rfl rfl Sub.refl (by simp) (St.start w) fun R hR => ?_
  unfold search_Smallest at hF
  -- region 0: search.go:126
  refine W.seqR fun Q1 hQ1 => ?_
  refine WL.step (WO.boxA (.pl rfl) rfl fun b12 => ?_)
  refine WL.q (Y.assign (.pl rfl)) rfl ?_
  refine WL.q (Y.assign (.pl rfl)) rfl ?_
  refine WL.next hQ1 (.cons (i := 0) rfl (.cons (i := 1) rfl (.cons (i := 5) rfl (.nil)))) ?_
  -- region 1: search.go:127
  refine W.seqR fun Q2 hQ2 => ?_
  refine WL.q (Y.move (.pl rfl)) rfl ?_
  refine WL.q (Y.move (.pl rfl)) rfl ?_
  refine WL.q (Y.loadBA (ds := (encRel ahead11)) Try.underlying115 rfl cells115 (.pl rfl) (i := 0) rfl rfl subW) rfl ?_
  refine WL.step (WO.mmakeS Value.bool rfl fun b13 => ?_)
  refine WL.q (Y.buildF (cs := (Value.slice A2 (types1).length c3 :: (Value.slice A7 (calls6).length c8 :: ((encRel ahead11) ++ (Value.slice none 0 0 :: (Value.int .u16 0 :: (Value.slice none 0 0 :: (Value.map (some b13) :: []))))))).toArray) shape183 (.cons (.pl rfl) (.cons (.pl rfl) (.cons (.pl rfl) (.cons (.pl rfl) (.nil))))) (by kernel_rfl)) rfl ?_
  refine WL.step (WO.boxA (.pl rfl) rfl fun b14 => ?_)
  refine WL.q (Y.assign (.pl rfl)) rfl ?_
  refine WL.next hQ2 (.cons (i := 0) rfl (.cons (i := 8) rfl (.nil))) ?_
  obtain ⟨o3, hF3, hF⟩ := bnd hF
  refine W.join4 (Em := fun (states17 : (List (List Int))) (A15 : Option Addr) (c16 : Nat) (hd18 : List Hd) => []) (M := fun states17 A15 c16 hd18 => [cBx b14 183 (Value.slice A2 (types1).length c3 :: (Value.slice A7 (calls6).length c8 :: ((encRel ahead11) ++ (Value.slice A15 (states17).length c16 :: (Value.int .u16 0 :: (Value.slice none 0 0 :: (Value.map (some b13) :: []))))))), cN encSl (innSl (eI .i64) 1 3) 1 A15 c16 47 hd18 states17, cMS Value.bool (some b13) ([] : List (ByteArray × Bool))]) (I := fun states17 A15 c16 hd18 => states17 = o3) (.cons (i := 8) rfl (.nil)) (fun K4 hK4 => ?_) ?_
  · -- up to
    -- region 2: search.go:128
    refine W.seqR fun Q5 hQ5 => ?_
    refine WL.q (Y.move (.pl rfl)) rfl ?_
    refine WL.q (Y.len Try.underlying47 (.pl rfl)) rfl ?_
    refine WL.q (Y.move (.pl rfl)) rfl ?_
    refine WL.next hQ5 (.cons (i := 8) rfl (.cons (i := 19) rfl (.cons (i := 20) rfl (.cons (i := 21) rfl (.nil))))) ?_
    refine W.block ?_
    refine W.loop5 (Em := fun (states21 : (List (List Int))) (v23 : Int) (A19 : Option Addr) (c20 : Nat) (hd22 : List Hd) => [(21, .int .i64 v23)]) (M := fun states21 v23 A19 c20 hd22 => [cBx b14 183 (Value.slice A2 (types1).length c3 :: (Value.slice A7 (calls6).length c8 :: ((encRel ahead11) ++ (Value.slice A19 (states21).length c20 :: (Value.int .u16 0 :: (Value.slice none 0 0 :: (Value.map (some b13) :: []))))))), cN encSl (innSl (eI .i64) 1 3) 1 A19 c20 47 hd22 states21, cMS Value.bool (some b13) ([] : List (ByteArray × Bool))]) (I := fun states21 v23 A19 c20 hd22 k6 => iter (search_Smallest_L3 N types1) k6 (states21, v23) = some o3) [] 0 none 0 [] N (hF3) (.cons rfl (.nil)) (.cons (i := 8) rfl (.cons (i := 19) rfl (.cons (i := 20) rfl (.nil)))) (fun wz hw => (St.nilN (hw.pick [0, 1] rfl) encSl (innSl (eI .i64) 1 3) 1 47).pick [1, 0, 2] rfl) (fun states21 v23 A19 c20 hd22 k6 hI K7 hK7 => ?_)
    obtain ⟨k6, t6, rfl, hF6, hN6⟩ := iter_step hI
    -- region 3: search.go:128
    refine W.seqR fun Q8 hQ8 => ?_
    refine WL.q (Y.lss (.pl rfl) (.pl rfl)) rfl ?_
    refine WL.next hQ8 (.cons (i := 8) rfl (.cons (i := 19) rfl (.cons (i := 20) rfl (.cons (i := 21) rfl (.cons (i := 22) rfl (.nil)))))) ?_
    refine W.seq fun K9 hK9 => ?_
    refine W.cond (.pl rfl) (fun hC10 => ?_) (fun hC10 => ?_)
    · replace hF6 := cpos hC10 hF6
      refine W.skip ?_
      refine W.go hK9 (.cons (i := 8) rfl (.cons (i := 19) rfl (.cons (i := 20) rfl (.cons (i := 21) rfl (.nil))))) ?_
      refine W.seq fun K11 hK11 => ?_
      refine W.block ?_
      -- region 4: search.go:128
      refine W.seqR fun Q12 hQ12 => ?_
      obtain ⟨x24, hx24, hF6⟩ := bnd hF6
      refine WL.q (Y.slEl Try.underlying47 cells3 hs4 (.pl rfl) (.pl rfl) (ix_lt (hx24))) rfl ?_
      refine WL.q (Y.loadS (enc := (eI .i64)) (v := .int .i64 x24) (j := 0) Try.underlying3 rfl hs4 (.pl rfl) (hx24) rfl rfl) rfl ?_
      refine WL.q (Y.assign (.pl rfl)) rfl ?_
      refine WL.next hQ12 (.cons (i := 8) rfl (.cons (i := 10) rfl (.cons (i := 19) rfl (.cons (i := 20) rfl (.cons (i := 21) rfl (.nil)))))) ?_
      -- region 5: search.go:129
      refine W.seqR fun Q13 hQ13 => ?_
      refine WL.q (Y.move (.pl rfl)) rfl ?_
      obtain ⟨r25, hr25, hF6⟩ := bnd hF6
      refine WL.step (WO.callM isGo74 (.cons (.pl rfl) (.nil)) rfl (fun wz hw => object_Start_ok (hr25) wz ) ?_)
      rintro ⟨A26, c27⟩ -
      refine WL.q (Y.move (.pl rfl)) rfl ?_
      refine WL.q (Y.extract (.pl rfl) rfl) rfl ?_
      refine WL.q (Y.extract (.pl rfl) rfl) rfl ?_
      refine WL.q (Y.assign (.pl rfl)) rfl ?_
      refine WL.q (Y.assign (.pl rfl)) rfl ?_
      refine WL.next hQ13 (.cons (i := 8) rfl (.cons (i := 11) rfl (.cons (i := 19) rfl (.cons (i := 20) rfl (.cons (i := 21) rfl (.nil)))))) ?_
      -- region 6: search.go:130
      refine W.reg ?_
      refine WL.q (Y.move (.pl rfl)) rfl ?_
      refine WL.q (Y.move (.pl rfl)) rfl ?_
      refine WL.q (Y.nilCheck (.pl rfl)) rfl ?_
      refine WL.q (Y.fieldAddr0 (off := 15) (ft := 142) Try.underlying183 rfl cells142 (.pl rfl)) rfl ?_
      refine WL.q (Y.loadB (v := .slice A19 (states21).length c20) Try.underlying142 rfl (.pl rfl) (i := 1) rfl (rfl)) rfl ?_
      refine WL.q (Y.move (.pl rfl)) rfl ?_
      refine WL.step (WO.bsliceN (enc := encSl) (inn := (innSl (eI .i64) 1 3)) (hs := ([((A26, c27) : Hd)] : List Hd)) (xs := ([r25.1] : List (List Int))) Try.underlying142 bz47 (.cons (.pl rfl) (.nil)) rfl rfl rfl rfl rfl lenSl (by decide) (by decide) (.pick [0, 1, 2, 3] rfl) rfl fun b28 => ?_)
      obtain ⟨hk31, hF6⟩ := ckh hF6
      refine WL.step (WO.appendN (enc := encSl) (inn := (innSl (eI .i64) 1 3)) (hs := hd22) Try.underlying142 ap47 lenSl oneSl (.pl rfl) rfl (.pl rfl) (i := 1) rfl (hk31) rfl fun A29 c30 => ?_)
      refine WL.q (Y.nilCheck (.pl rfl)) rfl ?_
      refine WL.q (Y.fieldAddr0 (off := 15) (ft := 142) Try.underlying183 rfl cells142 (.pl rfl)) rfl ?_
      refine WL.step (WO.storeB (cs' := (Value.slice A2 (types1).length c3 :: (Value.slice A7 (calls6).length c8 :: ((encRel ahead11) ++ (Value.slice A29 ((states21 ++ ([r25.1] : List (List Int)))).length c30 :: (Value.int .u16 0 :: (Value.slice none 0 0 :: (Value.map (some b13) :: [])))))))) cells142 (.pl rfl) (.pl rfl) rfl (i := 1) rfl (ltl (m := 19) (by decide) rfl) (rfl) ?_)
      refine WL.nil ?_
      refine W.go hK11 (.cons (i := 8) rfl (.cons (i := 19) rfl (.cons (i := 20) rfl (.cons (i := 21) rfl (.nil))))) ?_
      -- region 7: search.go:128
      refine W.reg ?_
      obtain ⟨hk32, hF6⟩ := ckh hF6
      refine WL.q (Y.add (.pl rfl) (.pl rfl) (ok64_lt (hk32))) rfl ?_
      refine WL.q (Y.move (.pl rfl)) rfl ?_
      refine WL.nil ?_
      obtain rfl := Option.some.inj hF6
      exact W.again5 hK7 (states21 ++ ([r25.1] : List (List Int))) (v23 + 1) A29 c30 (hd22 ++ ([((A26, c27) : Hd)] : List Hd)) k6 hN6 (Nat.lt_succ_self _) (.cons rfl (.nil)) (.cons (i := 8) rfl (.cons (i := 19) rfl (.cons (i := 20) rfl (.nil)))) (fun wz hw => hw.pick [1, 0, 2] rfl)
    · replace hF6 := cneg hC10 hF6
      refine W.exit ?_
      obtain rfl := Option.some.inj hF6
      exact W.joinAt4 hK4 states21 A19 c20 hd22 (einr hN6) (.nil) (.cons (i := 8) rfl (.nil)) (fun wz hw => hw.pick [0, 1, 2] rfl)
  · -- behind
    rintro states17 A15 c16 hd18 rfl
    refine W.seq fun K16 hK16 => ?_
    -- region 8: search.go:132
    refine W.seqR fun Q17 hQ17 => ?_
    refine WL.q (Y.move (.pl rfl)) rfl ?_
    obtain ⟨r33, hr33, hF⟩ := bnd hF
    refine WL.step (WO.call (γ := (List Hd × Option Addr × Nat)) (fun g => .bool r33.2.2.2.2) (fun g => [cBx b14 183 (Value.slice A2 (types1).length c3 :: (Value.slice A7 (calls6).length c8 :: ((encRel ahead11) ++ (Value.slice A15 (r33.1).length c16 :: (Value.int .u16 r33.2.1 :: (Value.slice g.2.1 (r33.2.2.1).length g.2.2 :: (Value.map (some b13) :: []))))))), cN encSl (innSl (eI .i64) 1 3) 1 A15 c16 47 g.1 r33.1, cR encStep 2 g.2.1 g.2.2 77 r33.2.2.1, cMS Value.bool (some b13) r33.2.2.2.1]) (fun g => True) isGo94 (.cons (.pl rfl) (.nil)) rfl (fun wz hw => search_finder_run_ok (T := []) (hr33) ((St.nilR (hw) encStep 2 77).pick [1, 2, 0, 3] rfl) hs4 hs9) ?_)
    rintro ⟨hd34, A35, c36⟩ -
    refine WL.q (Y.not (.pl rfl)) rfl ?_
    refine WL.next hQ17 (.cons (i := 8) rfl (.cons (i := 43) rfl (.nil))) ?_
    refine W.cond (.pl rfl) (fun hC18 => ?_) (fun hC18 => ?_)
    · replace hF := cpos hC18 hF
      -- region 9: search.go:133
      refine W.seqR fun Q19 hQ19 => ?_
      refine WL.q (Y.assign (.pl rfl)) rfl ?_
      refine WL.q (Y.assign (.pl rfl)) rfl ?_
      refine WL.next hQ19 (.cons (i := 6) rfl (.cons (i := 7) rfl (.nil))) ?_
      obtain rfl := Option.some.inj hF
      refine W.retV (fn := Try.f61) (vs := [.slice none 0 0, .bool false]) Try.results61 ⟨.tmp rfl, ⟨.tmp rfl, trivial⟩⟩ (fun _ _ h => h) (fun wz hw => ?_)
      exact hR _ _ ⟨(none, 0), trivial, rfl, ((St.nilR (hw.pick [] rfl) encStep 2 77).pick [0] rfl)⟩
    · replace hF := cneg hC18 hF
      refine W.skip ?_
      refine W.go hK16 (.cons (i := 8) rfl (.nil)) ?_
      -- region 10: search.go:135
      refine W.seqR fun Q20 hQ20 => ?_
      refine WL.q (Y.move (.pl rfl)) rfl ?_
      refine WL.q (Y.nilCheck (.pl rfl)) rfl ?_
      refine WL.q (Y.fieldAddr0 (off := 17) (ft := 53) Try.underlying183 rfl cells53 (.pl rfl)) rfl ?_
      refine WL.q (Y.loadB (v := .slice A35 (r33.2.2.1).length c36) Try.underlying53 rfl (.pl rfl) (i := 0) rfl (rfl)) rfl ?_
      obtain ⟨hk37, hF⟩ := ckh hF
      refine WL.step (WO.callM isGo95 (.cons (.pl rfl) (.nil)) rfl (fun wz hw => slices_Clone_api_Step_api_Step_ok (hk37) wz (SlIn.ofRow lenStep hw (i := 2) rfl)) ?_)
      rintro ⟨A38, c39⟩ -
      refine WL.q (Y.assign (.pl rfl)) rfl ?_
      refine WL.q (Y.assign (.pl rfl)) rfl ?_
      refine WL.next hQ20 (.cons (i := 6) rfl (.cons (i := 7) rfl (.nil))) ?_
      obtain rfl := Option.some.inj hF
      refine W.retV (fn := Try.f61) (vs := [.slice A38 (r33.2.2.1).length c39, .bool true]) Try.results61 ⟨.tmp rfl, ⟨.tmp rfl, trivial⟩⟩ (fun _ _ h => h) (fun wz hw => ?_)
      exact hR _ _ ⟨(A38, c39), trivial, rfl, (hw.pick [0] rfl)⟩

def search_Find (N : Nat) (types1 : (List Int)) (l6 : (List Event)) : Option ((List Step) × Bool × Int) :=
  bd (search_Calls N types1 l6) fun (r11 : ((List Call) × Int)) =>
  cond (!(decide (r11.2 = 0)))
    (some ([], false, r11.2))
    (bd (history_Ahead N r11.1) fun (r14 : (Int × (List Int) × Int)) =>
    bd (search_Smallest N types1 r11.1 (Rel.mk r14.1 r14.2.1)) fun (r16 : ((List Step) × Bool)) =>
    some (r16.1, r16.2, 0))

theorem search_Find_ok {N : Nat} {types1 : (List Int)} {l6 : (List Event)} {res : ((List Step) × Bool × Int)} (hF : search_Find N types1 l6 = some res) (w : World) {v5 : Value} (hs4 : SlIn (eI .i64) 1 w v5 types1) {v10 : Value} (hs9 : SlIn encEvent 4 w v10 l6) :
    Made Try.prog 31 [v5, v10] w (fun g : (Option Addr × Nat) => .tuple #[.slice g.1 (res.1).length g.2, .bool res.2.1, .int .i64 res.2.2]) (fun g => [cR encStep 2 g.1 g.2 77 res.1]) (fun g => True) := by
  obtain ⟨A2, c3, rfl, hcc3, hs4⟩ := hs4.form
  obtain ⟨A7, c8, rfl, hcc8, hs9⟩ := hs9.form
  refine W.enter (n := 36) Try.func31 rfl rfl Sub.refl (by simp) (St.start w) fun R hR => ?_
  unfold search_Find at hF
  -- region 0: search.go:149
  refine W.seqR fun Q1 hQ1 => ?_
  refine WL.q (Y.assign (.pl rfl)) rfl ?_
  refine WL.q (Y.assign (.pl rfl)) rfl ?_
  refine WL.q (Y.assign (.pl rfl)) rfl ?_
  refine WL.next hQ1 (.cons (i := 0) rfl (.cons (i := 1) rfl (.nil))) ?_
  -- region 1: search.go:150
  refine W.seqR fun Q2 hQ2 => ?_
  refine WL.q (Y.move (.pl rfl)) rfl ?_
  refine WL.q (Y.move (.pl rfl)) rfl ?_
  obtain ⟨r11, hr11, hF⟩ := bnd hF
  refine WL.step (WO.callM isGo59 (.cons (.pl rfl) (.cons (.pl rfl) (.nil))) rfl (fun wz hw => search_Calls_ok (hr11) wz (hs4.mono hw) (hs9.mono hw)) ?_)
  rintro ⟨A12, c13⟩ -
  refine WL.q (Y.move (.pl rfl)) rfl ?_
  refine WL.q (Y.extract (.pl rfl) rfl) rfl ?_
  refine WL.q (Y.extract (.pl rfl) rfl) rfl ?_
  refine WL.q (Y.assign (.pl rfl)) rfl ?_
  refine WL.q (Y.assign (.pl rfl)) rfl ?_
  refine WL.next hQ2 (.cons (i := 0) rfl (.cons (i := 7) rfl (.cons (i := 8) rfl (.nil)))) ?_
  refine W.seq fun K3 hK3 => ?_
  -- region 2: search.go:151
  refine W.seqR fun Q4 hQ4 => ?_
  refine WL.q (Y.move (.pl rfl)) rfl ?_
  refine WL.q (Y.neq (.pl rfl) (.pl rfl)) rfl ?_
  refine WL.next hQ4 (.cons (i := 0) rfl (.cons (i := 7) rfl (.cons (i := 8) rfl (.cons (i := 20) rfl (.nil))))) ?_
  refine W.cond (.pl rfl) (fun hC5 => ?_) (fun hC5 => ?_)
  · replace hF := cpos hC5 hF
    -- region 3: search.go:152
    refine W.seqR fun Q6 hQ6 => ?_
    refine WL.q (Y.move (.pl rfl)) rfl ?_
    refine WL.q (Y.assign (.pl rfl)) rfl ?_
    refine WL.q (Y.assign (.pl rfl)) rfl ?_
    refine WL.q (Y.assign (.pl rfl)) rfl ?_
    refine WL.next hQ6 (.cons (i := 4) rfl (.cons (i := 5) rfl (.cons (i := 6) rfl (.nil)))) ?_
    obtain rfl := Option.some.inj hF
    refine W.retV (fn := Try.f31) (vs := [.slice none 0 0, .bool false, .int .i64 r11.2]) Try.results31 ⟨.tmp rfl, ⟨.tmp rfl, ⟨.tmp rfl, trivial⟩⟩⟩ (fun _ _ h => h) (fun wz hw => ?_)
    exact hR _ _ ⟨(none, 0), trivial, rfl, ((St.nilR (hw.pick [] rfl) encStep 2 77).pick [0] rfl)⟩
  · replace hF := cneg hC5 hF
    refine W.skip ?_
    refine W.go hK3 (.cons (i := 0) rfl (.cons (i := 7) rfl (.nil))) ?_
    -- region 4: search.go:154
    refine W.seqR fun Q7 hQ7 => ?_
    refine WL.q (Y.move (.pl rfl)) rfl ?_
    obtain ⟨r14, hr14, hF⟩ := bnd hF
    refine WL.step (WO.callP isGo60 (.cons (.pl rfl) (.nil)) rfl (fun wz hw => history_Ahead_ok (hr14) wz (SlIn.ofRow lenCall hw (i := 0) rfl)) ?_)
    refine WL.q (Y.move (.pl rfl)) rfl ?_
    refine WL.q (Y.extract (.pl rfl) rfl) rfl ?_
    refine WL.q (Y.extract (.pl rfl) rfl) rfl ?_
    refine WL.step (WO.alloc (cs := (encRel (Rel.mk 0 [])).toArray) zero115 rfl rfl fun b15 => ?_)
    refine WL.step (WO.storeBA (ds := (encRel (Rel.mk r14.1 r14.2.1))) (cs' := (encRel (Rel.mk r14.1 r14.2.1))) cells115 (.pl rfl) (.pl rfl) rfl (oneRel _) (i := 0) rfl (lel (o := 0) (l := 13) (m := 13) (by decide) rfl rfl) (putW rfl) ?_)
    refine WL.q (Y.assign (.pl rfl)) rfl ?_
    refine WL.next hQ7 (.cons (i := 0) rfl (.cons (i := 7) rfl (.cons (i := 9) rfl (.nil)))) ?_
    -- region 5: search.go:155
    refine W.seqR fun Q8 hQ8 => ?_
    refine WL.q (Y.move (.pl rfl)) rfl ?_
    refine WL.q (Y.move (.pl rfl)) rfl ?_
    refine WL.q (Y.loadBA (ds := (encRel (Rel.mk r14.1 r14.2.1))) Try.underlying115 rfl cells115 (.pl rfl) (i := 0) rfl rfl subW) rfl ?_
    obtain ⟨r16, hr16, hF⟩ := bnd hF
    refine WL.step (WO.callM isGo61 (.cons (.pl rfl) (.cons (.pl rfl) (.cons (.pl rfl) (.nil)))) rfl (fun wz hw => search_Smallest_ok (hr16) wz (hs4.mono hw) (SlIn.ofRow lenCall hw (i := 1) rfl)) ?_)
    rintro ⟨A17, c18⟩ -
    refine WL.q (Y.move (.pl rfl)) rfl ?_
    refine WL.q (Y.extract (.pl rfl) rfl) rfl ?_
    refine WL.q (Y.extract (.pl rfl) rfl) rfl ?_
    refine WL.q (Y.assign (.pl rfl)) rfl ?_
    refine WL.q (Y.assign (.pl rfl)) rfl ?_
    refine WL.next hQ8 (.cons (i := 11) rfl (.cons (i := 12) rfl (.nil))) ?_
    -- region 6: search.go:156
    refine W.seqR fun Q9 hQ9 => ?_
    refine WL.q (Y.move (.pl rfl)) rfl ?_
    refine WL.q (Y.move (.pl rfl)) rfl ?_
    refine WL.q (Y.assign (.pl rfl)) rfl ?_
    refine WL.q (Y.assign (.pl rfl)) rfl ?_
    refine WL.q (Y.assign (.pl rfl)) rfl ?_
    refine WL.next hQ9 (.cons (i := 4) rfl (.cons (i := 5) rfl (.cons (i := 6) rfl (.nil)))) ?_
    obtain rfl := Option.some.inj hF
    refine W.retV (fn := Try.f31) (vs := [.slice A17 (r16.1).length c18, .bool r16.2, .int .i64 0]) Try.results31 ⟨.tmp rfl, ⟨.tmp rfl, ⟨.tmp rfl, trivial⟩⟩⟩ (fun _ _ h => h) (fun wz hw => ?_)
    exact hR _ _ ⟨(A17, c18), trivial, rfl, (hw.pick [0] rfl)⟩

def search_Valid_L7 (N : Nat) (w12 : (List Step)) (calls6 : (List Call)) (ahead11 : Rel) : (Int × (List (List Do)) × Int) → Option ((Int × (List (List Do)) × Int) ⊕ ((Int × (List (List Do))) ⊕ Bool))
  | (placed23, lists24, v26) =>
    cond (decide (v26 < ((w12).length : Int)))
      (bd (ix w12 v26) fun (x27 : Step) =>
      bd ((cond ((((decide (x27.call < 0)) || (decide (((calls6).length : Int) ≤ x27.call))) || (decide ((bandI .u16 (shrI .u16 placed23 (IntKind.u64.wrap x27.call)) 1) = 1))) == false) (ax 12 0 ahead11.after x27.call) (some 0))) fun (x29 : Int) =>
      cond ((((decide (x27.call < 0)) || (decide (((calls6).length : Int) ≤ x27.call))) || (decide ((bandI .u16 (shrI .u16 placed23 (IntKind.u64.wrap x27.call)) 1) = 1))) || (!(decide ((bandI .u16 x29 placed23) = 0))))
        (some (.inr (.inr false)))
        (bd (ix calls6 x27.call) fun (x30 : Call) =>
        cond ((!(decide (x30.to_ = (-1)))) && (!(decide (x27.res = x30.res))))
          (some (.inr (.inr false)))
          (bd (ix lists24 x30.thing) fun (x32 : (List Do)) =>
          ck (limB 24 ((x32).length + (([(Do.mk x30.kind x30.arg x27.res)] : List Do)).length)) <|
          bd (ix lists24 x30.thing) fun (x37 : (List Do)) =>
          ck (ok64 (v26 + 1)) <|
          some (.inl ((borI .u16 placed23 (shlI .u16 1 (IntKind.u64.wrap x27.call))), (lists24.set x30.thing.toNat (x32 ++ ([(Do.mk x30.kind x30.arg x27.res)] : List Do))), (v26 + 1))))))
      (some (.inr (.inl (placed23, lists24))))

def search_Valid_L9 (N : Nat) (calls6 : (List Call)) (placed20 : Int) : Int → Option (Int ⊕ (Unit ⊕ Bool))
  | v43 =>
    cond (decide (v43 < ((calls6).length : Int)))
      (bd (ix calls6 v43) fun (x44 : Call) =>
      cond ((!(decide (x44.to_ = (-1)))) && (decide ((bandI .u16 (shrI .u16 placed20 (IntKind.u64.wrap v43)) 1) = 0)))
        (some (.inr (.inr false)))
        (ck (ok64 (v43 + 1)) <|
        some (.inl (v43 + 1))))
      (some (.inr (.inl ())))

def search_Valid_L11 (N : Nat) (lists21 : (List (List Do))) (types1 : (List Int)) : Int → Option (Int ⊕ (Unit ⊕ Bool))
  | v47 =>
    cond (decide (v47 < ((lists21).length : Int)))
      (bd (ix lists21 v47) fun (x48 : (List Do)) =>
      bd (ix types1 v47) fun (x49 : Int) =>
      bd (object_Play N x49 x48) fun (r50 : (Int × Int)) =>
      cond ((!(decide (r50.2 = 0))) || (decide (r50.1 < ((x48).length : Int))))
        (some (.inr (.inr false)))
        (ck (ok64 (v47 + 1)) <|
        some (.inl (v47 + 1))))
      (some (.inr (.inl ())))

def search_Valid (N : Nat) (types1 : (List Int)) (calls6 : (List Call)) (ahead11 : Rel) (w12 : (List Step)) : Option Bool :=
  ck (mkB 24 ((types1).length : Int)) <|
  bd (α := ((Int × (List (List Do))) ⊕ Bool)) (iter (search_Valid_L7 N w12 calls6 ahead11) N (0, (List.replicate ((types1).length : Int).toNat ([] : List Do)), 0)) <|
  Sum.elim (fun (placed20, lists21) => 
    bd (α := (Unit ⊕ Bool)) (iter (search_Valid_L9 N calls6 placed20) N 0) <|
    Sum.elim (fun _ => 
      bd (α := (Unit ⊕ Bool)) (iter (search_Valid_L11 N lists21 types1) N 0) <|
      Sum.elim (fun _ => 
        some true) (fun p => some p)) (fun p => some p)) (fun p => some p)

theorem search_Valid_ok {N : Nat} {types1 : (List Int)} {calls6 : (List Call)} {ahead11 : Rel} {w12 : (List Step)} {res : Bool} (hF : search_Valid N types1 calls6 ahead11 w12 = some res) (w : World) {v5 : Value} (hs4 : SlIn (eI .i64) 1 w v5 types1) {v10 : Value} (hs9 : SlIn encCall 7 w v10 calls6) {v16 : Value} (hs15 : SlIn encStep 2 w v16 w12) :
    Pure Try.prog 76 [v5, v10, .agg (encRel ahead11).toArray, v16] w (.bool res) := by
  obtain ⟨A2, c3, rfl, hcc3, hs4⟩ := hs4.form
  obtain ⟨A7, c8, rfl, hcc8, hs9⟩ := hs9.form
  obtain ⟨A13, c14, rfl, hcc14, hs15⟩ := hs15.form
  refine W.enter (n := 142) Try.func76 rfl rfl Sub.refl (by simp) (St.start w) fun R hR => ?_
  unfold search_Valid at hF
  -- region 0: search.go:25
  refine W.seqR fun Q1 hQ1 => ?_
  refine WL.step (WO.boxA (.pl rfl) rfl fun b17 => ?_)
  refine WL.q (Y.assign (.pl rfl)) rfl ?_
  refine WL.next hQ1 (.cons (i := 0) rfl (.cons (i := 1) rfl (.cons (i := 3) rfl (.cons (i := 6) rfl (.nil))))) ?_
  -- region 1: search.go:26
  refine W.seqR fun Q2 hQ2 => ?_
  refine WL.q (Y.assign (.pl rfl)) rfl ?_
  refine WL.next hQ2 (.cons (i := 0) rfl (.cons (i := 1) rfl (.cons (i := 3) rfl (.cons (i := 6) rfl (.cons (i := 9) rfl (.nil)))))) ?_
  -- region 2: search.go:27
  refine W.seqR fun Q3 hQ3 => ?_
  refine WL.q (Y.move (.pl rfl)) rfl ?_
  refine WL.q (Y.len Try.underlying47 (.pl rfl)) rfl ?_
  obtain ⟨hk19, hF⟩ := ckh hF
  refine WL.step (WO.makeN (enc := encSl) (inn := (innSl encDo 3 217)) (h0 := ((none, 0) : Hd)) (z := ([] : List Do)) Try.underlying214 mka215 rfl (nilI encDo 3 217) (.pl rfl) (hk19) rfl fun b18 => ?_)
  refine WL.q (Y.assign (.pl rfl)) rfl ?_
  refine WL.next hQ3 (.cons (i := 0) rfl (.cons (i := 1) rfl (.cons (i := 3) rfl (.cons (i := 6) rfl (.cons (i := 9) rfl (.cons (i := 10) rfl (.nil))))))) ?_
  obtain ⟨o4, hF4, hF⟩ := bnd hF
  refine W.join3 (Em := fun (placed20 : Int) (lists21 : (List (List Do))) (hd22 : List Hd) => [(9, .int .u16 placed20), (10, .slice (some ⟨b18, 0, none⟩) (lists21).length ((types1).length : Int).toNat)]) (M := fun placed20 lists21 hd22 => [cN encSl (innSl encDo 3 217) 1 (some ⟨b18, 0, none⟩) ((types1).length : Int).toNat 215 hd22 lists21]) (I := fun placed20 lists21 hd22 => (.inl (placed20, lists21)) = o4) (.cons (i := 0) rfl (.cons (i := 1) rfl (.nil))) (fun K5 hK5 => ?_) ?_
  · -- up to
    -- region 3: search.go:28
    refine W.seqR fun Q6 hQ6 => ?_
    refine WL.q (Y.move (.pl rfl)) rfl ?_
    refine WL.q (Y.len Try.underlying53 (.pl rfl)) rfl ?_
    refine WL.q (Y.move (.pl rfl)) rfl ?_
    refine WL.next hQ6 (.cons (i := 0) rfl (.cons (i := 1) rfl (.cons (i := 6) rfl (.cons (i := 9) rfl (.cons (i := 10) rfl (.cons (i := 23) rfl (.cons (i := 24) rfl (.cons (i := 25) rfl (.nil))))))))) ?_
    refine W.block ?_
    refine W.loop4 (Em := fun (placed23 : Int) (lists24 : (List (List Do))) (v26 : Int) (hd25 : List Hd) => [(9, .int .u16 placed23), (10, .slice (some ⟨b18, 0, none⟩) (lists24).length ((types1).length : Int).toNat), (25, .int .i64 v26)]) (M := fun placed23 lists24 v26 hd25 => [cBx b17 115 (encRel ahead11), cN encSl (innSl encDo 3 217) 1 (some ⟨b18, 0, none⟩) ((types1).length : Int).toNat 215 hd25 lists24]) (I := fun placed23 lists24 v26 hd25 k7 => iter (search_Valid_L7 N w12 calls6 ahead11) k7 (placed23, lists24, v26) = some o4) 0 (List.replicate ((types1).length : Int).toNat ([] : List Do)) 0 (List.replicate ((types1).length : Int).toNat ((none, 0) : Hd)) N (hF4) (.cons rfl (.cons rfl (.cons rfl (.nil)))) (.cons (i := 0) rfl (.cons (i := 1) rfl (.cons (i := 6) rfl (.cons (i := 23) rfl (.cons (i := 24) rfl (.nil)))))) (fun wz hw => hw.pick [1, 0] rfl) (fun placed23 lists24 v26 hd25 k7 hI K8 hK8 => ?_)
    obtain ⟨k7, t7, rfl, hF7, hN7⟩ := iter_step hI
    -- region 4: search.go:28
    refine W.seqR fun Q9 hQ9 => ?_
    refine WL.q (Y.lss (.pl rfl) (.pl rfl)) rfl ?_
    refine WL.next hQ9 (.cons (i := 0) rfl (.cons (i := 1) rfl (.cons (i := 6) rfl (.cons (i := 9) rfl (.cons (i := 10) rfl (.cons (i := 23) rfl (.cons (i := 24) rfl (.cons (i := 25) rfl (.cons (i := 26) rfl (.nil)))))))))) ?_
    refine W.seq fun K10 hK10 => ?_
    refine W.cond (.pl rfl) (fun hC11 => ?_) (fun hC11 => ?_)
    · replace hF7 := cpos hC11 hF7
      refine W.skip ?_
      refine W.go hK10 (.cons (i := 0) rfl (.cons (i := 1) rfl (.cons (i := 6) rfl (.cons (i := 9) rfl (.cons (i := 10) rfl (.cons (i := 23) rfl (.cons (i := 24) rfl (.cons (i := 25) rfl (.nil))))))))) ?_
      refine W.seq fun K12 hK12 => ?_
      refine W.block ?_
      -- region 5: search.go:28
      refine W.seqR fun Q13 hQ13 => ?_
      obtain ⟨x27, hx27, hF7⟩ := bnd hF7
      refine WL.q (Y.slEl Try.underlying53 cells77 hs15 (.pl rfl) (.pl rfl) (ix_lt (hx27))) rfl ?_
      refine WL.q (Y.loadSA (enc := encStep) (ds := (encStep x27)) (j := 0) Try.underlying77 rfl cells77 hs15 (.pl rfl) (hx27) rfl rfl subW) rfl ?_
      refine WL.step (WO.alloc (cs := (encStep (Step.mk 0 0)).toArray) zero77 rfl rfl fun b28 => ?_)
      refine WL.step (WO.storeBA (ds := (encStep x27)) (cs' := (encStep x27)) cells77 (.pl rfl) (.pl rfl) rfl (oneStep _) (i := 0) rfl (lel (o := 0) (l := 2) (m := 2) (by decide) rfl rfl) (putW rfl) ?_)
      refine WL.next hQ13 (.cons (i := 0) rfl (.cons (i := 1) rfl (.cons (i := 6) rfl (.cons (i := 9) rfl (.cons (i := 10) rfl (.cons (i := 12) rfl (.cons (i := 23) rfl (.cons (i := 24) rfl (.cons (i := 25) rfl (.nil)))))))))) ?_
      refine W.seq fun K14 hK14 => ?_
      -- region 6: search.go:29
      refine W.seqR fun Q15 hQ15 => ?_
      refine WL.q (Y.fieldAddr0 (off := 0) (ft := 3) Try.underlying77 rfl cells3 (.pl rfl)) rfl ?_
      refine WL.q (Y.loadB (v := .int .i64 x27.call) Try.underlying3 rfl (.pl rfl) (i := 0) rfl (rfl)) rfl ?_
      refine WL.q (Y.lss (.pl rfl) (.pl rfl)) rfl ?_
      refine WL.q (Y.move (.pl rfl)) rfl ?_
      refine WL.g (.pl rfl rfl rfl) (fun hg => Y.fieldAddr0 (off := 0) (ft := 3) Try.underlying77 rfl cells3 (.pl rfl)) rfl ?_
      refine WL.g (.pl rfl rfl rfl) (fun hg => Y.loadB (v := .int .i64 x27.call) Try.underlying3 rfl (.gd (hg) rfl) (i := 0) rfl (rfl)) rfl ?_
      refine WL.g (.pl rfl rfl rfl) (fun hg => Y.move (.pl rfl)) rfl ?_
      refine WL.g (.pl rfl rfl rfl) (fun hg => Y.len Try.underlying44 (.gd (hg) rfl)) rfl ?_
      refine WL.g (.pl rfl rfl rfl) (fun hg => Y.geq (.gd (hg) rfl) (.gd (hg) rfl)) rfl ?_
      refine WL.q (Y.or (.pl rfl) (fun h2 => .gd (eqf h2) rfl)) rfl ?_
      refine WL.q (Y.move (.pl rfl)) rfl ?_
      refine WL.g (.pl rfl rfl rfl) (fun hg => Y.move (.pl rfl)) rfl ?_
      refine WL.g (.pl rfl rfl rfl) (fun hg => Y.fieldAddr0 (off := 0) (ft := 3) Try.underlying77 rfl cells3 (.pl rfl)) rfl ?_
      refine WL.g (.pl rfl rfl rfl) (fun hg => Y.loadB (v := .int .i64 x27.call) Try.underlying3 rfl (.gd (hg) rfl) (i := 0) rfl (rfl)) rfl ?_
      refine WL.g (.pl rfl rfl rfl) (fun hg => Y.conv Try.underlying3 Try.underlying179 (.gd (hg) rfl)) rfl ?_
      refine WL.g (.pl rfl rfl rfl) (fun hg => Y.shr (.gd (hg) rfl) (.gd (hg) rfl) (wrapU_nn rfl _)) rfl ?_
      refine WL.g (.pl rfl rfl rfl) (fun hg => Y.band (.gd (hg) rfl) (.pl rfl)) rfl ?_
      refine WL.g (.pl rfl rfl rfl) (fun hg => Y.eql (.gd (hg) rfl) (.pl rfl)) rfl ?_
      refine WL.q (Y.or (.pl rfl) (fun h2 => .gd (eqf h2) rfl)) rfl ?_
      refine WL.q (Y.move (.pl rfl)) rfl ?_
      refine WL.g (.pl rfl rfl rfl) (fun hg => Y.fieldAddr0 (off := 0) (ft := 3) Try.underlying77 rfl cells3 (.pl rfl)) rfl ?_
      refine WL.g (.pl rfl rfl rfl) (fun hg => Y.loadB (v := .int .i64 x27.call) Try.underlying3 rfl (.gd (hg) rfl) (i := 0) rfl (rfl)) rfl ?_
      refine WL.g (.pl rfl rfl rfl) (fun hg => Y.fieldAddr0 (off := 1) (ft := 113) Try.underlying115 rfl cells113 (.pl rfl)) rfl ?_
      obtain ⟨x29, hx29, hF7⟩ := bnd hF7
      refine WL.g (.pl rfl rfl rfl) (fun hg => Y.arrZ Try.underlying113 cells112 (.gd (hg) rfl) (.gd (hg) rfl) (ax_lt (gpos hg hx29))) rfl ?_
      refine WL.g (.pl rfl rfl rfl) (fun hg => Y.loadB (v := .int .u16 x29) Try.underlying112 rfl (.gd (hg) rfl) (i := 1) rfl (cellsA (pre := (Value.int .i64 ahead11.n :: [])) (off := 1) (post := []) (a := ahead11.after) (enc := (eI .u16)) (d := 0) (n := 12) (sz := 1) (j := 0) (fun _ => rfl) rfl (ax_nat (gpos hg hx29)) (ax_get (gpos hg hx29)) rfl)) rfl ?_
      refine WL.g (.pl rfl rfl rfl) (fun hg => Y.move (.pl rfl)) rfl ?_
      refine WL.g (.pl rfl rfl rfl) (fun hg => Y.band (.gd (hg) rfl) (.gd (hg) rfl)) rfl ?_
      refine WL.g (.pl rfl rfl rfl) (fun hg => Y.neq (.gd (hg) rfl) (.pl rfl)) rfl ?_
      refine WL.q (Y.or (.pl rfl) (fun h2 => .gd (eqf h2) rfl)) rfl ?_
      refine WL.next hQ15 (.cons (i := 0) rfl (.cons (i := 1) rfl (.cons (i := 6) rfl (.cons (i := 9) rfl (.cons (i := 10) rfl (.cons (i := 12) rfl (.cons (i := 23) rfl (.cons (i := 24) rfl (.cons (i := 25) rfl (.cons (i := 57) rfl (.nil))))))))))) ?_
      refine W.cond (.pl rfl) (fun hC16 => ?_) (fun hC16 => ?_)
      · replace hF7 := cpos hC16 hF7
        -- region 7: search.go:30
        refine W.seqR fun Q17 hQ17 => ?_
        refine WL.q (Y.assign (.pl rfl)) rfl ?_
        refine WL.next hQ17 (.cons (i := 8) rfl (.nil)) ?_
        obtain rfl := Option.some.inj hF7
        obtain rfl := einr hN7
        obtain rfl := Option.some.inj hF
        refine W.retV (fn := Try.f76) (vs := [.bool false]) Try.results76 ⟨.tmp rfl, trivial⟩ (fun _ _ h => h) (fun wz hw => ?_)
        exact hR _ _ ⟨rfl, (hw.pick [] rfl)⟩
      · replace hF7 := cneg hC16 hF7
        refine W.skip ?_
        refine W.go hK14 (.cons (i := 0) rfl (.cons (i := 1) rfl (.cons (i := 6) rfl (.cons (i := 9) rfl (.cons (i := 10) rfl (.cons (i := 12) rfl (.cons (i := 23) rfl (.cons (i := 24) rfl (.cons (i := 25) rfl (.nil)))))))))) ?_
        -- region 8: search.go:32
        refine W.seqR fun Q18 hQ18 => ?_
        refine WL.q (Y.move (.pl rfl)) rfl ?_
        refine WL.q (Y.fieldAddr0 (off := 0) (ft := 3) Try.underlying77 rfl cells3 (.pl rfl)) rfl ?_
        refine WL.q (Y.loadB (v := .int .i64 x27.call) Try.underlying3 rfl (.pl rfl) (i := 0) rfl (rfl)) rfl ?_
        obtain ⟨x30, hx30, hF7⟩ := bnd hF7
        refine WL.q (Y.slEl Try.underlying44 cells51 hs9 (.pl rfl) (.pl rfl) (ix_lt (hx30))) rfl ?_
        refine WL.q (Y.loadSA (enc := encCall) (ds := (encCall x30)) (j := 0) Try.underlying51 rfl cells51 hs9 (.pl rfl) (hx30) rfl rfl subW) rfl ?_
        refine WL.step (WO.alloc (cs := (encCall (Call.mk 0 0 0 0 0 0 0)).toArray) zero51 rfl rfl fun b31 => ?_)
        refine WL.step (WO.storeBA (ds := (encCall x30)) (cs' := (encCall x30)) cells51 (.pl rfl) (.pl rfl) rfl (oneCall _) (i := 0) rfl (lel (o := 0) (l := 7) (m := 7) (by decide) rfl rfl) (putW rfl) ?_)
        refine WL.next hQ18 (.cons (i := 0) rfl (.cons (i := 1) rfl (.cons (i := 6) rfl (.cons (i := 9) rfl (.cons (i := 10) rfl (.cons (i := 12) rfl (.cons (i := 13) rfl (.cons (i := 23) rfl (.cons (i := 24) rfl (.cons (i := 25) rfl (.nil))))))))))) ?_
        refine W.seq fun K19 hK19 => ?_
        -- region 9: search.go:33
        refine W.seqR fun Q20 hQ20 => ?_
        refine WL.q (Y.fieldAddr0 (off := 6) (ft := 3) Try.underlying51 rfl cells3 (.pl rfl)) rfl ?_
        refine WL.q (Y.loadB (v := .int .i64 x30.to_) Try.underlying3 rfl (.pl rfl) (i := 0) rfl (rfl)) rfl ?_
        refine WL.q (Y.neq (.pl rfl) (.pl rfl)) rfl ?_
        refine WL.q (Y.move (.pl rfl)) rfl ?_
        refine WL.g (.pl rfl rfl rfl) (fun hg => Y.fieldAddr0 (off := 1) (ft := 3) Try.underlying77 rfl cells3 (.pl rfl)) rfl ?_
        refine WL.g (.pl rfl rfl rfl) (fun hg => Y.loadB (v := .int .i64 x27.res) Try.underlying3 rfl (.gd (hg) rfl) (i := 1) rfl (rfl)) rfl ?_
        refine WL.g (.pl rfl rfl rfl) (fun hg => Y.fieldAddr0 (off := 4) (ft := 3) Try.underlying51 rfl cells3 (.pl rfl)) rfl ?_
        refine WL.g (.pl rfl rfl rfl) (fun hg => Y.loadB (v := .int .i64 x30.res) Try.underlying3 rfl (.gd (hg) rfl) (i := 0) rfl (rfl)) rfl ?_
        refine WL.g (.pl rfl rfl rfl) (fun hg => Y.neq (.gd (hg) rfl) (.gd (hg) rfl)) rfl ?_
        refine WL.q (Y.and (.pl rfl) (fun h2 => .gd (eqt h2) rfl)) rfl ?_
        refine WL.next hQ20 (.cons (i := 0) rfl (.cons (i := 1) rfl (.cons (i := 6) rfl (.cons (i := 9) rfl (.cons (i := 10) rfl (.cons (i := 12) rfl (.cons (i := 13) rfl (.cons (i := 23) rfl (.cons (i := 24) rfl (.cons (i := 25) rfl (.cons (i := 72) rfl (.nil)))))))))))) ?_
        refine W.cond (.pl rfl) (fun hC21 => ?_) (fun hC21 => ?_)
        · replace hF7 := cpos hC21 hF7
          -- region 10: search.go:34
          refine W.seqR fun Q22 hQ22 => ?_
          refine WL.q (Y.assign (.pl rfl)) rfl ?_
          refine WL.next hQ22 (.cons (i := 8) rfl (.nil)) ?_
          obtain rfl := Option.some.inj hF7
          obtain rfl := einr hN7
          obtain rfl := Option.some.inj hF
          refine W.retV (fn := Try.f76) (vs := [.bool false]) Try.results76 ⟨.tmp rfl, trivial⟩ (fun _ _ h => h) (fun wz hw => ?_)
          exact hR _ _ ⟨rfl, (hw.pick [] rfl)⟩
        · replace hF7 := cneg hC21 hF7
          refine W.skip ?_
          refine W.go hK19 (.cons (i := 0) rfl (.cons (i := 1) rfl (.cons (i := 6) rfl (.cons (i := 9) rfl (.cons (i := 10) rfl (.cons (i := 12) rfl (.cons (i := 13) rfl (.cons (i := 23) rfl (.cons (i := 24) rfl (.cons (i := 25) rfl (.nil))))))))))) ?_
          -- region 11: search.go:36
          refine W.seqR fun Q23 hQ23 => ?_
          refine WL.q (Y.move (.pl rfl)) rfl ?_
          refine WL.q (Y.fieldAddr0 (off := 0) (ft := 3) Try.underlying77 rfl cells3 (.pl rfl)) rfl ?_
          refine WL.q (Y.loadB (v := .int .i64 x27.call) Try.underlying3 rfl (.pl rfl) (i := 1) rfl (rfl)) rfl ?_
          refine WL.q (Y.conv Try.underlying3 Try.underlying179 (.pl rfl)) rfl ?_
          refine WL.q (Y.shl (.pl rfl) (.pl rfl) (wrapU_nn rfl _)) rfl ?_
          refine WL.q (Y.bor (.pl rfl) (.pl rfl)) rfl ?_
          refine WL.q (Y.assign (.pl rfl)) rfl ?_
          refine WL.next hQ23 (.cons (i := 0) rfl (.cons (i := 1) rfl (.cons (i := 6) rfl (.cons (i := 9) rfl (.cons (i := 10) rfl (.cons (i := 12) rfl (.cons (i := 13) rfl (.cons (i := 23) rfl (.cons (i := 24) rfl (.cons (i := 25) rfl (.nil))))))))))) ?_
          -- region 12: search.go:37
          refine W.know (fun wz hw => n_okA0 hw (i := 3) rfl) (fun hok25 => ?_)
          refine W.regXK 18 [0, 1, 2] (by kernel_rfl) ?_
          refine WX.pure 0 #[true, false, false, false, false, false, false, false, false, false, false, false, false, false, false, false, false, false, false] rfl (by kernel_rfl) (fun _ _ => Y.move (.pl rfl)) rfl ?_
          refine WX.pure 1 #[true, true, false, false, false, false, false, false, false, false, false, false, false, false, false, false, false, false, false] rfl (by kernel_rfl) (fun _ _ => Y.fieldAddr0 (off := 1) (ft := 3) Try.underlying51 rfl cells3 (.pl rfl)) rfl ?_
          refine WX.take 2 #[true, true, true, false, false, false, false, false, false, false, false, false, false, false, false, false, false, false, false] (fun wz hw => hw.pick [0, 1, 2] rfl) rfl (by kernel_rfl) (Y.loadB (v := .int .i64 x30.thing) Try.underlying3 rfl (.pl rfl) (i := 0) rfl (rfl)) rfl ?_
          refine WX.pure 3 #[true, true, true, true, false, false, false, false, false, false, false, false, false, false, false, false, false, false, false] rfl (by kernel_rfl) (fun _ _ => Y.move (.pl rfl)) rfl ?_
          refine WX.pure 4 #[true, true, true, true, true, false, false, false, false, false, false, false, false, false, false, false, false, false, false] rfl (by kernel_rfl) (fun _ _ => Y.fieldAddr0 (off := 1) (ft := 3) Try.underlying51 rfl cells3 (.pl rfl)) rfl ?_
          refine WX.take 5 #[true, true, true, true, true, true, false, false, false, false, false, false, false, false, false, false, false, false, false] (fun wz hw => hw.pick [0, 1, 2] rfl) rfl (by kernel_rfl) (Y.loadB (v := .int .i64 x30.thing) Try.underlying3 rfl (.pl rfl) (i := 0) rfl (rfl)) rfl ?_
          obtain ⟨x32, hx32, hF7⟩ := bnd hF7
          refine WX.pure 6 #[true, true, true, true, true, true, true, false, false, false, false, false, false, false, false, false, false, false, false] rfl (by kernel_rfl) (fun _ _ => Y.okEl (xs := lists24) Try.underlying214 cells215 hok25 (.pl rfl) rfl (.pl rfl) (ix_lt (hx32))) rfl ?_
          refine WX.pure 8 #[true, true, true, true, true, true, true, false, true, false, false, false, false, false, false, false, false, false, false] rfl (by kernel_rfl) (fun _ _ => Y.fieldAddr0 (off := 2) (ft := 3) Try.underlying51 rfl cells3 (.pl rfl)) rfl ?_
          refine WX.take 9 #[true, true, true, true, true, true, true, false, true, true, false, false, false, false, false, false, false, false, false] (fun wz hw => hw.pick [0, 1, 2] rfl) rfl (by kernel_rfl) (Y.loadB (v := .int .i64 x30.kind) Try.underlying3 rfl (.pl rfl) (i := 0) rfl (rfl)) rfl ?_
          refine WX.pure 10 #[true, true, true, true, true, true, true, false, true, true, true, false, false, false, false, false, false, false, false] rfl (by kernel_rfl) (fun _ _ => Y.fieldAddr0 (off := 3) (ft := 3) Try.underlying51 rfl cells3 (.pl rfl)) rfl ?_
          refine WX.take 11 #[true, true, true, true, true, true, true, false, true, true, true, true, false, false, false, false, false, false, false] (fun wz hw => hw.pick [0, 1, 2] rfl) rfl (by kernel_rfl) (Y.loadB (v := .int .i64 x30.arg) Try.underlying3 rfl (.pl rfl) (i := 0) rfl (rfl)) rfl ?_
          refine WX.pure 12 #[true, true, true, true, true, true, true, false, true, true, true, true, true, false, false, false, false, false, false] rfl (by kernel_rfl) (fun _ _ => Y.fieldAddr0 (off := 1) (ft := 3) Try.underlying77 rfl cells3 (.pl rfl)) rfl ?_
          refine WX.take 13 #[true, true, true, true, true, true, true, false, true, true, true, true, true, true, false, false, false, false, false] (fun wz hw => hw.pick [0, 1, 2] rfl) rfl (by kernel_rfl) (Y.loadB (v := .int .i64 x27.res) Try.underlying3 rfl (.pl rfl) (i := 1) rfl (rfl)) rfl ?_
          refine WX.pure 14 #[true, true, true, true, true, true, true, false, true, true, true, true, true, true, true, false, false, false, false] rfl (by kernel_rfl) (fun _ _ => Y.build (cs := (encDo (Do.mk x30.kind x30.arg x27.res)).toArray) shape217 (.cons (.pl rfl) (.cons (.pl rfl) (.cons (.pl rfl) (.nil)))) (one_parts ⟨rfl, ⟨rfl, ⟨rfl, trivial⟩⟩⟩) rfl) rfl ?_
          obtain ⟨hk36, hF7⟩ := ckh hF7
          obtain ⟨x37, hx37, hF7⟩ := bnd hF7
          refine WX.branch [7, 15] (fun wz hw => hw.pick [0, 1, 2] rfl) (by kernel_rfl) ⟨?_, ?_, trivial⟩
          · skip
            refine WXI.step #[true, true, true, true, true, true, true, true, true, true, true, true, true, true, true, false, false, false, false] rfl rfl (WO.q (Y.loadN (enc := encSl) (h0 := ((none, 0) : Hd)) (v := .slice (hd25.getD x30.thing.toNat ((none, 0) : Hd)).1 (x32).length (hd25.getD x30.thing.toNat ((none, 0) : Hd)).2) (a := x32) (idx := x30.thing) (j := 0) Try.underlying215 rfl lenSl (i := 3) rfl (.pl rfl) (ix_get (hx32)) rfl rfl) rfl ?_)
            refine WX.one 15 #[true, true, true, true, true, true, true, true, true, true, true, true, true, true, true, true, false, false, false] (fun wz hw => hw.pick [0, 1, 2] rfl) rfl (by kernel_rfl) (WO.bsliceC (enc := encDo) (ys := ([(Do.mk x30.kind x30.arg x27.res)] : List Do)) Try.underlying215 bz217 (.cons (.pl rfl) (.nil)) rfl lenDo rfl rfl (by decide) (by decide) rfl fun b33 => ?_)
            refine WX.one 16 #[true, true, true, true, true, true, true, true, true, true, true, true, true, true, true, true, true, false, false] (fun wz hw => hw.pick [1, 2, 3] rfl) rfl (by kernel_rfl) (WO.entO (Ent.hole (h0 := ((none, 0) : Hd)) (i := 4) rfl (ix_get (hx32))) (WO.appendC (enc := encDo) Try.underlying215 ap217 lenDo oneDo (.pl rfl) rfl (.pl rfl) (i := 0) rfl (m2 := 2) rfl (hk36) rfl fun A34 c35 => ?_))
            refine WX.pure 17 #[true, true, true, true, true, true, true, true, true, true, true, true, true, true, true, true, true, true, false] rfl (by kernel_rfl) (fun _ _ => Y.okEl (xs := lists24) Try.underlying214 cells215 hok25 (.pl rfl) rfl (.pl rfl) (ix_lt (hx37))) rfl ?_
            refine WX.stop #[true, true, true, true, true, true, true, true, true, true, true, true, true, true, true, true, true, true, true] (fun wz hw => hw.pick [3, 4, 5] rfl) rfl (by kernel_rfl) (WO.storeH (enc := encSl) (inn := (innSl encDo 3 217)) (h0 := ((none, 0) : Hd)) (h' := ((A34, c35) : Hd)) (a := x37) (a' := (x32 ++ ([(Do.mk x30.kind x30.arg x27.res)] : List Do))) (idx := x30.thing) (j := 0) cells215 (.pl rfl) (.pl rfl) rfl lenSl (i := 1) rfl (ix_get (hx37)) rfl (by decide) rfl (.pick [0, 1, 2, 3, 4] rfl) ?_)
            refine WA.done (by kernel_rfl) ?_
            refine W.go hK12 (.cons (i := 0) rfl (.cons (i := 1) rfl (.cons (i := 6) rfl (.cons (i := 9) rfl (.cons (i := 10) rfl (.cons (i := 23) rfl (.cons (i := 24) rfl (.cons (i := 25) rfl (.nil))))))))) ?_
            -- region 13: search.go:28
            refine W.reg ?_
            obtain ⟨hk38, hF7⟩ := ckh hF7
            refine WL.q (Y.add (.pl rfl) (.pl rfl) (ok64_lt (hk38))) rfl ?_
            refine WL.q (Y.move (.pl rfl)) rfl ?_
            refine WL.nil ?_
            obtain rfl := Option.some.inj hF7
            exact W.again4 hK8 (borI .u16 placed23 (shlI .u16 1 (IntKind.u64.wrap x27.call))) (lists24.set x30.thing.toNat (x32 ++ ([(Do.mk x30.kind x30.arg x27.res)] : List Do))) (v26 + 1) (hd25.set x30.thing.toNat ((A34, c35) : Hd)) k7 hN7 (Nat.lt_succ_self _) (.cons rfl (.cons (eqSl (by simp)) (.cons rfl (.nil)))) (.cons (i := 0) rfl (.cons (i := 1) rfl (.cons (i := 6) rfl (.cons (i := 23) rfl (.cons (i := 24) rfl (.nil)))))) (fun wz hw => hw.pick [4, 0] rfl)
          · skip
            refine WXI.step #[true, true, true, true, true, true, true, false, true, true, true, true, true, true, true, true, false, false, false] rfl rfl (WO.bsliceC (enc := encDo) (ys := ([(Do.mk x30.kind x30.arg x27.res)] : List Do)) Try.underlying215 bz217 (.cons (.pl rfl) (.nil)) rfl lenDo rfl rfl (by decide) (by decide) rfl fun b39 => ?_)
            refine WX.one 7 #[true, true, true, true, true, true, true, true, true, true, true, true, true, true, true, true, false, false, false] (fun wz hw => hw.pick [1, 2, 3] rfl) rfl (by kernel_rfl) (WO.q (Y.loadN (enc := encSl) (h0 := ((none, 0) : Hd)) (v := .slice (hd25.getD x30.thing.toNat ((none, 0) : Hd)).1 (x32).length (hd25.getD x30.thing.toNat ((none, 0) : Hd)).2) (a := x32) (idx := x30.thing) (j := 0) Try.underlying215 rfl lenSl (i := 4) rfl (.pl rfl) (ix_get (hx32)) rfl rfl) rfl ?_)
            refine WX.one 16 #[true, true, true, true, true, true, true, true, true, true, true, true, true, true, true, true, true, false, false] (fun wz hw => hw.pick [1, 2, 3] rfl) rfl (by kernel_rfl) (WO.entO (Ent.hole (h0 := ((none, 0) : Hd)) (i := 4) rfl (ix_get (hx32))) (WO.appendC (enc := encDo) Try.underlying215 ap217 lenDo oneDo (.pl rfl) rfl (.pl rfl) (i := 0) rfl (m2 := 2) rfl (hk36) rfl fun A40 c41 => ?_))
            refine WX.pure 17 #[true, true, true, true, true, true, true, true, true, true, true, true, true, true, true, true, true, true, false] rfl (by kernel_rfl) (fun _ _ => Y.okEl (xs := lists24) Try.underlying214 cells215 hok25 (.pl rfl) rfl (.pl rfl) (ix_lt (hx37))) rfl ?_
            refine WX.stop #[true, true, true, true, true, true, true, true, true, true, true, true, true, true, true, true, true, true, true] (fun wz hw => hw.pick [3, 4, 5] rfl) rfl (by kernel_rfl) (WO.storeH (enc := encSl) (inn := (innSl encDo 3 217)) (h0 := ((none, 0) : Hd)) (h' := ((A40, c41) : Hd)) (a := x37) (a' := (x32 ++ ([(Do.mk x30.kind x30.arg x27.res)] : List Do))) (idx := x30.thing) (j := 0) cells215 (.pl rfl) (.pl rfl) rfl lenSl (i := 1) rfl (ix_get (hx37)) rfl (by decide) rfl (.pick [0, 1, 2, 3, 4] rfl) ?_)
            refine WA.done (by kernel_rfl) ?_
            refine W.go hK12 (.cons (i := 0) rfl (.cons (i := 1) rfl (.cons (i := 6) rfl (.cons (i := 9) rfl (.cons (i := 10) rfl (.cons (i := 23) rfl (.cons (i := 24) rfl (.cons (i := 25) rfl (.nil))))))))) ?_
            -- region 13: search.go:28
            refine W.reg ?_
            obtain ⟨hk42, hF7⟩ := ckh hF7
            refine WL.q (Y.add (.pl rfl) (.pl rfl) (ok64_lt (hk42))) rfl ?_
            refine WL.q (Y.move (.pl rfl)) rfl ?_
            refine WL.nil ?_
            obtain rfl := Option.some.inj hF7
            exact W.again4 hK8 (borI .u16 placed23 (shlI .u16 1 (IntKind.u64.wrap x27.call))) (lists24.set x30.thing.toNat (x32 ++ ([(Do.mk x30.kind x30.arg x27.res)] : List Do))) (v26 + 1) (hd25.set x30.thing.toNat ((A40, c41) : Hd)) k7 hN7 (Nat.lt_succ_self _) (.cons rfl (.cons (eqSl (by simp)) (.cons rfl (.nil)))) (.cons (i := 0) rfl (.cons (i := 1) rfl (.cons (i := 6) rfl (.cons (i := 23) rfl (.cons (i := 24) rfl (.nil)))))) (fun wz hw => hw.pick [4, 0] rfl)
    · replace hF7 := cneg hC11 hF7
      refine W.exit ?_
      obtain rfl := Option.some.inj hF7
      exact W.joinAt3 hK5 placed23 lists24 hd25 (einr hN7) (.cons rfl (.cons rfl (.nil))) (.cons (i := 0) rfl (.cons (i := 1) rfl (.nil))) (fun wz hw => hw.pick [1] rfl)
  · -- behind
    rintro placed20 lists21 hd22 rfl
    obtain ⟨o28, hF28, hF⟩ := bnd hF
    refine W.join0 (Em := []) (M := [cN encSl (innSl encDo 3 217) 1 (some ⟨b18, 0, none⟩) ((types1).length : Int).toNat 215 hd22 lists21]) (I := (.inl ()) = o28) (.cons (i := 0) rfl (.cons (i := 10) rfl (.nil))) (fun K29 hK29 => ?_) ?_
    · -- up to
      -- region 14: search.go:39
      refine W.seqR fun Q30 hQ30 => ?_
      refine WL.q (Y.move (.pl rfl)) rfl ?_
      refine WL.q (Y.len Try.underlying44 (.pl rfl)) rfl ?_
      refine WL.q (Y.move (.pl rfl)) rfl ?_
      refine WL.next hQ30 (.cons (i := 0) rfl (.cons (i := 9) rfl (.cons (i := 10) rfl (.cons (i := 98) rfl (.cons (i := 99) rfl (.cons (i := 100) rfl (.nil))))))) ?_
      refine W.block ?_
      refine W.loop1 (Em := fun (v43 : Int) => [(100, .int .i64 v43)]) (M := fun v43 => [cN encSl (innSl encDo 3 217) 1 (some ⟨b18, 0, none⟩) ((types1).length : Int).toNat 215 hd22 lists21]) (I := fun v43 k31 => iter (search_Valid_L9 N calls6 placed20) k31 v43 = some o28) 0 N (hF28) (.cons rfl (.nil)) (.cons (i := 0) rfl (.cons (i := 9) rfl (.cons (i := 10) rfl (.cons (i := 98) rfl (.cons (i := 99) rfl (.nil)))))) (fun wz hw => hw.pick [0] rfl) (fun v43 k31 hI K32 hK32 => ?_)
      obtain ⟨k31, t31, rfl, hF31, hN31⟩ := iter_step hI
      -- region 15: search.go:39
      refine W.seqR fun Q33 hQ33 => ?_
      refine WL.q (Y.lss (.pl rfl) (.pl rfl)) rfl ?_
      refine WL.next hQ33 (.cons (i := 0) rfl (.cons (i := 9) rfl (.cons (i := 10) rfl (.cons (i := 98) rfl (.cons (i := 99) rfl (.cons (i := 100) rfl (.cons (i := 101) rfl (.nil)))))))) ?_
      refine W.seq fun K34 hK34 => ?_
      refine W.cond (.pl rfl) (fun hC35 => ?_) (fun hC35 => ?_)
      · replace hF31 := cpos hC35 hF31
        refine W.skip ?_
        refine W.go hK34 (.cons (i := 0) rfl (.cons (i := 9) rfl (.cons (i := 10) rfl (.cons (i := 98) rfl (.cons (i := 99) rfl (.cons (i := 100) rfl (.nil))))))) ?_
        refine W.seq fun K36 hK36 => ?_
        refine W.block ?_
        -- region 16: search.go:39
        refine W.seqR fun Q37 hQ37 => ?_
        refine WL.q (Y.move (.pl rfl)) rfl ?_
        obtain ⟨x44, hx44, hF31⟩ := bnd hF31
        refine WL.q (Y.slEl Try.underlying44 cells51 hs9 (.pl rfl) (.pl rfl) (ix_lt (hx44))) rfl ?_
        refine WL.q (Y.loadSA (enc := encCall) (ds := (encCall x44)) (j := 0) Try.underlying51 rfl cells51 hs9 (.pl rfl) (hx44) rfl rfl subW) rfl ?_
        refine WL.step (WO.alloc (cs := (encCall (Call.mk 0 0 0 0 0 0 0)).toArray) zero51 rfl rfl fun b45 => ?_)
        refine WL.q (Y.assign (.pl rfl)) rfl ?_
        refine WL.step (WO.storeBA (ds := (encCall x44)) (cs' := (encCall x44)) cells51 (.pl rfl) (.pl rfl) rfl (oneCall _) (i := 0) rfl (lel (o := 0) (l := 7) (m := 7) (by decide) rfl rfl) (putW rfl) ?_)
        refine WL.next hQ37 (.cons (i := 0) rfl (.cons (i := 9) rfl (.cons (i := 10) rfl (.cons (i := 14) rfl (.cons (i := 15) rfl (.cons (i := 98) rfl (.cons (i := 99) rfl (.cons (i := 100) rfl (.nil))))))))) ?_
        -- region 17: search.go:40
        refine W.seqR fun Q38 hQ38 => ?_
        refine WL.q (Y.fieldAddr0 (off := 6) (ft := 3) Try.underlying51 rfl cells3 (.pl rfl)) rfl ?_
        refine WL.q (Y.loadB (v := .int .i64 x44.to_) Try.underlying3 rfl (.pl rfl) (i := 0) rfl (rfl)) rfl ?_
        refine WL.q (Y.neq (.pl rfl) (.pl rfl)) rfl ?_
        refine WL.q (Y.move (.pl rfl)) rfl ?_
        refine WL.g (.pl rfl rfl rfl) (fun hg => Y.move (.pl rfl)) rfl ?_
        refine WL.g (.pl rfl rfl rfl) (fun hg => Y.move (.pl rfl)) rfl ?_
        refine WL.g (.pl rfl rfl rfl) (fun hg => Y.conv Try.underlying3 Try.underlying179 (.gd (hg) rfl)) rfl ?_
        refine WL.g (.pl rfl rfl rfl) (fun hg => Y.shr (.gd (hg) rfl) (.gd (hg) rfl) (wrapU_nn rfl _)) rfl ?_
        refine WL.g (.pl rfl rfl rfl) (fun hg => Y.band (.gd (hg) rfl) (.pl rfl)) rfl ?_
        refine WL.g (.pl rfl rfl rfl) (fun hg => Y.eql (.gd (hg) rfl) (.pl rfl)) rfl ?_
        refine WL.q (Y.and (.pl rfl) (fun h2 => .gd (eqt h2) rfl)) rfl ?_
        refine WL.next hQ38 (.cons (i := 0) rfl (.cons (i := 9) rfl (.cons (i := 10) rfl (.cons (i := 98) rfl (.cons (i := 99) rfl (.cons (i := 100) rfl (.cons (i := 115) rfl (.nil)))))))) ?_
        refine W.cond (.pl rfl) (fun hC39 => ?_) (fun hC39 => ?_)
        · replace hF31 := cpos hC39 hF31
          -- region 18: search.go:41
          refine W.seqR fun Q40 hQ40 => ?_
          refine WL.q (Y.assign (.pl rfl)) rfl ?_
          refine WL.next hQ40 (.cons (i := 8) rfl (.nil)) ?_
          obtain rfl := Option.some.inj hF31
          obtain rfl := einr hN31
          obtain rfl := Option.some.inj hF
          refine W.retV (fn := Try.f76) (vs := [.bool false]) Try.results76 ⟨.tmp rfl, trivial⟩ (fun _ _ h => h) (fun wz hw => ?_)
          exact hR _ _ ⟨rfl, (hw.pick [] rfl)⟩
        · replace hF31 := cneg hC39 hF31
          refine W.skip ?_
          refine W.go hK36 (.cons (i := 0) rfl (.cons (i := 9) rfl (.cons (i := 10) rfl (.cons (i := 98) rfl (.cons (i := 99) rfl (.cons (i := 100) rfl (.nil))))))) ?_
          -- region 19: search.go:39
          refine W.reg ?_
          obtain ⟨hk46, hF31⟩ := ckh hF31
          refine WL.q (Y.add (.pl rfl) (.pl rfl) (ok64_lt (hk46))) rfl ?_
          refine WL.q (Y.move (.pl rfl)) rfl ?_
          refine WL.nil ?_
          obtain rfl := Option.some.inj hF31
          exact W.again1 hK32 (v43 + 1) k31 hN31 (Nat.lt_succ_self _) (.cons rfl (.nil)) (.cons (i := 0) rfl (.cons (i := 9) rfl (.cons (i := 10) rfl (.cons (i := 98) rfl (.cons (i := 99) rfl (.nil)))))) (fun wz hw => hw.pick [1] rfl)
      · replace hF31 := cneg hC35 hF31
        refine W.exit ?_
        obtain rfl := Option.some.inj hF31
        exact W.joinAt0 hK29  (einr hN31) (.nil) (.cons (i := 0) rfl (.cons (i := 10) rfl (.nil))) (fun wz hw => hw.pick [0] rfl)
    · -- behind
      rintro  rfl
      obtain ⟨o42, hF42, hF⟩ := bnd hF
      refine W.join0 (Em := []) (M := []) (I := (.inl ()) = o42) (.nil) (fun K43 hK43 => ?_) ?_
      · -- up to
        -- region 20: search.go:44
        refine W.seqR fun Q44 hQ44 => ?_
        refine WL.q (Y.move (.pl rfl)) rfl ?_
        refine WL.q (Y.len Try.underlying214 (.pl rfl)) rfl ?_
        refine WL.q (Y.move (.pl rfl)) rfl ?_
        refine WL.next hQ44 (.cons (i := 0) rfl (.cons (i := 117) rfl (.cons (i := 118) rfl (.cons (i := 119) rfl (.nil))))) ?_
        refine W.block ?_
        refine W.loop1 (Em := fun (v47 : Int) => [(119, .int .i64 v47)]) (M := fun v47 => [cN encSl (innSl encDo 3 217) 1 (some ⟨b18, 0, none⟩) ((types1).length : Int).toNat 215 hd22 lists21]) (I := fun v47 k45 => iter (search_Valid_L11 N lists21 types1) k45 v47 = some o42) 0 N (hF42) (.cons rfl (.nil)) (.cons (i := 0) rfl (.cons (i := 117) rfl (.cons (i := 118) rfl (.nil)))) (fun wz hw => hw.pick [0] rfl) (fun v47 k45 hI K46 hK46 => ?_)
        obtain ⟨k45, t45, rfl, hF45, hN45⟩ := iter_step hI
        -- region 21: search.go:44
        refine W.seqR fun Q47 hQ47 => ?_
        refine WL.q (Y.lss (.pl rfl) (.pl rfl)) rfl ?_
        refine WL.next hQ47 (.cons (i := 0) rfl (.cons (i := 117) rfl (.cons (i := 118) rfl (.cons (i := 119) rfl (.cons (i := 120) rfl (.nil)))))) ?_
        refine W.seq fun K48 hK48 => ?_
        refine W.cond (.pl rfl) (fun hC49 => ?_) (fun hC49 => ?_)
        · replace hF45 := cpos hC49 hF45
          refine W.skip ?_
          refine W.go hK48 (.cons (i := 0) rfl (.cons (i := 117) rfl (.cons (i := 118) rfl (.cons (i := 119) rfl (.nil))))) ?_
          refine W.seq fun K50 hK50 => ?_
          refine W.block ?_
          -- region 22: search.go:44
          refine W.seqR fun Q51 hQ51 => ?_
          refine WL.q (Y.move (.pl rfl)) rfl ?_
          obtain ⟨x48, hx48, hF45⟩ := bnd hF45
          refine WL.q (Y.litEl (xs := lists21) Try.underlying214 cells215 (.pl rfl) rfl (.pl rfl) (ix_lt (hx48))) rfl ?_
          refine WL.q (Y.loadN (enc := encSl) (h0 := ((none, 0) : Hd)) (v := .slice (hd22.getD v47.toNat ((none, 0) : Hd)).1 (x48).length (hd22.getD v47.toNat ((none, 0) : Hd)).2) (a := x48) (idx := v47) (j := 0) Try.underlying215 rfl lenSl (i := 0) rfl (.pl rfl) (ix_get (hx48)) rfl rfl) rfl ?_
          refine WL.q (Y.assign (.pl rfl)) rfl ?_
          refine WL.q (Y.assign (.pl rfl)) rfl ?_
          refine WL.next hQ51 (.cons (i := 0) rfl (.cons (i := 16) rfl (.cons (i := 17) rfl (.cons (i := 117) rfl (.cons (i := 118) rfl (.cons (i := 119) rfl (.nil))))))) ?_
          -- region 23: search.go:45
          refine W.seqR fun Q52 hQ52 => ?_
          refine WL.q (Y.move (.pl rfl)) rfl ?_
          refine WL.q (Y.move (.pl rfl)) rfl ?_
          obtain ⟨x49, hx49, hF45⟩ := bnd hF45
          refine WL.q (Y.slEl Try.underlying47 cells3 hs4 (.pl rfl) (.pl rfl) (ix_lt (hx49))) rfl ?_
          refine WL.q (Y.loadS (enc := (eI .i64)) (v := .int .i64 x49) (j := 0) Try.underlying3 rfl hs4 (.pl rfl) (hx49) rfl rfl) rfl ?_
          refine WL.q (Y.move (.pl rfl)) rfl ?_
          obtain ⟨r50, hr50, hF45⟩ := bnd hF45
          refine WL.step (WO.callP isGo111 (.cons (.pl rfl) (.cons (.pl rfl) (.nil))) rfl (fun wz hw => object_Play_ok (hr50) wz (SlIn.inN (enc2 := encDo) (sz2 := 3) (E2 := 217) (h0 := ((none, 0) : Hd)) lenDo hw (i := 0) rfl (hx48) (.head _))) ?_)
          refine WL.q (Y.move (.pl rfl)) rfl ?_
          refine WL.q (Y.extract (.pl rfl) rfl) rfl ?_
          refine WL.q (Y.extract (.pl rfl) rfl) rfl ?_
          refine WL.q (Y.assign (.pl rfl)) rfl ?_
          refine WL.q (Y.assign (.pl rfl)) rfl ?_
          refine WL.next hQ52 (.cons (i := 0) rfl (.cons (i := 17) rfl (.cons (i := 18) rfl (.cons (i := 19) rfl (.cons (i := 117) rfl (.cons (i := 118) rfl (.cons (i := 119) rfl (.nil)))))))) ?_
          -- region 24: search.go:45
          refine W.seqR fun Q53 hQ53 => ?_
          refine WL.q (Y.move (.pl rfl)) rfl ?_
          refine WL.q (Y.neq (.pl rfl) (.pl rfl)) rfl ?_
          refine WL.q (Y.move (.pl rfl)) rfl ?_
          refine WL.g (.pl rfl rfl rfl) (fun hg => Y.move (.pl rfl)) rfl ?_
          refine WL.g (.pl rfl rfl rfl) (fun hg => Y.move (.pl rfl)) rfl ?_
          refine WL.g (.pl rfl rfl rfl) (fun hg => Y.len Try.underlying215 (.gd (hg) rfl)) rfl ?_
          refine WL.g (.pl rfl rfl rfl) (fun hg => Y.lss (.gd (hg) rfl) (.gd (hg) rfl)) rfl ?_
          refine WL.q (Y.or (.pl rfl) (fun h2 => .gd (eqf h2) rfl)) rfl ?_
          refine WL.next hQ53 (.cons (i := 0) rfl (.cons (i := 117) rfl (.cons (i := 118) rfl (.cons (i := 119) rfl (.cons (i := 140) rfl (.nil)))))) ?_
          refine W.cond (.pl rfl) (fun hC54 => ?_) (fun hC54 => ?_)
          · replace hF45 := cpos hC54 hF45
            -- region 25: search.go:46
            refine W.seqR fun Q55 hQ55 => ?_
            refine WL.q (Y.assign (.pl rfl)) rfl ?_
            refine WL.next hQ55 (.cons (i := 8) rfl (.nil)) ?_
            obtain rfl := Option.some.inj hF45
            obtain rfl := einr hN45
            obtain rfl := Option.some.inj hF
            refine W.retV (fn := Try.f76) (vs := [.bool false]) Try.results76 ⟨.tmp rfl, trivial⟩ (fun _ _ h => h) (fun wz hw => ?_)
            exact hR _ _ ⟨rfl, (hw.pick [] rfl)⟩
          · replace hF45 := cneg hC54 hF45
            refine W.skip ?_
            refine W.go hK50 (.cons (i := 0) rfl (.cons (i := 117) rfl (.cons (i := 118) rfl (.cons (i := 119) rfl (.nil))))) ?_
            -- region 26: search.go:44
            refine W.reg ?_
            obtain ⟨hk51, hF45⟩ := ckh hF45
            refine WL.q (Y.add (.pl rfl) (.pl rfl) (ok64_lt (hk51))) rfl ?_
            refine WL.q (Y.move (.pl rfl)) rfl ?_
            refine WL.nil ?_
            obtain rfl := Option.some.inj hF45
            exact W.again1 hK46 (v47 + 1) k45 hN45 (Nat.lt_succ_self _) (.cons rfl (.nil)) (.cons (i := 0) rfl (.cons (i := 117) rfl (.cons (i := 118) rfl (.nil)))) (fun wz hw => hw.pick [0] rfl)
        · replace hF45 := cneg hC49 hF45
          refine W.exit ?_
          obtain rfl := Option.some.inj hF45
          exact W.joinAt0 hK43  (einr hN45) (.nil) (.nil) (fun wz hw => hw.pick [] rfl)
      · -- behind
        rintro  rfl
        -- region 27: search.go:49
        refine W.seqR fun Q57 hQ57 => ?_
        refine WL.q (Y.assign (.pl rfl)) rfl ?_
        refine WL.next hQ57 (.cons (i := 8) rfl (.nil)) ?_
        obtain rfl := Option.some.inj hF
        refine W.retV (fn := Try.f76) (vs := [.bool true]) Try.results76 ⟨.tmp rfl, trivial⟩ (fun _ _ h => h) (fun wz hw => ?_)
        exact hR _ _ ⟨rfl, (hw.pick [] rfl)⟩

def search_Right (N : Nat) (types1 : (List Int)) (l6 : (List Event)) (w11 : (List Step)) : Option (Bool × Int) :=
  bd (search_Calls N types1 l6) fun (r16 : ((List Call) × Int)) =>
  cond (!(decide (r16.2 = 0)))
    (some (false, r16.2))
    (bd (history_Ahead N r16.1) fun (r19 : (Int × (List Int) × Int)) =>
    bd (search_Valid N types1 r16.1 (Rel.mk r19.1 r19.2.1) w11) fun (r21 : Bool) =>
    some (r21, 0))

theorem search_Right_ok {N : Nat} {types1 : (List Int)} {l6 : (List Event)} {w11 : (List Step)} {res : (Bool × Int)} (hF : search_Right N types1 l6 w11 = some res) (w : World) {v5 : Value} (hs4 : SlIn (eI .i64) 1 w v5 types1) {v10 : Value} (hs9 : SlIn encEvent 4 w v10 l6) {v15 : Value} (hs14 : SlIn encStep 2 w v15 w11) :
    Pure Try.prog 44 [v5, v10, v15] w (.tuple #[.bool res.1, .int .i64 res.2]) := by
  obtain ⟨A2, c3, rfl, hcc3, hs4⟩ := hs4.form
  obtain ⟨A7, c8, rfl, hcc8, hs9⟩ := hs9.form
  obtain ⟨A12, c13, rfl, hcc13, hs14⟩ := hs14.form
  refine W.enter (n := 31) Try.func44 rfl rfl Sub.refl (by simp) (St.start w) fun R hR => ?_
  unfold search_Right at hF
  -- region 0: search.go:139
  refine W.seqR fun Q1 hQ1 => ?_
  refine WL.q (Y.assign (.pl rfl)) rfl ?_
  refine WL.q (Y.assign (.pl rfl)) rfl ?_
  refine WL.next hQ1 (.cons (i := 0) rfl (.cons (i := 1) rfl (.cons (i := 2) rfl (.nil)))) ?_
  -- region 1: search.go:140
  refine W.seqR fun Q2 hQ2 => ?_
  refine WL.q (Y.move (.pl rfl)) rfl ?_
  refine WL.q (Y.move (.pl rfl)) rfl ?_
  obtain ⟨r16, hr16, hF⟩ := bnd hF
  refine WL.step (WO.callM isGo59 (.cons (.pl rfl) (.cons (.pl rfl) (.nil))) rfl (fun wz hw => search_Calls_ok (hr16) wz (hs4.mono hw) (hs9.mono hw)) ?_)
  rintro ⟨A17, c18⟩ -
  refine WL.q (Y.move (.pl rfl)) rfl ?_
  refine WL.q (Y.extract (.pl rfl) rfl) rfl ?_
  refine WL.q (Y.extract (.pl rfl) rfl) rfl ?_
  refine WL.q (Y.assign (.pl rfl)) rfl ?_
  refine WL.q (Y.assign (.pl rfl)) rfl ?_
  refine WL.next hQ2 (.cons (i := 0) rfl (.cons (i := 2) rfl (.cons (i := 8) rfl (.cons (i := 9) rfl (.nil))))) ?_
  refine W.seq fun K3 hK3 => ?_
  -- region 2: search.go:141
  refine W.seqR fun Q4 hQ4 => ?_
  refine WL.q (Y.move (.pl rfl)) rfl ?_
  refine WL.q (Y.neq (.pl rfl) (.pl rfl)) rfl ?_
  refine WL.next hQ4 (.cons (i := 0) rfl (.cons (i := 2) rfl (.cons (i := 8) rfl (.cons (i := 9) rfl (.cons (i := 19) rfl (.nil)))))) ?_
  refine W.cond (.pl rfl) (fun hC5 => ?_) (fun hC5 => ?_)
  · replace hF := cpos hC5 hF
    -- region 3: search.go:142
    refine W.seqR fun Q6 hQ6 => ?_
    refine WL.q (Y.move (.pl rfl)) rfl ?_
    refine WL.q (Y.assign (.pl rfl)) rfl ?_
    refine WL.q (Y.assign (.pl rfl)) rfl ?_
    refine WL.next hQ6 (.cons (i := 6) rfl (.cons (i := 7) rfl (.nil))) ?_
    obtain rfl := Option.some.inj hF
    refine W.retV (fn := Try.f44) (vs := [.bool false, .int .i64 r16.2]) Try.results44 ⟨.tmp rfl, ⟨.tmp rfl, trivial⟩⟩ (fun _ _ h => h) (fun wz hw => ?_)
    exact hR _ _ ⟨rfl, (hw.pick [] rfl)⟩
  · replace hF := cneg hC5 hF
    refine W.skip ?_
    refine W.go hK3 (.cons (i := 0) rfl (.cons (i := 2) rfl (.cons (i := 8) rfl (.nil)))) ?_
    -- region 4: search.go:144
    refine W.seqR fun Q7 hQ7 => ?_
    refine WL.q (Y.move (.pl rfl)) rfl ?_
    obtain ⟨r19, hr19, hF⟩ := bnd hF
    refine WL.step (WO.callP isGo60 (.cons (.pl rfl) (.nil)) rfl (fun wz hw => history_Ahead_ok (hr19) wz (SlIn.ofRow lenCall hw (i := 0) rfl)) ?_)
    refine WL.q (Y.move (.pl rfl)) rfl ?_
    refine WL.q (Y.extract (.pl rfl) rfl) rfl ?_
    refine WL.q (Y.extract (.pl rfl) rfl) rfl ?_
    refine WL.step (WO.alloc (cs := (encRel (Rel.mk 0 [])).toArray) zero115 rfl rfl fun b20 => ?_)
    refine WL.step (WO.storeBA (ds := (encRel (Rel.mk r19.1 r19.2.1))) (cs' := (encRel (Rel.mk r19.1 r19.2.1))) cells115 (.pl rfl) (.pl rfl) rfl (oneRel _) (i := 0) rfl (lel (o := 0) (l := 13) (m := 13) (by decide) rfl rfl) (putW rfl) ?_)
    refine WL.q (Y.assign (.pl rfl)) rfl ?_
    refine WL.next hQ7 (.cons (i := 0) rfl (.cons (i := 2) rfl (.cons (i := 8) rfl (.cons (i := 10) rfl (.nil))))) ?_
    -- region 5: search.go:145
    refine W.seqR fun Q8 hQ8 => ?_
    refine WL.q (Y.move (.pl rfl)) rfl ?_
    refine WL.q (Y.move (.pl rfl)) rfl ?_
    refine WL.q (Y.loadBA (ds := (encRel (Rel.mk r19.1 r19.2.1))) Try.underlying115 rfl cells115 (.pl rfl) (i := 0) rfl rfl subW) rfl ?_
    refine WL.q (Y.move (.pl rfl)) rfl ?_
    obtain ⟨r21, hr21, hF⟩ := bnd hF
    refine WL.step (WO.callP isGo76 (.cons (.pl rfl) (.cons (.pl rfl) (.cons (.pl rfl) (.cons (.pl rfl) (.nil))))) rfl (fun wz hw => search_Valid_ok (hr21) wz (hs4.mono hw) (SlIn.ofRow lenCall hw (i := 1) rfl) (hs14.mono hw)) ?_)
    refine WL.q (Y.assign (.pl rfl)) rfl ?_
    refine WL.q (Y.assign (.pl rfl)) rfl ?_
    refine WL.next hQ8 (.cons (i := 6) rfl (.cons (i := 7) rfl (.nil))) ?_
    obtain rfl := Option.some.inj hF
    refine W.retV (fn := Try.f44) (vs := [.bool r21, .int .i64 0]) Try.results44 ⟨.tmp rfl, ⟨.tmp rfl, trivial⟩⟩ (fun _ _ h => h) (fun wz hw => ?_)
    exact hR _ _ ⟨rfl, (hw.pick [] rfl)⟩

def alibkeep_ThreadsRight (N : Nat) (types1 : (List Int)) (people6 : (List (List Ask))) (turns11 : (List Int)) : Option Bool :=
  bd (threads_Play_1 N types1 people6 turns11) fun (r16 : ((List Event) × (List Step) × Int)) =>
  bd (alibkeep_threadsLives N) fun (r21 : Bool) =>
  cond ((!r21) || (!(decide (r16.2.2 = 0))))
    (bd (alibkeep_threadsLives N) fun (r22 : Bool) =>
    some (r22 && (decide (((r16.1).length : Int) = 0))))
    (bd (search_Right N types1 r16.1 r16.2.1) fun (r23 : (Bool × Int)) =>
    bd (history_Calls N types1 r16.1) fun (r24 : ((List Call) × Int × Int)) =>
    some ((decide (r24.2.2 = 0)) && ((!(decide (r23.2 = 0))) || r23.1)))

theorem alibkeep_ThreadsRight_ok {N : Nat} {types1 : (List Int)} {people6 : (List (List Ask))} {turns11 : (List Int)} {A7 : Option Addr} {c8 : Nat} {hd9 : List Hd} {res : Bool} (hF : alibkeep_ThreadsRight N types1 people6 turns11 = some res) (w : World) {v5 : Value} (hs4 : SlIn (eI .i64) 1 w v5 types1) (hs10 : SlNN encAsk 3 w A7 c8 hd9 people6) {v15 : Value} (hs14 : SlIn (eI .i64) 1 w v15 turns11) :
    Pure Try.prog 15 [v5, .slice A7 (people6).length c8, v15] w (.bool res) := by
  obtain ⟨A2, c3, rfl, hcc3, hs4⟩ := hs4.form
  obtain ⟨A12, c13, rfl, hcc13, hs14⟩ := hs14.form
  refine W.enter (n := 58) Try.func15 rfl rfl Sub.refl (by simp) (St.start w) fun R hR => ?_
  unfold alibkeep_ThreadsRight at hF
  -- region 0: threads.go:19
  refine W.seqR fun Q1 hQ1 => ?_
  refine WL.q (Y.assign (.pl rfl)) rfl ?_
  refine WL.next hQ1 (.cons (i := 0) rfl (.cons (i := 1) rfl (.cons (i := 2) rfl (.nil)))) ?_
  -- region 1: threads.go:20
  refine W.seqR fun Q2 hQ2 => ?_
  refine WL.q (Y.move (.pl rfl)) rfl ?_
  refine WL.q (Y.move (.pl rfl)) rfl ?_
  refine WL.q (Y.move (.pl rfl)) rfl ?_
  obtain ⟨r16, hr16, hF⟩ := bnd hF
  refine WL.step (WO.callM isGo41 (.cons (.pl rfl) (.cons (.pl rfl) (.cons (.pl rfl) (.nil)))) rfl (fun wz hw => threads_Play_1_ok (hr16) wz (hs4.mono hw) (hs10.mono hw) (hs14.mono hw)) ?_)
  rintro ⟨A17, c18, A19, c20⟩ -
  refine WL.q (Y.move (.pl rfl)) rfl ?_
  refine WL.q (Y.extract (.pl rfl) rfl) rfl ?_
  refine WL.q (Y.extract (.pl rfl) rfl) rfl ?_
  refine WL.q (Y.extract (.pl rfl) rfl) rfl ?_
  refine WL.q (Y.assign (.pl rfl)) rfl ?_
  refine WL.q (Y.assign (.pl rfl)) rfl ?_
  refine WL.q (Y.assign (.pl rfl)) rfl ?_
  refine WL.next hQ2 (.cons (i := 0) rfl (.cons (i := 7) rfl (.cons (i := 8) rfl (.cons (i := 9) rfl (.nil))))) ?_
  refine W.seq fun K3 hK3 => ?_
  -- region 2: threads.go:21
  refine W.seqR fun Q4 hQ4 => ?_
  obtain ⟨r21, hr21, hF⟩ := bnd hF
  refine WL.step (WO.callP isGo42 (.nil) rfl (fun wz hw => alibkeep_threadsLives_ok (hr21) wz ) ?_)
  refine WL.q (Y.not (.pl rfl)) rfl ?_
  refine WL.q (Y.move (.pl rfl)) rfl ?_
  refine WL.g (.pl rfl rfl rfl) (fun hg => Y.move (.pl rfl)) rfl ?_
  refine WL.g (.pl rfl rfl rfl) (fun hg => Y.neq (.gd (hg) rfl) (.pl rfl)) rfl ?_
  refine WL.q (Y.or (.pl rfl) (fun h2 => .gd (eqf h2) rfl)) rfl ?_
  refine WL.next hQ4 (.cons (i := 0) rfl (.cons (i := 7) rfl (.cons (i := 8) rfl (.cons (i := 28) rfl (.nil))))) ?_
  refine W.cond (.pl rfl) (fun hC5 => ?_) (fun hC5 => ?_)
  · replace hF := cpos hC5 hF
    -- region 3: threads.go:22
    refine W.seqR fun Q6 hQ6 => ?_
    obtain ⟨r22, hr22, hF⟩ := bnd hF
    refine WL.step (WO.callP isGo42 (.nil) rfl (fun wz hw => alibkeep_threadsLives_ok (hr22) wz ) ?_)
    refine WL.q (Y.move (.pl rfl)) rfl ?_
    refine WL.g (.pl rfl rfl rfl) (fun hg => Y.move (.pl rfl)) rfl ?_
    refine WL.g (.pl rfl rfl rfl) (fun hg => Y.len Try.underlying26 (.gd (hg) rfl)) rfl ?_
    refine WL.g (.pl rfl rfl rfl) (fun hg => Y.eql (.gd (hg) rfl) (.pl rfl)) rfl ?_
    refine WL.q (Y.and (.pl rfl) (fun h2 => .gd (eqt h2) rfl)) rfl ?_
    refine WL.q (Y.assign (.pl rfl)) rfl ?_
    refine WL.next hQ6 (.cons (i := 6) rfl (.nil)) ?_
    obtain rfl := Option.some.inj hF
    refine W.retV (fn := Try.f15) (vs := [.bool (r22 && (decide (((r16.1).length : Int) = 0)))]) Try.results15 ⟨.tmp rfl, trivial⟩ (fun _ _ h => h) (fun wz hw => ?_)
    exact hR _ _ ⟨rfl, (hw.pick [] rfl)⟩
  · replace hF := cneg hC5 hF
    refine W.skip ?_
    refine W.go hK3 (.cons (i := 0) rfl (.cons (i := 7) rfl (.cons (i := 8) rfl (.nil)))) ?_
    -- region 4: threads.go:24
    refine W.seqR fun Q7 hQ7 => ?_
    refine WL.q (Y.move (.pl rfl)) rfl ?_
    refine WL.q (Y.move (.pl rfl)) rfl ?_
    refine WL.q (Y.move (.pl rfl)) rfl ?_
    obtain ⟨r23, hr23, hF⟩ := bnd hF
    refine WL.step (WO.callP isGo44 (.cons (.pl rfl) (.cons (.pl rfl) (.cons (.pl rfl) (.nil)))) rfl (fun wz hw => search_Right_ok (hr23) wz (hs4.mono hw) (SlIn.ofRow lenEvent hw (i := 0) rfl) (SlIn.ofRow lenStep hw (i := 1) rfl)) ?_)
    refine WL.q (Y.move (.pl rfl)) rfl ?_
    refine WL.q (Y.extract (.pl rfl) rfl) rfl ?_
    refine WL.q (Y.extract (.pl rfl) rfl) rfl ?_
    refine WL.q (Y.assign (.pl rfl)) rfl ?_
    refine WL.q (Y.assign (.pl rfl)) rfl ?_
    refine WL.next hQ7 (.cons (i := 0) rfl (.cons (i := 7) rfl (.cons (i := 10) rfl (.cons (i := 11) rfl (.nil))))) ?_
    -- region 5: threads.go:25
    refine W.seqR fun Q8 hQ8 => ?_
    refine WL.q (Y.move (.pl rfl)) rfl ?_
    refine WL.q (Y.move (.pl rfl)) rfl ?_
    obtain ⟨r24, hr24, hF⟩ := bnd hF
    refine WL.step (WO.callM isGo27 (.cons (.pl rfl) (.cons (.pl rfl) (.nil))) rfl (fun wz hw => history_Calls_ok (hr24) wz (hs4.mono hw) (SlIn.ofRow lenEvent hw (i := 0) rfl)) ?_)
    rintro ⟨A25, c26⟩ -
    refine WL.q (Y.move (.pl rfl)) rfl ?_
    refine WL.q (Y.extract (.pl rfl) rfl) rfl ?_
    refine WL.q (Y.extract (.pl rfl) rfl) rfl ?_
    refine WL.q (Y.extract (.pl rfl) rfl) rfl ?_
    refine WL.q (Y.assign (.pl rfl)) rfl ?_
    refine WL.q (Y.assign (.pl rfl)) rfl ?_
    refine WL.q (Y.assign (.pl rfl)) rfl ?_
    refine WL.next hQ8 (.cons (i := 10) rfl (.cons (i := 11) rfl (.cons (i := 14) rfl (.nil)))) ?_
    -- region 6: threads.go:26
    refine W.seqR fun Q9 hQ9 => ?_
    refine WL.q (Y.move (.pl rfl)) rfl ?_
    refine WL.q (Y.eql (.pl rfl) (.pl rfl)) rfl ?_
    refine WL.q (Y.move (.pl rfl)) rfl ?_
    refine WL.g (.pl rfl rfl rfl) (fun hg => Y.move (.pl rfl)) rfl ?_
    refine WL.g (.pl rfl rfl rfl) (fun hg => Y.neq (.gd (hg) rfl) (.pl rfl)) rfl ?_
    refine WL.g (.pl rfl rfl rfl) (fun hg => Y.move (.gd (hg) rfl)) rfl ?_
    refine WL.g (.gd rfl rfl rfl) (fun hg => Y.move (.pl rfl)) rfl ?_
    refine WL.g (.pl rfl rfl rfl) (fun hg => Y.or (.gd (hg) rfl) (fun h2 => .gd (band hg (eqf h2)) rfl)) rfl ?_
    refine WL.q (Y.and (.pl rfl) (fun h2 => .gd (eqt h2) rfl)) rfl ?_
    refine WL.q (Y.assign (.pl rfl)) rfl ?_
    refine WL.next hQ9 (.cons (i := 6) rfl (.nil)) ?_
    obtain rfl := Option.some.inj hF
    refine W.retV (fn := Try.f15) (vs := [.bool ((decide (r24.2.2 = 0)) && ((!(decide (r23.2 = 0))) || r23.1))]) Try.results15 ⟨.tmp rfl, trivial⟩ (fun _ _ h => h) (fun wz hw => ?_)
    exact hR _ _ ⟨rfl, (hw.pick [] rfl)⟩

end Go.Proofs.Yteklmleiiiodfaa
