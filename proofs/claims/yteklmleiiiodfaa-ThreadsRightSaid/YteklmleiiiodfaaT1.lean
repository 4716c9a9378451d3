/- Threads: what their code computes, and the walks. -/
import Derived.Test.YteklmleiiiodfaaA1
set_option linter.unusedVariables false
set_option linter.unusedSimpArgs false
set_option linter.unusedSectionVars false
set_option maxRecDepth 100000
namespace Go.Proofs.Yteklmleiiiodfaa
open Go.RowKit
structure Ask where
  thing : Int
  kind : Int
  arg : Int
deriving DecidableEq
def Ask.z : Ask := ⟨0, 0, 0⟩
def encAsk (x : Ask) : List Value := (Value.int .i64 x.thing :: (Value.int .i64 x.kind :: (Value.int .i64 x.arg :: [])))
theorem lenAsk (x : Ask) : (encAsk x).length = 3 := rfl
theorem eqAsk (x y : Ask) : eqCells [true, true, true] (encAsk x) (encAsk y) = some (decide (x = y)) := by
  cases x; cases y; simp [encAsk, eqCells, Ask.mk.injEq, Bool.beq_eq_decide_eq]
theorem oneAsk : ∀ x, ∀ v ∈ encAsk x, v.oneCell' = true := fun x => (one_cons rfl (one_cons rfl (one_cons rfl one_nil)))
structure ThreadsProcess where
  program : List Ask
  pending : Bool
  call : Int
  done : Bool
  failed : Bool
  res : Int
deriving DecidableEq
def ThreadsProcess.z : ThreadsProcess := ⟨[], false, 0, false, false, 0⟩
def encNThreadsProcess (h : Hd) (x : ThreadsProcess) : List Value := (Value.slice h.1 x.program.length h.2 :: (Value.bool x.pending :: (Value.int .i64 x.call :: (Value.bool x.done :: (Value.bool x.failed :: (Value.int .i64 x.res :: []))))))
def innNThreadsProcess (wq : World) (h : Hd) (x : ThreadsProcess) : List Chunk := [cF (SlIn encAsk 3 wq (.slice h.1 x.program.length h.2) x.program)]
theorem lenNThreadsProcess (h : Hd) (x : ThreadsProcess) : (encNThreadsProcess h x).length = 6 := rfl
theorem oneNThreadsProcess (h : Hd) (x : ThreadsProcess) : ∀ v ∈ encNThreadsProcess h x, v.oneCell' = true := (one_cons rfl (one_cons rfl (one_cons rfl (one_cons rfl (one_cons rfl (one_cons rfl one_nil))))))
theorem nilNThreadsProcess (wq : World) : ∀ c ∈ innNThreadsProcess wq ((none, 0) : Hd) ThreadsProcess.z, c.own = [] ∧ ∀ f, c.ok f := by
  intro c hc
  simp only [innNThreadsProcess, List.mem_cons, List.not_mem_nil, or_false] at hc
  subst hc
  exact ⟨rfl, fun f => SlIn.nil0⟩
structure Event where
  who : Int
  thing : Int
  kind : Int
  value : Int
deriving DecidableEq
def Event.z : Event := ⟨0, 0, 0, 0⟩
def encEvent (x : Event) : List Value := (Value.int .i64 x.who :: (Value.int .i64 x.thing :: (Value.int .i64 x.kind :: (Value.int .i64 x.value :: []))))
theorem lenEvent (x : Event) : (encEvent x).length = 4 := rfl
theorem eqEvent (x y : Event) : eqCells [true, true, true, true] (encEvent x) (encEvent y) = some (decide (x = y)) := by
  cases x; cases y; simp [encEvent, eqCells, Event.mk.injEq, Bool.beq_eq_decide_eq]
theorem oneEvent : ∀ x, ∀ v ∈ encEvent x, v.oneCell' = true := fun x => (one_cons rfl (one_cons rfl (one_cons rfl (one_cons rfl one_nil))))
structure Step where
  call : Int
  res : Int
deriving DecidableEq
def Step.z : Step := ⟨0, 0⟩
def encStep (x : Step) : List Value := (Value.int .i64 x.call :: (Value.int .i64 x.res :: []))
theorem lenStep (x : Step) : (encStep x).length = 2 := rfl
theorem eqStep (x y : Step) : eqCells [true, true] (encStep x) (encStep y) = some (decide (x = y)) := by
  cases x; cases y; simp [encStep, eqCells, Step.mk.injEq, Bool.beq_eq_decide_eq]
theorem oneStep : ∀ x, ∀ v ∈ encStep x, v.oneCell' = true := fun x => (one_cons rfl (one_cons rfl one_nil))
theorem cells4 : Try.prog.cellsOf 4 = 0 + 1 := by kernel_rfl
theorem cells26 : Try.prog.cellsOf 26 = 0 + 1 := by kernel_rfl
theorem cells34 : Try.prog.cellsOf 34 = 3 + 1 := by kernel_rfl
theorem cells41 : Try.prog.cellsOf 41 = 0 + 1 := by kernel_rfl
theorem cells47 : Try.prog.cellsOf 47 = 0 + 1 := by kernel_rfl
theorem cells53 : Try.prog.cellsOf 53 = 0 + 1 := by kernel_rfl
theorem cells58 : Try.prog.cellsOf 58 = 2 + 1 := by kernel_rfl
theorem cells77 : Try.prog.cellsOf 77 = 1 + 1 := by kernel_rfl
theorem cells142 : Try.prog.cellsOf 142 = 0 + 1 := by kernel_rfl
theorem cells143 : Try.prog.cellsOf 143 = 0 + 1 := by kernel_rfl
theorem cells149 : Try.prog.cellsOf 149 = 5 + 1 := by kernel_rfl
theorem isGo41 : IsGo Try.prog 41 := ⟨_, Try.func41, by kernel_rfl, rfl⟩
theorem isGo43 : IsGo Try.prog 43 := ⟨_, Try.func43, by kernel_rfl, rfl⟩
theorem isGo56 : IsGo Try.prog 56 := ⟨_, Try.func56, by kernel_rfl, rfl⟩
theorem isGo63 : IsGo Try.prog 63 := ⟨_, Try.func63, by kernel_rfl, rfl⟩
theorem isGo64 : IsGo Try.prog 64 := ⟨_, Try.func64, by kernel_rfl, rfl⟩
theorem isGo75 : IsGo Try.prog 75 := ⟨_, Try.func75, by kernel_rfl, rfl⟩
theorem isGo89 : IsGo Try.prog 89 := ⟨_, Try.func89, by kernel_rfl, rfl⟩
theorem zero58 : ∃ i, Try.prog.info? 58 = some i ∧ i.zero = some (Value.agg #[(Value.int .i64 0), (Value.int .i64 0), (Value.int .i64 0)]) := ⟨_, rfl, by kernel_rfl⟩
theorem bz34 : ∃ i, Try.prog.info? 34 = some i ∧ i.zero = some (Value.agg #[(Value.int .i64 0), (Value.int .i64 0), (Value.int .i64 0), (Value.int .i64 0)]) ∧ i.size = 4 := ⟨_, rfl, by kernel_rfl, by kernel_rfl⟩
theorem bz41 : ∃ i, Try.prog.info? 41 = some i ∧ i.zero = some (Value.slice none 0 0) ∧ i.size = 1 := ⟨_, rfl, by kernel_rfl, by kernel_rfl⟩
theorem bz47 : ∃ i, Try.prog.info? 47 = some i ∧ i.zero = some (Value.slice none 0 0) ∧ i.size = 1 := ⟨_, rfl, by kernel_rfl, by kernel_rfl⟩
theorem bz58 : ∃ i, Try.prog.info? 58 = some i ∧ i.zero = some (Value.agg #[(Value.int .i64 0), (Value.int .i64 0), (Value.int .i64 0)]) ∧ i.size = 3 := ⟨_, rfl, by kernel_rfl, by kernel_rfl⟩
theorem bz77 : ∃ i, Try.prog.info? 77 = some i ∧ i.zero = some (Value.agg #[(Value.int .i64 0), (Value.int .i64 0)]) ∧ i.size = 2 := ⟨_, rfl, by kernel_rfl, by kernel_rfl⟩
theorem bz149 : ∃ i, Try.prog.info? 149 = some i ∧ i.zero = some (Value.agg #[(Value.slice none 0 0), (Value.bool false), (Value.int .i64 0), (Value.bool false), (Value.bool false), (Value.int .i64 0)]) ∧ i.size = 6 := ⟨_, rfl, by kernel_rfl, by kernel_rfl⟩
theorem eqs34 : EqShape Try.prog 34 [true, true, true, true] := ⟨_, Try.underlying34, by kernel_rfl, by kernel_rfl, by kernel_rfl⟩
theorem eqs77 : EqShape Try.prog 77 [true, true] := ⟨_, Try.underlying77, by kernel_rfl, by kernel_rfl, by kernel_rfl⟩
theorem ap34 : ∃ i z, Try.prog.info? 34 = some i ∧ i.zero = some z ∧ i.size = 4 ∧ i.bytes = 32 ∧ z.cells.size = 4 ∧ 0 < 4 := ⟨_, (Value.agg #[(Value.int .i64 0), (Value.int .i64 0), (Value.int .i64 0), (Value.int .i64 0)]), rfl, by kernel_rfl, by kernel_rfl, by kernel_rfl, by kernel_rfl, by decide⟩
theorem ap47 : ∃ i z, Try.prog.info? 47 = some i ∧ i.zero = some z ∧ i.size = 1 ∧ i.bytes = 24 ∧ z.cells.size = 1 ∧ 0 < 1 := ⟨_, (Value.slice none 0 0), rfl, by kernel_rfl, by kernel_rfl, by kernel_rfl, by kernel_rfl, by decide⟩
theorem ap77 : ∃ i z, Try.prog.info? 77 = some i ∧ i.zero = some z ∧ i.size = 2 ∧ i.bytes = 16 ∧ z.cells.size = 2 ∧ 0 < 2 := ⟨_, (Value.agg #[(Value.int .i64 0), (Value.int .i64 0)]), rfl, by kernel_rfl, by kernel_rfl, by kernel_rfl, by kernel_rfl, by decide⟩
theorem ap149 : ∃ i z, Try.prog.info? 149 = some i ∧ i.zero = some z ∧ i.size = 6 ∧ i.bytes = 56 ∧ z.cells.size = 6 ∧ 0 < 6 := ⟨_, (Value.agg #[(Value.slice none 0 0), (Value.bool false), (Value.int .i64 0), (Value.bool false), (Value.bool false), (Value.int .i64 0)]), rfl, by kernel_rfl, by kernel_rfl, by kernel_rfl, by kernel_rfl, by decide⟩
theorem shape34 : Shape Try.prog 34 [(0, 1), (1, 1), (2, 1), (3, 1)] #[(Value.int .i64 0), (Value.int .i64 0), (Value.int .i64 0), (Value.int .i64 0)] := ⟨_, _, Value.agg #[(Value.int .i64 0), (Value.int .i64 0), (Value.int .i64 0), (Value.int .i64 0)], Try.underlying34, rfl, by kernel_rfl, rfl, by kernel_rfl, by decide⟩
theorem shape58 : Shape Try.prog 58 [(0, 1), (1, 1), (2, 1)] #[(Value.int .i64 0), (Value.int .i64 0), (Value.int .i64 0)] := ⟨_, _, Value.agg #[(Value.int .i64 0), (Value.int .i64 0), (Value.int .i64 0)], Try.underlying58, rfl, by kernel_rfl, rfl, by kernel_rfl, by decide⟩
theorem shape77 : Shape Try.prog 77 [(0, 1), (1, 1)] #[(Value.int .i64 0), (Value.int .i64 0)] := ⟨_, _, Value.agg #[(Value.int .i64 0), (Value.int .i64 0)], Try.underlying77, rfl, by kernel_rfl, rfl, by kernel_rfl, by decide⟩
theorem shape145 : Shape Try.prog 145 [(0, 1), (1, 1), (2, 1), (3, 1), (4, 1), (5, 1)] #[(Value.slice none 0 0), (Value.slice none 0 0), (Value.slice none 0 0), (Value.slice none 0 0), (Value.slice none 0 0), (Value.int .i64 0)] := ⟨_, _, Value.agg #[(Value.slice none 0 0), (Value.slice none 0 0), (Value.slice none 0 0), (Value.slice none 0 0), (Value.slice none 0 0), (Value.int .i64 0)], Try.underlying145, rfl, by kernel_rfl, rfl, by kernel_rfl, by decide⟩
theorem shape149 : Shape Try.prog 149 [(0, 1), (1, 1), (2, 1), (3, 1), (4, 1), (5, 1)] #[(Value.slice none 0 0), (Value.bool false), (Value.int .i64 0), (Value.bool false), (Value.bool false), (Value.int .i64 0)] := ⟨_, _, Value.agg #[(Value.slice none 0 0), (Value.bool false), (Value.int .i64 0), (Value.bool false), (Value.bool false), (Value.int .i64 0)], Try.underlying149, rfl, by kernel_rfl, rfl, by kernel_rfl, by decide⟩
def history_Types_1 (N : Nat) (t1 : Int) : Option Unit :=
  some ()

theorem history_Types_1_ok {N : Nat} {t1 : Int} {res : Unit} (hF : history_Types_1 N t1 = some res) (w : World) :
    Pure Try.prog 89 [.int .i64 t1] w (.bool ((decide (t1 < 1)) || (decide (5 < t1)))) := by
  refine W.enter (n := 9) Try.func89 rfl rfl Sub.refl (by simp) (St.start w) fun R hR => ?_
  unfold history_Types_1 at hF
  -- region 0: history.go:54
  refine W.seqR fun Q1 hQ1 => ?_
  refine WL.q (Y.assign (.pl rfl)) rfl ?_
  refine WL.next hQ1 (.cons (i := 0) rfl (.nil)) ?_
  -- region 1: history.go:54
  refine W.seqR fun Q2 hQ2 => ?_
  refine WL.q (Y.move (.pl rfl)) rfl ?_
  refine WL.q (Y.lss (.pl rfl) (.pl rfl)) rfl ?_
  refine WL.q (Y.move (.pl rfl)) rfl ?_
  refine WL.g (.pl rfl rfl rfl) (fun hg => Y.move (.pl rfl)) rfl ?_
  refine WL.g (.pl rfl rfl rfl) (fun hg => Y.gtr (.gd (hg) rfl) (.pl rfl)) rfl ?_
  refine WL.q (Y.or (.pl rfl) (fun h2 => .gd (eqf h2) rfl)) rfl ?_
  refine WL.q (Y.assign (.pl rfl)) rfl ?_
  refine WL.next hQ2 (.cons (i := 2) rfl (.nil)) ?_
  obtain rfl := Option.some.inj hF
  refine W.retV (fn := Try.f89) (vs := [.bool ((decide (t1 < 1)) || (decide (5 < t1)))]) Try.results89 ⟨.tmp rfl, trivial⟩ (fun _ _ h => h) (fun wz hw => ?_)
  exact hR _ _ ⟨rfl, (hw.pick [] rfl)⟩

def slices_IndexFunc_int_int_1_L3 (N : Nat) (s1 : (List Int)) : Int → Option (Int ⊕ (Unit ⊕ Int))
  | v6 =>
    cond (decide (v6 < ((s1).length : Int)))
      (bd (ix s1 v6) fun (x7 : Int) =>
      bd (history_Types_1 N x7) fun (r8 : Unit) =>
      cond ((decide (x7 < 1)) || (decide (5 < x7)))
        (some (.inr (.inr v6)))
        (ck (ok64 (v6 + 1)) <|
        some (.inl (v6 + 1))))
      (some (.inr (.inl ())))

def slices_IndexFunc_int_int_1 (N : Nat) (s1 : (List Int)) : Option Int :=
  bd (α := (Unit ⊕ Int)) (iter (slices_IndexFunc_int_int_1_L3 N s1) N 0) <|
  Sum.elim (fun _ => 
    some (-1)) (fun p => some p)

theorem slices_IndexFunc_int_int_1_ok {N : Nat} {s1 : (List Int)} {res : Int} (hF : slices_IndexFunc_int_int_1 N s1 = some res) (w : World) {v5 : Value} (hs4 : SlIn (eI .i64) 1 w v5 s1) :
    Pure Try.prog 123 [v5, .func (.func 89) #[] #[]] w (.int .i64 res) := by
  obtain ⟨A2, c3, rfl, hcc3, hs4⟩ := hs4.form
  refine W.enter (n := 19) Try.func123 rfl rfl Sub.refl (by simp) (St.start w) fun R hR => ?_
  unfold slices_IndexFunc_int_int_1 at hF
  -- region 0: slices.go:107
  refine W.seqR fun Q1 hQ1 => ?_
  refine WL.q (Y.assign (.pl rfl)) rfl ?_
  refine WL.next hQ1 (.cons (i := 0) rfl (.cons (i := 1) rfl (.nil))) ?_
  obtain ⟨o2, hF2, hF⟩ := bnd hF
  refine W.join0 (Em := []) (M := []) (I := (.inl ()) = o2) (.nil) (fun K3 hK3 => ?_) ?_
  · -- up to
    -- region 1: slices.go:108
    refine W.seqR fun Q4 hQ4 => ?_
    refine WL.q (Y.move (.pl rfl)) rfl ?_
    refine WL.q (Y.len Try.underlying47 (.pl rfl)) rfl ?_
    refine WL.q (Y.move (.pl rfl)) rfl ?_
    refine WL.next hQ4 (.cons (i := 0) rfl (.cons (i := 1) rfl (.cons (i := 7) rfl (.cons (i := 8) rfl (.nil))))) ?_
    refine W.block ?_
    refine W.loop1 (Em := fun (v6 : Int) => [(8, .int .i64 v6)]) (M := fun v6 => []) (I := fun v6 k5 => iter (slices_IndexFunc_int_int_1_L3 N s1) k5 v6 = some o2) 0 N (hF2) (.cons rfl (.nil)) (.cons (i := 0) rfl (.cons (i := 1) rfl (.cons (i := 7) rfl (.nil)))) (fun wz hw => hw.pick [] rfl) (fun v6 k5 hI K6 hK6 => ?_)
    obtain ⟨k5, t5, rfl, hF5, hN5⟩ := iter_step hI
    -- region 2: slices.go:108
    refine W.seqR fun Q7 hQ7 => ?_
    refine WL.q (Y.lss (.pl rfl) (.pl rfl)) rfl ?_
    refine WL.next hQ7 (.cons (i := 0) rfl (.cons (i := 1) rfl (.cons (i := 7) rfl (.cons (i := 8) rfl (.cons (i := 9) rfl (.nil)))))) ?_
    refine W.seq fun K8 hK8 => ?_
    refine W.cond (.pl rfl) (fun hC9 => ?_) (fun hC9 => ?_)
    · replace hF5 := cpos hC9 hF5
      refine W.skip ?_
      refine W.go hK8 (.cons (i := 0) rfl (.cons (i := 1) rfl (.cons (i := 7) rfl (.cons (i := 8) rfl (.nil))))) ?_
      refine W.seq fun K10 hK10 => ?_
      refine W.block ?_
      -- region 3: slices.go:108
      refine W.seqR fun Q11 hQ11 => ?_
      refine WL.q (Y.move (.pl rfl)) rfl ?_
      refine WL.q (Y.assign (.pl rfl)) rfl ?_
      refine WL.next hQ11 (.cons (i := 0) rfl (.cons (i := 1) rfl (.cons (i := 5) rfl (.cons (i := 7) rfl (.cons (i := 8) rfl (.nil)))))) ?_
      -- region 4: slices.go:109
      refine W.seqR fun Q12 hQ12 => ?_
      refine WL.q (Y.move (.pl rfl)) rfl ?_
      refine WL.q (Y.move (.pl rfl)) rfl ?_
      refine WL.q (Y.move (.pl rfl)) rfl ?_
      obtain ⟨x7, hx7, hF5⟩ := bnd hF5
      refine WL.q (Y.slEl Try.underlying47 cells3 hs4 (.pl rfl) (.pl rfl) (ix_lt (hx7))) rfl ?_
      refine WL.q (Y.loadS (enc := (eI .i64)) (v := .int .i64 x7) (j := 0) Try.underlying3 rfl hs4 (.pl rfl) (hx7) rfl rfl) rfl ?_
      obtain ⟨r8, hr8, hF5⟩ := bnd hF5
      refine WL.step (WO.callG (γ := Unit) (first := []) (cap := []) (fun g => .bool ((decide (x7 < 1)) || (decide (5 < x7)))) (fun g => []) (fun g => True) isGo89 (.pl rfl) (.cons (.pl rfl) (.nil)) rfl (fun wz hw => (history_Types_1_ok (hr8) wz ).calls hw) ?_)
      rintro _ -
      refine WL.next hQ12 (.cons (i := 0) rfl (.cons (i := 1) rfl (.cons (i := 5) rfl (.cons (i := 7) rfl (.cons (i := 8) rfl (.cons (i := 16) rfl (.nil))))))) ?_
      refine W.cond (.pl rfl) (fun hC13 => ?_) (fun hC13 => ?_)
      · replace hF5 := cpos hC13 hF5
        -- region 5: slices.go:110
        refine W.seqR fun Q14 hQ14 => ?_
        refine WL.q (Y.move (.pl rfl)) rfl ?_
        refine WL.q (Y.assign (.pl rfl)) rfl ?_
        refine WL.next hQ14 (.cons (i := 4) rfl (.nil)) ?_
        obtain rfl := Option.some.inj hF5
        obtain rfl := einr hN5
        obtain rfl := Option.some.inj hF
        refine W.retV (fn := Try.f123) (vs := [.int .i64 v6]) Try.results123 ⟨.tmp rfl, trivial⟩ (fun _ _ h => h) (fun wz hw => ?_)
        exact hR _ _ ⟨rfl, (hw.pick [] rfl)⟩
      · replace hF5 := cneg hC13 hF5
        refine W.skip ?_
        refine W.go hK10 (.cons (i := 0) rfl (.cons (i := 1) rfl (.cons (i := 7) rfl (.cons (i := 8) rfl (.nil))))) ?_
        -- region 6: slices.go:108
        refine W.reg ?_
        obtain ⟨hk9, hF5⟩ := ckh hF5
        refine WL.q (Y.add (.pl rfl) (.pl rfl) (ok64_lt (hk9))) rfl ?_
        refine WL.q (Y.move (.pl rfl)) rfl ?_
        refine WL.nil ?_
        obtain rfl := Option.some.inj hF5
        exact W.again1 hK6 (v6 + 1) k5 hN5 (Nat.lt_succ_self _) (.cons rfl (.nil)) (.cons (i := 0) rfl (.cons (i := 1) rfl (.cons (i := 7) rfl (.nil)))) (fun wz hw => hw.pick [] rfl)
    · replace hF5 := cneg hC9 hF5
      refine W.exit ?_
      obtain rfl := Option.some.inj hF5
      exact W.joinAt0 hK3  (einr hN5) (.nil) (.nil) (fun wz hw => hw.pick [] rfl)
  · -- behind
    rintro  rfl
    -- region 7: slices.go:113
    refine W.seqR fun Q16 hQ16 => ?_
    refine WL.q (Y.assign (.pl rfl)) rfl ?_
    refine WL.next hQ16 (.cons (i := 4) rfl (.nil)) ?_
    obtain rfl := Option.some.inj hF
    refine W.retV (fn := Try.f123) (vs := [.int .i64 (-1)]) Try.results123 ⟨.tmp rfl, trivial⟩ (fun _ _ h => h) (fun wz hw => ?_)
    exact hR _ _ ⟨rfl, (hw.pick [] rfl)⟩

def slices_ContainsFunc_int_int_1 (N : Nat) (s1 : (List Int)) : Option Bool :=
  bd (slices_IndexFunc_int_int_1 N s1) fun (r6 : Int) =>
  some (decide (0 ≤ r6))

theorem slices_ContainsFunc_int_int_1_ok {N : Nat} {s1 : (List Int)} {res : Bool} (hF : slices_ContainsFunc_int_int_1 N s1 = some res) (w : World) {v5 : Value} (hs4 : SlIn (eI .i64) 1 w v5 s1) :
    Pure Try.prog 90 [v5, .func (.func 89) #[] #[]] w (.bool res) := by
  obtain ⟨A2, c3, rfl, hcc3, hs4⟩ := hs4.form
  refine W.enter (n := 9) Try.func90 rfl rfl Sub.refl (by simp) (St.start w) fun R hR => ?_
  unfold slices_ContainsFunc_int_int_1 at hF
  -- region 0: slices.go:124
  refine W.seqR fun Q1 hQ1 => ?_
  refine WL.q (Y.assign (.pl rfl)) rfl ?_
  refine WL.next hQ1 (.cons (i := 0) rfl (.cons (i := 1) rfl (.nil))) ?_
  -- region 1: slices.go:125
  refine W.seqR fun Q2 hQ2 => ?_
  refine WL.q (Y.move (.pl rfl)) rfl ?_
  refine WL.q (Y.move (.pl rfl)) rfl ?_
  obtain ⟨r6, hr6, hF⟩ := bnd hF
  refine WL.step (WO.callP isGo123 (.cons (.pl rfl) (.cons (.pl rfl) (.nil))) rfl (fun wz hw => slices_IndexFunc_int_int_1_ok (hr6) wz (hs4.mono hw)) ?_)
  refine WL.q (Y.geq (.pl rfl) (.pl rfl)) rfl ?_
  refine WL.q (Y.assign (.pl rfl)) rfl ?_
  refine WL.next hQ2 (.cons (i := 4) rfl (.nil)) ?_
  obtain rfl := Option.some.inj hF
  refine W.retV (fn := Try.f90) (vs := [.bool (decide (0 ≤ r6))]) Try.results90 ⟨.tmp rfl, trivial⟩ (fun _ _ h => h) (fun wz hw => ?_)
  exact hR _ _ ⟨rfl, (hw.pick [] rfl)⟩

def history_Types (N : Nat) (types1 : (List Int)) : Option Int :=
  bd ((cond (((decide (((types1).length : Int) < 1)) || (decide (4 < ((types1).length : Int)))) == false) (slices_ContainsFunc_int_int_1 N types1) (some false))) fun (r6 : Bool) =>
  cond (((decide (((types1).length : Int) < 1)) || (decide (4 < ((types1).length : Int)))) || r6)
    (some 1)
    (some 0)

theorem history_Types_ok {N : Nat} {types1 : (List Int)} {res : Int} (hF : history_Types N types1 = some res) (w : World) {v5 : Value} (hs4 : SlIn (eI .i64) 1 w v5 types1) :
    Pure Try.prog 56 [v5] w (.int .i64 res) := by
  obtain ⟨A2, c3, rfl, hcc3, hs4⟩ := hs4.form
  refine W.enter (n := 17) Try.func56 rfl rfl Sub.refl (by simp) (St.start w) fun R hR => ?_
  unfold history_Types at hF
  -- region 0: history.go:53
  refine W.seqR fun Q1 hQ1 => ?_
  refine WL.q (Y.assign (.pl rfl)) rfl ?_
  refine WL.next hQ1 (.cons (i := 0) rfl (.nil)) ?_
  -- region 1: history.go:54
  refine W.seqR fun Q2 hQ2 => ?_
  refine WL.q (Y.assign (.pl rfl)) rfl ?_
  refine WL.next hQ2 (.cons (i := 0) rfl (.cons (i := 3) rfl (.nil))) ?_
  refine W.seq fun K3 hK3 => ?_
  -- region 2: history.go:55
  refine W.seqR fun Q4 hQ4 => ?_
  refine WL.q (Y.move (.pl rfl)) rfl ?_
  refine WL.q (Y.len Try.underlying47 (.pl rfl)) rfl ?_
  refine WL.q (Y.lss (.pl rfl) (.pl rfl)) rfl ?_
  refine WL.q (Y.move (.pl rfl)) rfl ?_
  refine WL.g (.pl rfl rfl rfl) (fun hg => Y.move (.pl rfl)) rfl ?_
  refine WL.g (.pl rfl rfl rfl) (fun hg => Y.len Try.underlying47 (.gd (hg) rfl)) rfl ?_
  refine WL.g (.pl rfl rfl rfl) (fun hg => Y.gtr (.gd (hg) rfl) (.pl rfl)) rfl ?_
  refine WL.q (Y.or (.pl rfl) (fun h2 => .gd (eqf h2) rfl)) rfl ?_
  refine WL.q (Y.move (.pl rfl)) rfl ?_
  refine WL.g (.pl rfl rfl rfl) (fun hg => Y.move (.pl rfl)) rfl ?_
  refine WL.g (.pl rfl rfl rfl) (fun hg => Y.move (.pl rfl)) rfl ?_
  obtain ⟨r6, hr6, hF⟩ := bnd hF
  refine WL.gP (.pl rfl rfl rfl) isGo90 (fun hg => (.cons (.gd (hg) rfl) (.cons (.gd (hg) rfl) (.nil)))) rfl (fun hg wz hw => slices_ContainsFunc_int_int_1_ok (gpos hg hr6) wz (hs4.mono hw)) ?_
  refine WL.q (Y.or (.pl rfl) (fun h2 => .gd (eqf h2) rfl)) rfl ?_
  refine WL.next hQ4 (.cons (i := 16) rfl (.nil)) ?_
  refine W.cond (.pl rfl) (fun hC5 => ?_) (fun hC5 => ?_)
  · replace hF := cpos hC5 hF
    -- region 3: history.go:56
    refine W.seqR fun Q6 hQ6 => ?_
    refine WL.q (Y.assign (.pl rfl)) rfl ?_
    refine WL.next hQ6 (.cons (i := 2) rfl (.nil)) ?_
    obtain rfl := Option.some.inj hF
    refine W.retV (fn := Try.f56) (vs := [.int .i64 1]) Try.results56 ⟨.tmp rfl, trivial⟩ (fun _ _ h => h) (fun wz hw => ?_)
    exact hR _ _ ⟨rfl, (hw.pick [] rfl)⟩
  · replace hF := cneg hC5 hF
    refine W.skip ?_
    refine W.go hK3 (.nil) ?_
    -- region 4: history.go:58
    refine W.seqR fun Q7 hQ7 => ?_
    refine WL.q (Y.assign (.pl rfl)) rfl ?_
    refine WL.next hQ7 (.cons (i := 2) rfl (.nil)) ?_
    obtain rfl := Option.some.inj hF
    refine W.retV (fn := Try.f56) (vs := [.int .i64 0]) Try.results56 ⟨.tmp rfl, trivial⟩ (fun _ _ h => h) (fun wz hw => ?_)
    exact hR _ _ ⟨rfl, (hw.pick [] rfl)⟩

def threads_Check_L17 (N : Nat) (people6 : (List (List Ask))) : (Int × Int) → Option ((Int × Int) ⊕ Int)
  | (n13, v14) =>
    cond (decide (v14 < ((people6).length : Int)))
      (bd (ix people6 v14) fun (x15 : (List Ask)) =>
      ck (ok64 (v14 + 1)) <|
      some (.inl ((IntKind.i64.wrap (n13 + ((x15).length : Int))), (v14 + 1))))
      (some (.inr n13))

def threads_Check_L31 (N : Nat) (x18 : (List Ask)) (types1 : (List Int)) : Int → Option (Int ⊕ (Unit ⊕ Int))
  | v19 =>
    cond (decide (v19 < ((x18).length : Int)))
      (bd (ix x18 v19) fun (x20 : Ask) =>
      bd ((cond (((decide (x20.thing < 0)) || (decide (((types1).length : Int) ≤ x20.thing))) == false) (ix types1 x20.thing) (some 0))) fun (x22 : Int) =>
      bd ((cond (((decide (x20.thing < 0)) || (decide (((types1).length : Int) ≤ x20.thing))) == false) (history_Fits N x22 x20.kind) (some false))) fun (r23 : Bool) =>
      bd ((cond ((((decide (x20.thing < 0)) || (decide (((types1).length : Int) ≤ x20.thing))) || (!r23)) == false) (history_Argument N x20.kind x20.arg) (some false))) fun (r24 : Bool) =>
      cond ((((decide (x20.thing < 0)) || (decide (((types1).length : Int) ≤ x20.thing))) || (!r23)) || (!r24))
        (some (.inr (.inr 3)))
        (ck (ok64 (v19 + 1)) <|
        some (.inl (v19 + 1))))
      (some (.inr (.inl ())))

def threads_Check_L29 (N : Nat) (people6 : (List (List Ask))) (types1 : (List Int)) : Int → Option (Int ⊕ (Unit ⊕ Int))
  | v17 =>
    cond (decide (v17 < ((people6).length : Int)))
      (bd (α := (Unit ⊕ Int)) (bd (ix people6 v17) fun (x18 : (List Ask)) =>
        iter (threads_Check_L31 N x18 types1) N 0) <|
      Sum.elim (fun _ => 
        ck (ok64 (v17 + 1)) <|
        some (.inl (v17 + 1))) (fun p => some (.inr (.inr p))))
      (some (.inr (.inl ())))

def threads_Check (N : Nat) (types1 : (List Int)) (people6 : (List (List Ask))) : Option Int :=
  bd (history_Types N types1) fun (r11 : Int) =>
  cond ((!(decide (r11 = 0))) || (decide (8 < ((people6).length : Int))))
    (some 1)
    (bd (α := Int) (iter (threads_Check_L17 N people6) N (0, 0)) <|
    fun (n12 : Int) => 
      cond (decide (90 < n12))
        (some 2)
        (bd (α := (Unit ⊕ Int)) (iter (threads_Check_L29 N people6 types1) N 0) <|
        Sum.elim (fun _ => 
          some 0) (fun p => some p)))

theorem threads_Check_ok {N : Nat} {types1 : (List Int)} {people6 : (List (List Ask))} {A7 : Option Addr} {c8 : Nat} {hd9 : List Hd} {res : Int} (hF : threads_Check N types1 people6 = some res) (w : World) {v5 : Value} (hs4 : SlIn (eI .i64) 1 w v5 types1) (hs10 : SlNN encAsk 3 w A7 c8 hd9 people6) :
    Pure Try.prog 63 [v5, .slice A7 (people6).length c8] w (.int .i64 res) := by
  obtain ⟨A2, c3, rfl, hcc3, hs4⟩ := hs4.form
  refine W.enter (n := 76) Try.func63 rfl rfl Sub.refl (by simp) (St.start w) fun R hR => ?_
  unfold threads_Check at hF
  -- region 0: threads.go:13
  refine W.seqR fun Q1 hQ1 => ?_
  refine WL.q (Y.assign (.pl rfl)) rfl ?_
  refine WL.next hQ1 (.cons (i := 0) rfl (.cons (i := 1) rfl (.nil))) ?_
  refine W.seq fun K2 hK2 => ?_
  -- region 1: threads.go:14
  refine W.seqR fun Q3 hQ3 => ?_
  refine WL.q (Y.move (.pl rfl)) rfl ?_
  obtain ⟨r11, hr11, hF⟩ := bnd hF
  refine WL.step (WO.callP isGo56 (.cons (.pl rfl) (.nil)) rfl (fun wz hw => history_Types_ok (hr11) wz (hs4.mono hw)) ?_)
  refine WL.q (Y.neq (.pl rfl) (.pl rfl)) rfl ?_
  refine WL.q (Y.move (.pl rfl)) rfl ?_
  refine WL.g (.pl rfl rfl rfl) (fun hg => Y.move (.pl rfl)) rfl ?_
  refine WL.g (.pl rfl rfl rfl) (fun hg => Y.len Try.underlying22 (.gd (hg) rfl)) rfl ?_
  refine WL.g (.pl rfl rfl rfl) (fun hg => Y.gtr (.gd (hg) rfl) (.pl rfl)) rfl ?_
  refine WL.q (Y.or (.pl rfl) (fun h2 => .gd (eqf h2) rfl)) rfl ?_
  refine WL.next hQ3 (.cons (i := 0) rfl (.cons (i := 1) rfl (.cons (i := 19) rfl (.nil)))) ?_
  refine W.cond (.pl rfl) (fun hC4 => ?_) (fun hC4 => ?_)
  · replace hF := cpos hC4 hF
    -- region 2: threads.go:15
    refine W.seqR fun Q5 hQ5 => ?_
    refine WL.q (Y.assign (.pl rfl)) rfl ?_
    refine WL.next hQ5 (.cons (i := 4) rfl (.nil)) ?_
    obtain rfl := Option.some.inj hF
    refine W.retV (fn := Try.f63) (vs := [.int .i64 1]) Try.results63 ⟨.tmp rfl, trivial⟩ (fun _ _ h => h) (fun wz hw => ?_)
    exact hR _ _ ⟨rfl, (hw.pick [] rfl)⟩
  · replace hF := cneg hC4 hF
    refine W.skip ?_
    refine W.go hK2 (.cons (i := 0) rfl (.cons (i := 1) rfl (.nil))) ?_
    -- region 3: threads.go:17
    refine W.seqR fun Q6 hQ6 => ?_
    refine WL.q (Y.assign (.pl rfl)) rfl ?_
    refine WL.next hQ6 (.cons (i := 0) rfl (.cons (i := 1) rfl (.cons (i := 5) rfl (.nil)))) ?_
    obtain ⟨o7, hF7, hF⟩ := bnd hF
    refine W.join1 (Em := fun (n12 : Int) => [(5, .int .i64 n12)]) (M := fun n12 => []) (I := fun n12 => n12 = o7) (.cons (i := 0) rfl (.cons (i := 1) rfl (.nil))) (fun K8 hK8 => ?_) ?_
    · -- up to
      -- region 4: threads.go:18
      refine W.seqR fun Q9 hQ9 => ?_
      refine WL.q (Y.move (.pl rfl)) rfl ?_
      refine WL.q (Y.len Try.underlying22 (.pl rfl)) rfl ?_
      refine WL.q (Y.move (.pl rfl)) rfl ?_
      refine WL.next hQ9 (.cons (i := 0) rfl (.cons (i := 1) rfl (.cons (i := 5) rfl (.cons (i := 20) rfl (.cons (i := 21) rfl (.cons (i := 22) rfl (.nil))))))) ?_
      refine W.block ?_
      refine W.loop2 (Em := fun (n13 : Int) (v14 : Int) => [(5, .int .i64 n13), (22, .int .i64 v14)]) (M := fun n13 v14 => []) (I := fun n13 v14 k10 => iter (threads_Check_L17 N people6) k10 (n13, v14) = some o7) 0 0 N (hF7) (.cons rfl (.cons rfl (.nil))) (.cons (i := 0) rfl (.cons (i := 1) rfl (.cons (i := 20) rfl (.cons (i := 21) rfl (.nil))))) (fun wz hw => hw.pick [] rfl) (fun n13 v14 k10 hI K11 hK11 => ?_)
      obtain ⟨k10, t10, rfl, hF10, hN10⟩ := iter_step hI
      -- region 5: threads.go:18
      refine W.seqR fun Q12 hQ12 => ?_
      refine WL.q (Y.lss (.pl rfl) (.pl rfl)) rfl ?_
      refine WL.next hQ12 (.cons (i := 0) rfl (.cons (i := 1) rfl (.cons (i := 5) rfl (.cons (i := 20) rfl (.cons (i := 21) rfl (.cons (i := 22) rfl (.cons (i := 23) rfl (.nil)))))))) ?_
      refine W.seq fun K13 hK13 => ?_
      refine W.cond (.pl rfl) (fun hC14 => ?_) (fun hC14 => ?_)
      · replace hF10 := cpos hC14 hF10
        refine W.skip ?_
        refine W.go hK13 (.cons (i := 0) rfl (.cons (i := 1) rfl (.cons (i := 5) rfl (.cons (i := 20) rfl (.cons (i := 21) rfl (.cons (i := 22) rfl (.nil))))))) ?_
        refine W.seq fun K15 hK15 => ?_
        refine W.block ?_
        -- region 6: threads.go:18
        refine W.seqR fun Q16 hQ16 => ?_
        obtain ⟨x15, hx15, hF10⟩ := bnd hF10
        refine WL.q (Y.nnEl Try.underlying22 cells41 hs10 (.pl rfl) (.pl rfl) (ix_lt (hx15))) rfl ?_
        refine WL.q (Y.loadNN Try.underlying41 rfl hs10 (.pl rfl) (hx15) rfl) rfl ?_
        refine WL.q (Y.assign (.pl rfl)) rfl ?_
        refine WL.next hQ16 (.cons (i := 0) rfl (.cons (i := 1) rfl (.cons (i := 5) rfl (.cons (i := 7) rfl (.cons (i := 20) rfl (.cons (i := 21) rfl (.cons (i := 22) rfl (.nil)))))))) ?_
        -- region 7: threads.go:19
        refine W.reg ?_
        refine WL.q (Y.move (.pl rfl)) rfl ?_
        refine WL.q (Y.move (.pl rfl)) rfl ?_
        refine WL.q (Y.len Try.underlying41 (.pl rfl)) rfl ?_
        refine WL.q (Y.addW (.pl rfl) (.pl rfl)) rfl ?_
        refine WL.q (Y.assign (.pl rfl)) rfl ?_
        refine WL.nil ?_
        refine W.go hK15 (.cons (i := 0) rfl (.cons (i := 1) rfl (.cons (i := 5) rfl (.cons (i := 20) rfl (.cons (i := 21) rfl (.cons (i := 22) rfl (.nil))))))) ?_
        -- region 8: threads.go:18
        refine W.reg ?_
        obtain ⟨hk16, hF10⟩ := ckh hF10
        refine WL.q (Y.add (.pl rfl) (.pl rfl) (ok64_lt (hk16))) rfl ?_
        refine WL.q (Y.move (.pl rfl)) rfl ?_
        refine WL.nil ?_
        obtain rfl := Option.some.inj hF10
        exact W.again2 hK11 (IntKind.i64.wrap (n13 + ((x15).length : Int))) (v14 + 1) k10 hN10 (Nat.lt_succ_self _) (.cons rfl (.cons rfl (.nil))) (.cons (i := 0) rfl (.cons (i := 1) rfl (.cons (i := 20) rfl (.cons (i := 21) rfl (.nil))))) (fun wz hw => hw.pick [] rfl)
      · replace hF10 := cneg hC14 hF10
        refine W.exit ?_
        obtain rfl := Option.some.inj hF10
        exact W.joinAt1 hK8 n13 (einr hN10) (.cons rfl (.nil)) (.cons (i := 0) rfl (.cons (i := 1) rfl (.nil))) (fun wz hw => hw.pick [] rfl)
    · -- behind
      rintro n12 rfl
      refine W.seq fun K19 hK19 => ?_
      -- region 9: threads.go:21
      refine W.seqR fun Q20 hQ20 => ?_
      refine WL.q (Y.move (.pl rfl)) rfl ?_
      refine WL.q (Y.gtr (.pl rfl) (.pl rfl)) rfl ?_
      refine WL.next hQ20 (.cons (i := 0) rfl (.cons (i := 1) rfl (.cons (i := 32) rfl (.nil)))) ?_
      refine W.cond (.pl rfl) (fun hC21 => ?_) (fun hC21 => ?_)
      · replace hF := cpos hC21 hF
        -- region 10: threads.go:22
        refine W.seqR fun Q22 hQ22 => ?_
        refine WL.q (Y.assign (.pl rfl)) rfl ?_
        refine WL.next hQ22 (.cons (i := 4) rfl (.nil)) ?_
        obtain rfl := Option.some.inj hF
        refine W.retV (fn := Try.f63) (vs := [.int .i64 2]) Try.results63 ⟨.tmp rfl, trivial⟩ (fun _ _ h => h) (fun wz hw => ?_)
        exact hR _ _ ⟨rfl, (hw.pick [] rfl)⟩
      · replace hF := cneg hC21 hF
        refine W.skip ?_
        refine W.go hK19 (.cons (i := 0) rfl (.cons (i := 1) rfl (.nil))) ?_
        obtain ⟨o23, hF23, hF⟩ := bnd hF
        refine W.join0 (Em := []) (M := []) (I := (.inl ()) = o23) (.nil) (fun K24 hK24 => ?_) ?_
        · -- up to
          -- region 11: threads.go:24
          refine W.seqR fun Q25 hQ25 => ?_
          refine WL.q (Y.move (.pl rfl)) rfl ?_
          refine WL.q (Y.len Try.underlying22 (.pl rfl)) rfl ?_
          refine WL.q (Y.move (.pl rfl)) rfl ?_
          refine WL.next hQ25 (.cons (i := 0) rfl (.cons (i := 33) rfl (.cons (i := 34) rfl (.cons (i := 35) rfl (.nil))))) ?_
          refine W.block ?_
          refine W.loop1 (Em := fun (v17 : Int) => [(35, .int .i64 v17)]) (M := fun v17 => []) (I := fun v17 k26 => iter (threads_Check_L29 N people6 types1) k26 v17 = some o23) 0 N (hF23) (.cons rfl (.nil)) (.cons (i := 0) rfl (.cons (i := 33) rfl (.cons (i := 34) rfl (.nil)))) (fun wz hw => hw.pick [] rfl) (fun v17 k26 hI K27 hK27 => ?_)
          obtain ⟨k26, t26, rfl, hF26, hN26⟩ := iter_step hI
          -- region 12: threads.go:24
          refine W.seqR fun Q28 hQ28 => ?_
          refine WL.q (Y.lss (.pl rfl) (.pl rfl)) rfl ?_
          refine WL.next hQ28 (.cons (i := 0) rfl (.cons (i := 33) rfl (.cons (i := 34) rfl (.cons (i := 35) rfl (.cons (i := 36) rfl (.nil)))))) ?_
          refine W.seq fun K29 hK29 => ?_
          refine W.cond (.pl rfl) (fun hC30 => ?_) (fun hC30 => ?_)
          · replace hF26 := cpos hC30 hF26
            refine W.skip ?_
            refine W.go hK29 (.cons (i := 0) rfl (.cons (i := 33) rfl (.cons (i := 34) rfl (.cons (i := 35) rfl (.nil))))) ?_
            obtain ⟨o31, hF31, hF26⟩ := bnd hF26
            refine W.join0 (Em := []) (M := []) (I := (.inl ()) = o31) (.cons (i := 0) rfl (.cons (i := 33) rfl (.cons (i := 34) rfl (.cons (i := 35) rfl (.nil))))) (fun K32 hK32 => ?_) ?_
            · -- up to
              refine W.block ?_
              -- region 13: threads.go:24
              refine W.seqR fun Q33 hQ33 => ?_
              obtain ⟨x18, hx18, hF31⟩ := bnd hF31
              refine WL.q (Y.nnEl Try.underlying22 cells41 hs10 (.pl rfl) (.pl rfl) (ix_lt (hx18))) rfl ?_
              refine WL.q (Y.loadNN Try.underlying41 rfl hs10 (.pl rfl) (hx18) rfl) rfl ?_
              refine WL.q (Y.assign (.pl rfl)) rfl ?_
              refine WL.next hQ33 (.cons (i := 0) rfl (.cons (i := 9) rfl (.cons (i := 33) rfl (.cons (i := 34) rfl (.cons (i := 35) rfl (.nil)))))) ?_
              -- region 14: threads.go:25
              refine W.seqR fun Q34 hQ34 => ?_
              refine WL.q (Y.move (.pl rfl)) rfl ?_
              refine WL.q (Y.len Try.underlying41 (.pl rfl)) rfl ?_
              refine WL.q (Y.move (.pl rfl)) rfl ?_
              refine WL.next hQ34 (.cons (i := 0) rfl (.cons (i := 33) rfl (.cons (i := 34) rfl (.cons (i := 35) rfl (.cons (i := 39) rfl (.cons (i := 40) rfl (.cons (i := 41) rfl (.nil)))))))) ?_
              refine W.block ?_
              refine W.loop1 (Em := fun (v19 : Int) => [(41, .int .i64 v19)]) (M := fun v19 => []) (I := fun v19 k35 => iter (threads_Check_L31 N x18 types1) k35 v19 = some o31) 0 N (hF31) (.cons rfl (.nil)) (.cons (i := 0) rfl (.cons (i := 33) rfl (.cons (i := 34) rfl (.cons (i := 35) rfl (.cons (i := 39) rfl (.cons (i := 40) rfl (.nil))))))) (fun wz hw => hw.pick [] rfl) (fun v19 k35 hI K36 hK36 => ?_)
              obtain ⟨k35, t35, rfl, hF35, hN35⟩ := iter_step hI
              -- region 15: threads.go:25
              refine W.seqR fun Q37 hQ37 => ?_
              refine WL.q (Y.lss (.pl rfl) (.pl rfl)) rfl ?_
              refine WL.next hQ37 (.cons (i := 0) rfl (.cons (i := 33) rfl (.cons (i := 34) rfl (.cons (i := 35) rfl (.cons (i := 39) rfl (.cons (i := 40) rfl (.cons (i := 41) rfl (.cons (i := 42) rfl (.nil))))))))) ?_
              refine W.seq fun K38 hK38 => ?_
              refine W.cond (.pl rfl) (fun hC39 => ?_) (fun hC39 => ?_)
              · replace hF35 := cpos hC39 hF35
                refine W.skip ?_
                refine W.go hK38 (.cons (i := 0) rfl (.cons (i := 33) rfl (.cons (i := 34) rfl (.cons (i := 35) rfl (.cons (i := 39) rfl (.cons (i := 40) rfl (.cons (i := 41) rfl (.nil)))))))) ?_
                refine W.seq fun K40 hK40 => ?_
                refine W.block ?_
                -- region 16: threads.go:25
                refine W.seqR fun Q41 hQ41 => ?_
                obtain ⟨x20, hx20, hF35⟩ := bnd hF35
                refine WL.q (Y.slEl Try.underlying41 cells58 (hs10.at (hx18)) (.pl rfl) (.pl rfl) (ix_lt (hx20))) rfl ?_
                refine WL.q (Y.loadSA (enc := encAsk) (ds := (encAsk x20)) (j := 0) Try.underlying58 rfl cells58 (hs10.at (hx18)) (.pl rfl) (hx20) rfl rfl subW) rfl ?_
                refine WL.step (WO.alloc (cs := (encAsk (Ask.mk 0 0 0)).toArray) zero58 rfl rfl fun b21 => ?_)
                refine WL.step (WO.storeBA (ds := (encAsk x20)) (cs' := (encAsk x20)) cells58 (.pl rfl) (.pl rfl) rfl (oneAsk _) (i := 0) rfl (lel (o := 0) (l := 3) (m := 3) (by decide) rfl rfl) (putW rfl) ?_)
                refine WL.next hQ41 (.cons (i := 0) rfl (.cons (i := 11) rfl (.cons (i := 33) rfl (.cons (i := 34) rfl (.cons (i := 35) rfl (.cons (i := 39) rfl (.cons (i := 40) rfl (.cons (i := 41) rfl (.nil))))))))) ?_
                -- region 17: threads.go:26
                refine W.seqD (by kernel_rfl) (by kernel_rfl) fun R42 hR42 => ?_
                refine WD.q (Y.fieldAddr0 (off := 0) (ft := 3) Try.underlying58 rfl cells3 (.pl rfl)) rfl ?_
                refine WD.q (Y.loadB (v := .int .i64 x20.thing) Try.underlying3 rfl (.pl rfl) (i := 0) rfl (rfl)) rfl ?_
                refine WD.q (Y.lss (.pl rfl) (.pl rfl)) rfl ?_
                refine WD.q (Y.move (.pl rfl)) rfl ?_
                refine WD.g (.pl rfl rfl rfl) (fun hg => Y.fieldAddr0 (off := 0) (ft := 3) Try.underlying58 rfl cells3 (.pl rfl)) rfl ?_
                refine WD.g (.pl rfl rfl rfl) (fun hg => Y.loadB (v := .int .i64 x20.thing) Try.underlying3 rfl (.gd (hg) rfl) (i := 0) rfl (rfl)) rfl ?_
                refine WD.g (.pl rfl rfl rfl) (fun hg => Y.move (.pl rfl)) rfl ?_
                refine WD.g (.pl rfl rfl rfl) (fun hg => Y.len Try.underlying47 (.gd (hg) rfl)) rfl ?_
                refine WD.g (.pl rfl rfl rfl) (fun hg => Y.geq (.gd (hg) rfl) (.gd (hg) rfl)) rfl ?_
                refine WD.q (Y.or (.pl rfl) (fun h2 => .gd (eqf h2) rfl)) rfl ?_
                refine WD.q (Y.move (.pl rfl)) rfl ?_
                refine WD.g (.pl rfl rfl rfl) (fun hg => Y.move (.pl rfl)) rfl ?_
                refine WD.g (.pl rfl rfl rfl) (fun hg => Y.fieldAddr0 (off := 0) (ft := 3) Try.underlying58 rfl cells3 (.pl rfl)) rfl ?_
                refine WD.g (.pl rfl rfl rfl) (fun hg => Y.loadB (v := .int .i64 x20.thing) Try.underlying3 rfl (.gd (hg) rfl) (i := 0) rfl (rfl)) rfl ?_
                obtain ⟨x22, hx22, hF35⟩ := bnd hF35
                refine WD.g (.pl rfl rfl rfl) (fun hg => Y.slEl Try.underlying47 cells3 hs4 (.gd (hg) rfl) (.gd (hg) rfl) (ix_lt (gpos hg hx22))) rfl ?_
                refine WD.g (.pl rfl rfl rfl) (fun hg => Y.loadS (enc := (eI .i64)) (v := .int .i64 x22) (j := 0) Try.underlying3 rfl hs4 (.gd (hg) rfl) (gpos hg hx22) rfl rfl) rfl ?_
                refine WD.g (.pl rfl rfl rfl) (fun hg => Y.fieldAddr0 (off := 1) (ft := 3) Try.underlying58 rfl cells3 (.pl rfl)) rfl ?_
                refine WD.g (.pl rfl rfl rfl) (fun hg => Y.loadB (v := .int .i64 x20.kind) Try.underlying3 rfl (.gd (hg) rfl) (i := 0) rfl (rfl)) rfl ?_
                obtain ⟨r23, hr23, hF35⟩ := bnd hF35
                refine WD.gP (.pl rfl rfl rfl) isGo91 (fun hg => (.cons (.gd (hg) rfl) (.cons (.gd (hg) rfl) (.nil)))) rfl (fun hg wz hw => history_Fits_ok (gpos hg hr23) wz ) ?_
                refine WD.g (.pl rfl rfl rfl) (fun hg => Y.not (.gd (hg) rfl)) rfl ?_
                refine WD.q (Y.or (.pl rfl) (fun h2 => .gd (eqf h2) rfl)) rfl ?_
                refine WD.q (Y.move (.pl rfl)) rfl ?_
                refine WD.g (.pl rfl rfl rfl) (fun hg => Y.fieldAddr0 (off := 1) (ft := 3) Try.underlying58 rfl cells3 (.pl rfl)) rfl ?_
                refine WD.g (.pl rfl rfl rfl) (fun hg => Y.loadB (v := .int .i64 x20.kind) Try.underlying3 rfl (.gd (hg) rfl) (i := 0) rfl (rfl)) rfl ?_
                refine WD.g (.pl rfl rfl rfl) (fun hg => Y.fieldAddr0 (off := 2) (ft := 3) Try.underlying58 rfl cells3 (.pl rfl)) rfl ?_
                refine WD.g (.pl rfl rfl rfl) (fun hg => Y.loadB (v := .int .i64 x20.arg) Try.underlying3 rfl (.gd (hg) rfl) (i := 0) rfl (rfl)) rfl ?_
                obtain ⟨r24, hr24, hF35⟩ := bnd hF35
                refine WD.gP (.pl rfl rfl rfl) isGo92 (fun hg => (.cons (.gd (hg) rfl) (.cons (.gd (hg) rfl) (.nil)))) rfl (fun hg wz hw => history_Argument_ok (gpos hg hr24) wz ) ?_
                refine WD.g (.pl rfl rfl rfl) (fun hg => Y.not (.gd (hg) rfl)) rfl ?_
                refine WD.q (Y.or (.pl rfl) (fun h2 => .gd (eqf h2) rfl)) rfl ?_
                refine WD.next hR42 (.cons (i := 0) rfl (.cons (i := 33) rfl (.cons (i := 34) rfl (.cons (i := 35) rfl (.cons (i := 39) rfl (.cons (i := 40) rfl (.cons (i := 41) rfl (.cons (i := 73) rfl (.nil))))))))) ?_
                refine W.cond (.pl rfl) (fun hC43 => ?_) (fun hC43 => ?_)
                · replace hF35 := cpos hC43 hF35
                  -- region 18: threads.go:27
                  refine W.seqR fun Q44 hQ44 => ?_
                  refine WL.q (Y.assign (.pl rfl)) rfl ?_
                  refine WL.next hQ44 (.cons (i := 4) rfl (.nil)) ?_
                  obtain rfl := Option.some.inj hF35
                  obtain rfl := einr hN35
                  obtain rfl := Option.some.inj hF26
                  obtain rfl := einr hN26
                  obtain rfl := Option.some.inj hF
                  refine W.retV (fn := Try.f63) (vs := [.int .i64 3]) Try.results63 ⟨.tmp rfl, trivial⟩ (fun _ _ h => h) (fun wz hw => ?_)
                  exact hR _ _ ⟨rfl, (hw.pick [] rfl)⟩
                · replace hF35 := cneg hC43 hF35
                  refine W.skip ?_
                  refine W.go hK40 (.cons (i := 0) rfl (.cons (i := 33) rfl (.cons (i := 34) rfl (.cons (i := 35) rfl (.cons (i := 39) rfl (.cons (i := 40) rfl (.cons (i := 41) rfl (.nil)))))))) ?_
                  -- region 19: threads.go:25
                  refine W.reg ?_
                  obtain ⟨hk25, hF35⟩ := ckh hF35
                  refine WL.q (Y.add (.pl rfl) (.pl rfl) (ok64_lt (hk25))) rfl ?_
                  refine WL.q (Y.move (.pl rfl)) rfl ?_
                  refine WL.nil ?_
                  obtain rfl := Option.some.inj hF35
                  exact W.again1 hK36 (v19 + 1) k35 hN35 (Nat.lt_succ_self _) (.cons rfl (.nil)) (.cons (i := 0) rfl (.cons (i := 33) rfl (.cons (i := 34) rfl (.cons (i := 35) rfl (.cons (i := 39) rfl (.cons (i := 40) rfl (.nil))))))) (fun wz hw => hw.pick [] rfl)
              · replace hF35 := cneg hC39 hF35
                refine W.exit ?_
                obtain rfl := Option.some.inj hF35
                exact W.joinAt0 hK32  (einr hN35) (.nil) (.cons (i := 0) rfl (.cons (i := 33) rfl (.cons (i := 34) rfl (.cons (i := 35) rfl (.nil))))) (fun wz hw => hw.pick [] rfl)
            · -- behind
              rintro  rfl
              -- region 20: threads.go:24
              refine W.reg ?_
              obtain ⟨hk26, hF26⟩ := ckh hF26
              refine WL.q (Y.add (.pl rfl) (.pl rfl) (ok64_lt (hk26))) rfl ?_
              refine WL.q (Y.move (.pl rfl)) rfl ?_
              refine WL.nil ?_
              obtain rfl := Option.some.inj hF26
              exact W.again1 hK27 (v17 + 1) k26 hN26 (Nat.lt_succ_self _) (.cons rfl (.nil)) (.cons (i := 0) rfl (.cons (i := 33) rfl (.cons (i := 34) rfl (.nil)))) (fun wz hw => hw.pick [] rfl)
          · replace hF26 := cneg hC30 hF26
            refine W.exit ?_
            obtain rfl := Option.some.inj hF26
            exact W.joinAt0 hK24  (einr hN26) (.nil) (.nil) (fun wz hw => hw.pick [] rfl)
        · -- behind
          rintro  rfl
          -- region 21: threads.go:31
          refine W.seqR fun Q47 hQ47 => ?_
          refine WL.q (Y.assign (.pl rfl)) rfl ?_
          refine WL.next hQ47 (.cons (i := 4) rfl (.nil)) ?_
          obtain rfl := Option.some.inj hF
          refine W.retV (fn := Try.f63) (vs := [.int .i64 0]) Try.results63 ⟨.tmp rfl, trivial⟩ (fun _ _ h => h) (fun wz hw => ?_)
          exact hR _ _ ⟨rfl, (hw.pick [] rfl)⟩

def threads_Turns_L3 (N : Nat) (turns3 : (List Int)) (people1 : Int) : Int → Option (Int ⊕ (Unit ⊕ Int))
  | v8 =>
    cond (decide (v8 < ((turns3).length : Int)))
      (bd (ix turns3 v8) fun (x9 : Int) =>
      cond ((decide (x9 < 0)) || (decide (people1 ≤ x9)))
        (some (.inr (.inr 1)))
        (ck (ok64 (v8 + 1)) <|
        some (.inl (v8 + 1))))
      (some (.inr (.inl ())))

def threads_Turns (N : Nat) (people1 : Int) (most2 : Int) (turns3 : (List Int)) : Option Int :=
  cond (decide (most2 < ((turns3).length : Int)))
    (some 2)
    (bd (α := (Unit ⊕ Int)) (iter (threads_Turns_L3 N turns3 people1) N 0) <|
    Sum.elim (fun _ => 
      some 0) (fun p => some p))

theorem threads_Turns_ok {N : Nat} {people1 : Int} {most2 : Int} {turns3 : (List Int)} {res : Int} (hF : threads_Turns N people1 most2 turns3 = some res) (w : World) {v7 : Value} (hs6 : SlIn (eI .i64) 1 w v7 turns3) :
    Pure Try.prog 64 [.int .i64 people1, .int .i64 most2, v7] w (.int .i64 res) := by
  obtain ⟨A4, c5, rfl, hcc5, hs6⟩ := hs6.form
  refine W.enter (n := 27) Try.func64 rfl rfl Sub.refl (by simp) (St.start w) fun R hR => ?_
  unfold threads_Turns at hF
  -- region 0: threads.go:35
  refine W.seqR fun Q1 hQ1 => ?_
  refine WL.q (Y.assign (.pl rfl)) rfl ?_
  refine WL.next hQ1 (.cons (i := 0) rfl (.cons (i := 1) rfl (.cons (i := 2) rfl (.nil)))) ?_
  refine W.seq fun K2 hK2 => ?_
  -- region 1: threads.go:36
  refine W.seqR fun Q3 hQ3 => ?_
  refine WL.q (Y.move (.pl rfl)) rfl ?_
  refine WL.q (Y.len Try.underlying47 (.pl rfl)) rfl ?_
  refine WL.q (Y.move (.pl rfl)) rfl ?_
  refine WL.q (Y.gtr (.pl rfl) (.pl rfl)) rfl ?_
  refine WL.next hQ3 (.cons (i := 0) rfl (.cons (i := 2) rfl (.cons (i := 12) rfl (.nil)))) ?_
  refine W.cond (.pl rfl) (fun hC4 => ?_) (fun hC4 => ?_)
  · replace hF := cpos hC4 hF
    -- region 2: threads.go:37
    refine W.seqR fun Q5 hQ5 => ?_
    refine WL.q (Y.assign (.pl rfl)) rfl ?_
    refine WL.next hQ5 (.cons (i := 6) rfl (.nil)) ?_
    obtain rfl := Option.some.inj hF
    refine W.retV (fn := Try.f64) (vs := [.int .i64 2]) Try.results64 ⟨.tmp rfl, trivial⟩ (fun _ _ h => h) (fun wz hw => ?_)
    exact hR _ _ ⟨rfl, (hw.pick [] rfl)⟩
  · replace hF := cneg hC4 hF
    refine W.skip ?_
    refine W.go hK2 (.cons (i := 0) rfl (.cons (i := 2) rfl (.nil))) ?_
    obtain ⟨o6, hF6, hF⟩ := bnd hF
    refine W.join0 (Em := []) (M := []) (I := (.inl ()) = o6) (.nil) (fun K7 hK7 => ?_) ?_
    · -- up to
      -- region 3: threads.go:39
      refine W.seqR fun Q8 hQ8 => ?_
      refine WL.q (Y.move (.pl rfl)) rfl ?_
      refine WL.q (Y.len Try.underlying47 (.pl rfl)) rfl ?_
      refine WL.q (Y.move (.pl rfl)) rfl ?_
      refine WL.next hQ8 (.cons (i := 0) rfl (.cons (i := 13) rfl (.cons (i := 14) rfl (.cons (i := 15) rfl (.nil))))) ?_
      refine W.block ?_
      refine W.loop1 (Em := fun (v8 : Int) => [(15, .int .i64 v8)]) (M := fun v8 => []) (I := fun v8 k9 => iter (threads_Turns_L3 N turns3 people1) k9 v8 = some o6) 0 N (hF6) (.cons rfl (.nil)) (.cons (i := 0) rfl (.cons (i := 13) rfl (.cons (i := 14) rfl (.nil)))) (fun wz hw => hw.pick [] rfl) (fun v8 k9 hI K10 hK10 => ?_)
      obtain ⟨k9, t9, rfl, hF9, hN9⟩ := iter_step hI
      -- region 4: threads.go:39
      refine W.seqR fun Q11 hQ11 => ?_
      refine WL.q (Y.lss (.pl rfl) (.pl rfl)) rfl ?_
      refine WL.next hQ11 (.cons (i := 0) rfl (.cons (i := 13) rfl (.cons (i := 14) rfl (.cons (i := 15) rfl (.cons (i := 16) rfl (.nil)))))) ?_
      refine W.seq fun K12 hK12 => ?_
      refine W.cond (.pl rfl) (fun hC13 => ?_) (fun hC13 => ?_)
      · replace hF9 := cpos hC13 hF9
        refine W.skip ?_
        refine W.go hK12 (.cons (i := 0) rfl (.cons (i := 13) rfl (.cons (i := 14) rfl (.cons (i := 15) rfl (.nil))))) ?_
        refine W.seq fun K14 hK14 => ?_
        refine W.block ?_
        -- region 5: threads.go:39
        refine W.seqR fun Q15 hQ15 => ?_
        obtain ⟨x9, hx9, hF9⟩ := bnd hF9
        refine WL.q (Y.slEl Try.underlying47 cells3 hs6 (.pl rfl) (.pl rfl) (ix_lt (hx9))) rfl ?_
        refine WL.q (Y.loadS (enc := (eI .i64)) (v := .int .i64 x9) (j := 0) Try.underlying3 rfl hs6 (.pl rfl) (hx9) rfl rfl) rfl ?_
        refine WL.q (Y.assign (.pl rfl)) rfl ?_
        refine WL.next hQ15 (.cons (i := 0) rfl (.cons (i := 8) rfl (.cons (i := 13) rfl (.cons (i := 14) rfl (.cons (i := 15) rfl (.nil)))))) ?_
        -- region 6: threads.go:40
        refine W.seqR fun Q16 hQ16 => ?_
        refine WL.q (Y.move (.pl rfl)) rfl ?_
        refine WL.q (Y.lss (.pl rfl) (.pl rfl)) rfl ?_
        refine WL.q (Y.move (.pl rfl)) rfl ?_
        refine WL.g (.pl rfl rfl rfl) (fun hg => Y.move (.pl rfl)) rfl ?_
        refine WL.g (.pl rfl rfl rfl) (fun hg => Y.move (.pl rfl)) rfl ?_
        refine WL.g (.pl rfl rfl rfl) (fun hg => Y.geq (.gd (hg) rfl) (.gd (hg) rfl)) rfl ?_
        refine WL.q (Y.or (.pl rfl) (fun h2 => .gd (eqf h2) rfl)) rfl ?_
        refine WL.next hQ16 (.cons (i := 0) rfl (.cons (i := 13) rfl (.cons (i := 14) rfl (.cons (i := 15) rfl (.cons (i := 25) rfl (.nil)))))) ?_
        refine W.cond (.pl rfl) (fun hC17 => ?_) (fun hC17 => ?_)
        · replace hF9 := cpos hC17 hF9
          -- region 7: threads.go:41
          refine W.seqR fun Q18 hQ18 => ?_
          refine WL.q (Y.assign (.pl rfl)) rfl ?_
          refine WL.next hQ18 (.cons (i := 6) rfl (.nil)) ?_
          obtain rfl := Option.some.inj hF9
          obtain rfl := einr hN9
          obtain rfl := Option.some.inj hF
          refine W.retV (fn := Try.f64) (vs := [.int .i64 1]) Try.results64 ⟨.tmp rfl, trivial⟩ (fun _ _ h => h) (fun wz hw => ?_)
          exact hR _ _ ⟨rfl, (hw.pick [] rfl)⟩
        · replace hF9 := cneg hC17 hF9
          refine W.skip ?_
          refine W.go hK14 (.cons (i := 0) rfl (.cons (i := 13) rfl (.cons (i := 14) rfl (.cons (i := 15) rfl (.nil))))) ?_
          -- region 8: threads.go:39
          refine W.reg ?_
          obtain ⟨hk10, hF9⟩ := ckh hF9
          refine WL.q (Y.add (.pl rfl) (.pl rfl) (ok64_lt (hk10))) rfl ?_
          refine WL.q (Y.move (.pl rfl)) rfl ?_
          refine WL.nil ?_
          obtain rfl := Option.some.inj hF9
          exact W.again1 hK10 (v8 + 1) k9 hN9 (Nat.lt_succ_self _) (.cons rfl (.nil)) (.cons (i := 0) rfl (.cons (i := 13) rfl (.cons (i := 14) rfl (.nil)))) (fun wz hw => hw.pick [] rfl)
      · replace hF9 := cneg hC13 hF9
        refine W.exit ?_
        obtain rfl := Option.some.inj hF9
        exact W.joinAt0 hK7  (einr hN9) (.nil) (.nil) (fun wz hw => hw.pick [] rfl)
    · -- behind
      rintro  rfl
      -- region 9: threads.go:44
      refine W.seqR fun Q20 hQ20 => ?_
      refine WL.q (Y.assign (.pl rfl)) rfl ?_
      refine WL.next hQ20 (.cons (i := 6) rfl (.nil)) ?_
      obtain rfl := Option.some.inj hF
      refine W.retV (fn := Try.f64) (vs := [.int .i64 0]) Try.results64 ⟨.tmp rfl, trivial⟩ (fun _ _ h => h) (fun wz hw => ?_)
      exact hR _ _ ⟨rfl, (hw.pick [] rfl)⟩

def threads_machine_turn (N : Nat) (types2 : (List Int)) (states8 : (List (List Int))) (people12 : (List ThreadsProcess)) (events16 : (List Event)) (steps19 : (List Step)) (calls20 : Int) (who21 : Int) : Option ((List (List Int)) × (List ThreadsProcess) × (List Event) × (List Step) × Int) :=
  bd (ix people12 who21) fun (x22 : ThreadsProcess) =>
  cond ((!x22.pending) && (decide (((x22.program).length : Int) = 0)))
    (some (states8, people12, events16, steps19, calls20))
    (cond (!x22.pending)
      (bd (ix x22.program 0) fun (x23 : Ask) =>
      ck (limB 32 ((events16).length + (([(Event.mk who21 x23.thing x23.kind x23.arg)] : List Event)).length)) <|
      ck (ok64 (calls20 + 1)) <|
      some (states8, (((people12.set who21.toNat (ThreadsProcess.mk x22.program true x22.call x22.done x22.failed x22.res)).set who21.toNat (ThreadsProcess.mk x22.program true x22.call false x22.failed x22.res)).set who21.toNat (ThreadsProcess.mk x22.program true calls20 false x22.failed x22.res)), (events16 ++ ([(Event.mk who21 x23.thing x23.kind x23.arg)] : List Event)), steps19, (calls20 + 1)))
      (cond (!x22.done)
        (bd (ix x22.program 0) fun (x30 : Ask) =>
        bd (ix types2 x30.thing) fun (x32 : Int) =>
        bd (ix states8 x30.thing) fun (x33 : (List Int)) =>
        bd (object_Step N x32 x33 x30.kind x30.arg) fun (r34 : ((List Int) × Int × Int)) =>
        cond (decide (r34.2.2 = 0))
          (ck (limB 16 ((steps19).length + (([(Step.mk x22.call r34.2.1)] : List Step)).length)) <|
          some ((states8.set x30.thing.toNat r34.1), (((people12.set who21.toNat (ThreadsProcess.mk x22.program x22.pending x22.call true x22.failed x22.res)).set who21.toNat (ThreadsProcess.mk x22.program x22.pending x22.call true (!(decide (r34.2.2 = 0))) x22.res)).set who21.toNat (ThreadsProcess.mk x22.program x22.pending x22.call true (!(decide (r34.2.2 = 0))) r34.2.1)), events16, (steps19 ++ ([(Step.mk x22.call r34.2.1)] : List Step)), calls20))
          (some (states8, (((people12.set who21.toNat (ThreadsProcess.mk x22.program x22.pending x22.call true x22.failed x22.res)).set who21.toNat (ThreadsProcess.mk x22.program x22.pending x22.call true (!(decide (r34.2.2 = 0))) x22.res)).set who21.toNat (ThreadsProcess.mk x22.program x22.pending x22.call true (!(decide (r34.2.2 = 0))) r34.2.1)), events16, steps19, calls20)))
        (cond (!x22.failed)
          (bd (ix x22.program 0) fun (x41 : Ask) =>
          ck (limB 32 ((events16).length + (([(Event.mk who21 x41.thing 0 x22.res)] : List Event)).length)) <|
          ck (slB (x22.program).length 1 ((x22.program).length : Int)) <|
          some (states8, ((people12.set who21.toNat (ThreadsProcess.mk x22.program false x22.call x22.done x22.failed x22.res)).set who21.toNat (ThreadsProcess.mk (x22.program.drop (1 : Int).toNat) false x22.call x22.done x22.failed x22.res)), (events16 ++ ([(Event.mk who21 x41.thing 0 x22.res)] : List Event)), steps19, calls20))
          (some (states8, people12, events16, steps19, calls20)))))

theorem threads_machine_turn_ok {N : Nat} {types2 : (List Int)} {states8 : (List (List Int))} {people12 : (List ThreadsProcess)} {events16 : (List Event)} {steps19 : (List Step)} {calls20 : Int} {who21 : Int} {b1 : Nat} {A3 : Option Addr} {c4 : Nat} {A6 : Option Addr} {c7 : Nat} {hd9 : List Hd} {A10 : Option Addr} {c11 : Nat} {hd13 : List Hd} {A14 : Option Addr} {c15 : Nat} {A17 : Option Addr} {c18 : Nat} {res : ((List (List Int)) × (List ThreadsProcess) × (List Event) × (List Step) × Int)} (hF : threads_machine_turn N types2 states8 people12 events16 steps19 calls20 who21 = some res) {w0 w : World} {T : List Chunk} (hw : St w0.heap.size w0 ([cBx b1 145 (Value.slice A3 (types2).length c4 :: (Value.slice A6 (states8).length c7 :: (Value.slice A10 (people12).length c11 :: (Value.slice A14 (events16).length c15 :: (Value.slice A17 (steps19).length c18 :: (Value.int .i64 calls20 :: [])))))), cN encSl (innSl (eI .i64) 1 3) 1 A6 c7 47 hd9 states8, cN encNThreadsProcess (innNThreadsProcess w0) 6 A10 c11 149 hd13 people12, cR encEvent 4 A14 c15 34 events16, cR encStep 2 A17 c18 77 steps19] ++ T) w) (hs5 : SlIn (eI .i64) 1 w0 (.slice A3 (types2).length c4) types2) :
    Calls Try.prog 75 (List.toArray [.pointer (some ⟨b1, 0, none⟩), .int .i64 who21]) w (fun e w' => ∃ g : (List Hd × List Hd × Option Addr × Nat × Option Addr × Nat), (True) ∧ e = .returned (.tuple #[]) ∧ St w0.heap.size w0 ([cBx b1 145 (Value.slice A3 (types2).length c4 :: (Value.slice A6 (res.1).length c7 :: (Value.slice A10 (res.2.1).length c11 :: (Value.slice g.2.2.1 (res.2.2.1).length g.2.2.2.1 :: (Value.slice g.2.2.2.2.1 (res.2.2.2.1).length g.2.2.2.2.2 :: (Value.int .i64 res.2.2.2.2 :: [])))))), cN encSl (innSl (eI .i64) 1 3) 1 A6 c7 47 g.1 res.1, cN encNThreadsProcess (innNThreadsProcess w0) 6 A10 c11 149 g.2.1 res.2.1, cR encEvent 4 g.2.2.1 g.2.2.2.1 34 res.2.2.1, cR encStep 2 g.2.2.2.2.1 g.2.2.2.2.2 77 res.2.2.2.1] ++ T) w') := by
  refine W.enter (n := 192) Try.func75 rfl rfl Sub.refl (by simp) hw fun R hR => ?_
  unfold threads_machine_turn at hF
  -- region 0: threads.go:69
  refine W.know (fun wz hwz => bor_of (h0 := ((none, 0) : Hd)) (q := fun h a => SlIn encAsk 3 w0 (.slice h.1 a.program.length h.2) a.program) hwz (i := 2) rfl (fun _ _ => .head _)) (fun hbor2 => ?_)
  refine W.seqR fun Q1 hQ1 => ?_
  refine WL.q (Y.move (.pl rfl)) rfl ?_
  refine WL.q (Y.nilCheck (.pl rfl)) rfl ?_
  refine WL.q (Y.fieldAddr0 (off := 2) (ft := 143) Try.underlying145 rfl cells143 (.pl rfl)) rfl ?_
  refine WL.q (Y.loadB (v := .slice A10 (people12).length c11) Try.underlying143 rfl (.pl rfl) (i := 0) rfl (rfl)) rfl ?_
  refine WL.q (Y.move (.pl rfl)) rfl ?_
  obtain ⟨x22, hx22, hF⟩ := bnd hF
  refine WL.q (Y.nEl Try.underlying143 cells149 (i := 2) rfl (.pl rfl) rfl (.pl rfl) (ix_lt (hx22))) rfl ?_
  refine WL.q (Y.assign (.pl rfl)) rfl ?_
  refine WL.next hQ1 (.cons (i := 0) rfl (.cons (i := 1) rfl (.cons (i := 4) rfl (.nil)))) ?_
  refine W.block ?_
  -- region 1: threads.go:71
  refine W.seqR fun Q3 hQ3 => ?_
  refine WL.q (Y.move (.pl rfl)) rfl ?_
  refine WL.q (Y.nilCheck (.pl rfl)) rfl ?_
  refine WL.q (Y.nField (off := 1) (ft := 4) Try.underlying149 rfl cells4 (i' := 2) rfl (ix_lt (hx22)) (.pl rfl)) rfl ?_
  refine WL.q (Y.loadN (enc := encNThreadsProcess) (h0 := ((none, 0) : Hd)) (v := .bool x22.pending) (a := (ThreadsProcess.mk x22.program x22.pending x22.call x22.done x22.failed x22.res)) (idx := who21) (j := 1) Try.underlying4 rfl lenNThreadsProcess (i := 2) rfl (.pl rfl) (ix_get (hx22)) rfl rfl) rfl ?_
  refine WL.q (Y.not (.pl rfl)) rfl ?_
  refine WL.q (Y.move (.pl rfl)) rfl ?_
  refine WL.g (.pl rfl rfl rfl) (fun hg => Y.move (.pl rfl)) rfl ?_
  refine WL.g (.pl rfl rfl rfl) (fun hg => Y.nilCheck (.gd (hg) rfl)) rfl ?_
  refine WL.g (.pl rfl rfl rfl) (fun hg => Y.nField (off := 0) (ft := 41) Try.underlying149 rfl cells41 (i' := 2) rfl (ix_lt (hx22)) (.gd (hg) rfl)) rfl ?_
  refine WL.g (.pl rfl rfl rfl) (fun hg => Y.loadN (enc := encNThreadsProcess) (h0 := ((none, 0) : Hd)) (v := .slice (hd13.getD who21.toNat ((none, 0) : Hd)).1 (x22.program).length (hd13.getD who21.toNat ((none, 0) : Hd)).2) (a := (ThreadsProcess.mk x22.program x22.pending x22.call x22.done x22.failed x22.res)) (idx := who21) (j := 0) Try.underlying41 rfl lenNThreadsProcess (i := 2) rfl (.gd (hg) rfl) (ix_get (hx22)) rfl rfl) rfl ?_
  refine WL.g (.pl rfl rfl rfl) (fun hg => Y.len Try.underlying41 (.gd (hg) rfl)) rfl ?_
  refine WL.g (.pl rfl rfl rfl) (fun hg => Y.eql (.gd (hg) rfl) (.pl rfl)) rfl ?_
  refine WL.q (Y.and (.pl rfl) (fun h2 => .gd (eqt h2) rfl)) rfl ?_
  refine WL.q (Y.assign (.pl rfl)) rfl ?_
  refine WL.next hQ3 (.cons (i := 0) rfl (.cons (i := 1) rfl (.cons (i := 4) rfl (.cons (i := 16) rfl (.nil))))) ?_
  refine W.cond (.pl rfl) (fun hC4 => ?_) (fun hC4 => ?_)
  · replace hF := cpos hC4 hF
    refine W.skip ?_
    obtain rfl := Option.some.inj hF
    refine W.endV (fn := Try.f75) (vs := []) Try.results75 trivial (fun _ _ h => h) (fun wz hw => ?_)
    exact hR _ _ ⟨(hd9, hd13, A14, c15, A17, c18), trivial, rfl, (hw.pickK 5 [0, 1, 2, 3, 4] rfl)⟩
  · replace hF := cneg hC4 hF
    -- region 2: threads.go:72
    refine W.seqR fun Q5 hQ5 => ?_
    refine WL.q (Y.move (.pl rfl)) rfl ?_
    refine WL.q (Y.nilCheck (.pl rfl)) rfl ?_
    refine WL.q (Y.nField (off := 1) (ft := 4) Try.underlying149 rfl cells4 (i' := 2) rfl (ix_lt (hx22)) (.pl rfl)) rfl ?_
    refine WL.q (Y.loadN (enc := encNThreadsProcess) (h0 := ((none, 0) : Hd)) (v := .bool x22.pending) (a := (ThreadsProcess.mk x22.program x22.pending x22.call x22.done x22.failed x22.res)) (idx := who21) (j := 1) Try.underlying4 rfl lenNThreadsProcess (i := 2) rfl (.pl rfl) (ix_get (hx22)) rfl rfl) rfl ?_
    refine WL.q (Y.not (.pl rfl)) rfl ?_
    refine WL.q (Y.assign (.pl rfl)) rfl ?_
    refine WL.next hQ5 (.cons (i := 0) rfl (.cons (i := 1) rfl (.cons (i := 4) rfl (.cons (i := 30) rfl (.nil))))) ?_
    refine W.cond (.pl rfl) (fun hC6 => ?_) (fun hC6 => ?_)
    · replace hF := cpos hC6 hF
      -- region 3: threads.go:73
      refine W.seqR fun Q7 hQ7 => ?_
      refine WL.q (Y.move (.pl rfl)) rfl ?_
      refine WL.q (Y.nilCheck (.pl rfl)) rfl ?_
      refine WL.q (Y.nField (off := 0) (ft := 41) Try.underlying149 rfl cells41 (i' := 2) rfl (ix_lt (hx22)) (.pl rfl)) rfl ?_
      refine WL.q (Y.loadN (enc := encNThreadsProcess) (h0 := ((none, 0) : Hd)) (v := .slice (hd13.getD who21.toNat ((none, 0) : Hd)).1 (x22.program).length (hd13.getD who21.toNat ((none, 0) : Hd)).2) (a := (ThreadsProcess.mk x22.program x22.pending x22.call x22.done x22.failed x22.res)) (idx := who21) (j := 0) Try.underlying41 rfl lenNThreadsProcess (i := 2) rfl (.pl rfl) (ix_get (hx22)) rfl rfl) rfl ?_
      obtain ⟨x23, hx23, hF⟩ := bnd hF
      refine WL.q (Y.slEl Try.underlying41 cells58 (hbor2 _ _ (ix_get (hx22))) (.pl rfl) (.pl rfl) (ix_lt (hx23))) rfl ?_
      refine WL.q (Y.loadSA (enc := encAsk) (ds := (encAsk x23)) (j := 0) Try.underlying58 rfl cells58 (hbor2 _ _ (ix_get (hx22))) (.pl rfl) (hx23) rfl rfl subW) rfl ?_
      refine WL.step (WO.alloc (cs := (encAsk (Ask.mk 0 0 0)).toArray) zero58 rfl rfl fun b24 => ?_)
      refine WL.step (WO.storeBA (ds := (encAsk x23)) (cs' := (encAsk x23)) cells58 (.pl rfl) (.pl rfl) rfl (oneAsk _) (i := 0) rfl (lel (o := 0) (l := 3) (m := 3) (by decide) rfl rfl) (putW rfl) ?_)
      refine WL.next hQ7 (.cons (i := 0) rfl (.cons (i := 1) rfl (.cons (i := 4) rfl (.cons (i := 5) rfl (.nil))))) ?_
      -- region 4: threads.go:74
      refine W.know (fun wz hw => n_okA0 hw (i := 3) rfl) (fun hok9 => ?_)
      refine W.seqX 14 (by kernel_rfl) fun K8 hK8 => ?_
      refine WX.pure 0 #[true, false, false, false, false, false, false, false, false, false, false, false, false, false, false, false, false, false] rfl (by kernel_rfl) (fun _ _ => Y.move (.pl rfl)) rfl ?_
      refine WX.pure 1 #[true, true, false, false, false, false, false, false, false, false, false, false, false, false, false, false, false, false] rfl (by kernel_rfl) (fun _ _ => Y.move (.pl rfl)) rfl ?_
      refine WX.pure 2 #[true, true, true, false, false, false, false, false, false, false, false, false, false, false, false, false, false, false] rfl (by kernel_rfl) (fun _ _ => Y.nilCheck (.pl rfl)) rfl ?_
      refine WX.pure 3 #[true, true, true, true, false, false, false, false, false, false, false, false, false, false, false, false, false, false] rfl (by kernel_rfl) (fun _ _ => Y.fieldAddr0 (off := 3) (ft := 26) Try.underlying145 rfl cells26 (.pl rfl)) rfl ?_
      refine WX.take 4 #[true, true, true, true, true, false, false, false, false, false, false, false, false, false, false, false, false, false] (fun wz hw => St.tail [] hw) rfl (by kernel_rfl) (Y.loadB (v := .slice A14 (events16).length c15) Try.underlying26 rfl (.pl rfl) (i := 1) rfl (rfl)) rfl ?_
      refine WX.pure 5 #[true, true, true, true, true, true, false, false, false, false, false, false, false, false, false, false, false, false] rfl (by kernel_rfl) (fun _ _ => Y.move (.pl rfl)) rfl ?_
      refine WX.pure 6 #[true, true, true, true, true, true, true, false, false, false, false, false, false, false, false, false, false, false] rfl (by kernel_rfl) (fun _ _ => Y.fieldAddr0 (off := 0) (ft := 3) Try.underlying58 rfl cells3 (.pl rfl)) rfl ?_
      refine WX.take 7 #[true, true, true, true, true, true, true, true, false, false, false, false, false, false, false, false, false, false] (fun wz hw => St.tail [] hw) rfl (by kernel_rfl) (Y.loadB (v := .int .i64 x23.thing) Try.underlying3 rfl (.pl rfl) (i := 0) rfl (rfl)) rfl ?_
      refine WX.pure 8 #[true, true, true, true, true, true, true, true, true, false, false, false, false, false, false, false, false, false] rfl (by kernel_rfl) (fun _ _ => Y.fieldAddr0 (off := 1) (ft := 3) Try.underlying58 rfl cells3 (.pl rfl)) rfl ?_
      refine WX.take 9 #[true, true, true, true, true, true, true, true, true, true, false, false, false, false, false, false, false, false] (fun wz hw => St.tail [] hw) rfl (by kernel_rfl) (Y.loadB (v := .int .i64 x23.kind) Try.underlying3 rfl (.pl rfl) (i := 0) rfl (rfl)) rfl ?_
      refine WX.pure 10 #[true, true, true, true, true, true, true, true, true, true, true, false, false, false, false, false, false, false] rfl (by kernel_rfl) (fun _ _ => Y.fieldAddr0 (off := 2) (ft := 3) Try.underlying58 rfl cells3 (.pl rfl)) rfl ?_
      refine WX.take 11 #[true, true, true, true, true, true, true, true, true, true, true, true, false, false, false, false, false, false] (fun wz hw => St.tail [] hw) rfl (by kernel_rfl) (Y.loadB (v := .int .i64 x23.arg) Try.underlying3 rfl (.pl rfl) (i := 0) rfl (rfl)) rfl ?_
      refine WX.pure 12 #[true, true, true, true, true, true, true, true, true, true, true, true, true, false, false, false, false, false] rfl (by kernel_rfl) (fun _ _ => Y.build (cs := (encEvent (Event.mk who21 x23.thing x23.kind x23.arg)).toArray) shape34 (.cons (.pl rfl) (.cons (.pl rfl) (.cons (.pl rfl) (.cons (.pl rfl) (.nil))))) (one_parts ⟨rfl, ⟨rfl, ⟨rfl, ⟨rfl, trivial⟩⟩⟩⟩) rfl) rfl ?_
      refine WX.one 13 #[true, true, true, true, true, true, true, true, true, true, true, true, true, true, false, false, false, false] (fun wz hw => St.tail [] hw) rfl (by kernel_rfl) (WO.bsliceC (enc := encEvent) (ys := ([(Event.mk who21 x23.thing x23.kind x23.arg)] : List Event)) Try.underlying26 bz34 (.cons (.pl rfl) (.nil)) rfl lenEvent rfl rfl (by decide) (by decide) rfl fun b25 => ?_)
      obtain ⟨hk28, hF⟩ := ckh hF
      refine WX.stop #[true, true, true, true, true, true, true, true, true, true, true, true, true, true, true, false, false, false] (fun wz hw => St.tail [_] hw) rfl (by kernel_rfl) (WO.appendC (enc := encEvent) Try.underlying26 ap34 lenEvent oneEvent (.pl rfl) rfl (.pl rfl) (i := 5) rfl (m2 := 0) rfl (hk28) rfl fun A26 c27 => ?_)
      refine WA.take 15 #[true, true, true, true, true, true, true, true, true, true, true, true, true, true, true, true, false, false] rfl (by kernel_rfl) (fun _ _ => Y.nilCheck (.pl rfl)) rfl ?_
      refine WA.take 16 #[true, true, true, true, true, true, true, true, true, true, true, true, true, true, true, true, true, false] rfl (by kernel_rfl) (fun _ _ => Y.fieldAddr0 (off := 3) (ft := 26) Try.underlying145 rfl cells26 (.pl rfl)) rfl ?_
      refine WA.branch [17] (by kernel_rfl) ⟨?_, trivial⟩
      refine WI.step #[true, true, true, true, true, true, true, true, true, true, true, true, true, true, true, true, true, true] rfl rfl (WO.storeB (cs' := (Value.slice A3 (types2).length c4 :: (Value.slice A6 (states8).length c7 :: (Value.slice A10 (people12).length c11 :: (Value.slice A26 ((events16 ++ ([(Event.mk who21 x23.thing x23.kind x23.arg)] : List Event))).length c27 :: (Value.slice A17 (steps19).length c18 :: (Value.int .i64 calls20 :: []))))))) cells26 (.pl rfl) (.pl rfl) rfl (i := 2) rfl (ltl (m := 6) (by decide) rfl) (rfl) ?_)
      refine WA.done (by kernel_rfl) ?_
      refine KK.next hK8 (.cons (i := 0) rfl (.cons (i := 4) rfl (.nil))) ?_
      -- region 5: threads.go:75
      refine W.seqR fun Q10 hQ10 => ?_
      refine WL.q (Y.move (.pl rfl)) rfl ?_
      refine WL.q (Y.move (.pl rfl)) rfl ?_
      refine WL.q (Y.move (.pl rfl)) rfl ?_
      refine WL.q (Y.move (.pl rfl)) rfl ?_
      refine WL.q (Y.nilCheck (.pl rfl)) rfl ?_
      refine WL.q (Y.fieldAddr0 (off := 5) (ft := 3) Try.underlying145 rfl cells3 (.pl rfl)) rfl ?_
      refine WL.q (Y.loadB (v := .int .i64 calls20) Try.underlying3 rfl (.pl rfl) (i := 2) rfl (rfl)) rfl ?_
      refine WL.q (Y.nilCheck (.pl rfl)) rfl ?_
      refine WL.q (Y.nField (off := 1) (ft := 4) Try.underlying149 rfl cells4 (i' := 4) rfl (ix_lt (hx22)) (.pl rfl)) rfl ?_
      refine WL.step (WO.storeN0 (enc := encNThreadsProcess) (inn := (innNThreadsProcess w0)) (h0 := ((none, 0) : Hd)) (a := (ThreadsProcess.mk x22.program x22.pending x22.call x22.done x22.failed x22.res)) (a' := (ThreadsProcess.mk x22.program true x22.call x22.done x22.failed x22.res)) (idx := who21) (j := 1) cells4 (.pl rfl) (.pl rfl) rfl lenNThreadsProcess (i := 4) rfl (ix_get (hx22)) rfl (by decide) rfl rfl ?_)
      refine WL.q (Y.nilCheck (.pl rfl)) rfl ?_
      refine WL.q (Y.nField (off := 3) (ft := 4) Try.underlying149 rfl cells4 (i' := 0) rfl (⟨(ix_lt (hx22)).1, by simpa only [List.length_set] using (ix_lt (hx22)).2⟩) (.pl rfl)) rfl ?_
      refine WL.step (WO.storeN0 (enc := encNThreadsProcess) (inn := (innNThreadsProcess w0)) (h0 := ((none, 0) : Hd)) (a := (ThreadsProcess.mk x22.program true x22.call x22.done x22.failed x22.res)) (a' := (ThreadsProcess.mk x22.program true x22.call false x22.failed x22.res)) (idx := who21) (j := 3) cells4 (.pl rfl) (.pl rfl) rfl lenNThreadsProcess (i := 0) rfl (setget (ix_lt (hx22))) rfl (by decide) rfl rfl ?_)
      refine WL.q (Y.nilCheck (.pl rfl)) rfl ?_
      refine WL.q (Y.nField (off := 2) (ft := 3) Try.underlying149 rfl cells3 (i' := 0) rfl (⟨(ix_lt (hx22)).1, by simpa only [List.length_set] using (ix_lt (hx22)).2⟩) (.pl rfl)) rfl ?_
      refine WL.step (WO.storeN0 (enc := encNThreadsProcess) (inn := (innNThreadsProcess w0)) (h0 := ((none, 0) : Hd)) (a := (ThreadsProcess.mk x22.program true x22.call false x22.failed x22.res)) (a' := (ThreadsProcess.mk x22.program true calls20 false x22.failed x22.res)) (idx := who21) (j := 2) cells3 (.pl rfl) (.pl rfl) rfl lenNThreadsProcess (i := 0) rfl (setget (⟨(ix_lt (hx22)).1, by simpa only [List.length_set] using (ix_lt (hx22)).2⟩)) rfl (by decide) rfl rfl ?_)
      refine WL.next hQ10 (.cons (i := 0) rfl (.nil)) ?_
      -- region 6: threads.go:76
      refine W.know (fun wz hwz => bor_of (h0 := ((none, 0) : Hd)) (q := fun h a => SlIn encAsk 3 w0 (.slice h.1 a.program.length h.2) a.program) hwz (i := 0) rfl (fun _ _ => .head _)) (fun hbor12 => ?_)
      refine W.reg ?_
      refine WL.q (Y.move (.pl rfl)) rfl ?_
      refine WL.q (Y.nilCheck (.pl rfl)) rfl ?_
      refine WL.q (Y.fieldAddr0 (off := 5) (ft := 3) Try.underlying145 rfl cells3 (.pl rfl)) rfl ?_
      refine WL.q (Y.loadB (v := .int .i64 calls20) Try.underlying3 rfl (.pl rfl) (i := 3) rfl (rfl)) rfl ?_
      obtain ⟨hk29, hF⟩ := ckh hF
      refine WL.q (Y.add (.pl rfl) (.pl rfl) (ok64_lt (hk29))) rfl ?_
      refine WL.q (Y.nilCheck (.pl rfl)) rfl ?_
      refine WL.q (Y.fieldAddr0 (off := 5) (ft := 3) Try.underlying145 rfl cells3 (.pl rfl)) rfl ?_
      refine WL.step (WO.storeB (cs' := (Value.slice A3 (types2).length c4 :: (Value.slice A6 (states8).length c7 :: (Value.slice A10 (people12).length c11 :: (Value.slice A26 ((events16 ++ ([(Event.mk who21 x23.thing x23.kind x23.arg)] : List Event))).length c27 :: (Value.slice A17 (steps19).length c18 :: (Value.int .i64 (calls20 + 1) :: []))))))) cells3 (.pl rfl) (.pl rfl) rfl (i := 3) rfl (ltl (m := 6) (by decide) rfl) (rfl) ?_)
      refine WL.nil ?_
      obtain rfl := Option.some.inj hF
      refine W.endV (fn := Try.f75) (vs := []) Try.results75 trivial (fun _ _ h => h) (fun wz hw => ?_)
      exact hR _ _ ⟨(hd9, hd13, A26, c27, A17, c18), trivial, rfl, (St.cong (L := ([cBx b1 145 (Value.slice A3 (types2).length c4 :: (Value.slice A6 (states8).length c7 :: (Value.slice A10 (people12).length c11 :: (Value.slice A26 ((events16 ++ ([(Event.mk who21 x23.thing x23.kind x23.arg)] : List Event))).length c27 :: (Value.slice A17 (steps19).length c18 :: (Value.int .i64 (calls20 + 1) :: [])))))), cN encSl (innSl (eI .i64) 1 3) 1 A6 c7 47 hd9 states8, cN encNThreadsProcess (innNThreadsProcess w0) 6 A10 c11 149 hd13 (((people12.set who21.toNat (ThreadsProcess.mk x22.program true x22.call x22.done x22.failed x22.res)).set who21.toNat (ThreadsProcess.mk x22.program true x22.call false x22.failed x22.res)).set who21.toNat (ThreadsProcess.mk x22.program true calls20 false x22.failed x22.res)), cR encEvent 4 A26 c27 34 (events16 ++ ([(Event.mk who21 x23.thing x23.kind x23.arg)] : List Event)), cR encStep 2 A17 c18 77 steps19] ++ T)) (hw.pickK 7 [3, 4, 0, 5, 6] rfl) (by simp only [List.length_set, List.nil_append, List.cons_append]))⟩
    · replace hF := cneg hC6 hF
      -- region 7: threads.go:77
      refine W.seqR fun Q13 hQ13 => ?_
      refine WL.q (Y.move (.pl rfl)) rfl ?_
      refine WL.q (Y.nilCheck (.pl rfl)) rfl ?_
      refine WL.q (Y.nField (off := 3) (ft := 4) Try.underlying149 rfl cells4 (i' := 2) rfl (ix_lt (hx22)) (.pl rfl)) rfl ?_
      refine WL.q (Y.loadN (enc := encNThreadsProcess) (h0 := ((none, 0) : Hd)) (v := .bool x22.done) (a := (ThreadsProcess.mk x22.program x22.pending x22.call x22.done x22.failed x22.res)) (idx := who21) (j := 3) Try.underlying4 rfl lenNThreadsProcess (i := 2) rfl (.pl rfl) (ix_get (hx22)) rfl rfl) rfl ?_
      refine WL.q (Y.not (.pl rfl)) rfl ?_
      refine WL.q (Y.assign (.pl rfl)) rfl ?_
      refine WL.next hQ13 (.cons (i := 0) rfl (.cons (i := 1) rfl (.cons (i := 4) rfl (.cons (i := 79) rfl (.nil))))) ?_
      refine W.cond (.pl rfl) (fun hC14 => ?_) (fun hC14 => ?_)
      · replace hF := cpos hC14 hF
        -- region 8: threads.go:78
        refine W.seqR fun Q15 hQ15 => ?_
        refine WL.q (Y.move (.pl rfl)) rfl ?_
        refine WL.q (Y.nilCheck (.pl rfl)) rfl ?_
        refine WL.q (Y.nField (off := 0) (ft := 41) Try.underlying149 rfl cells41 (i' := 2) rfl (ix_lt (hx22)) (.pl rfl)) rfl ?_
        refine WL.q (Y.loadN (enc := encNThreadsProcess) (h0 := ((none, 0) : Hd)) (v := .slice (hd13.getD who21.toNat ((none, 0) : Hd)).1 (x22.program).length (hd13.getD who21.toNat ((none, 0) : Hd)).2) (a := (ThreadsProcess.mk x22.program x22.pending x22.call x22.done x22.failed x22.res)) (idx := who21) (j := 0) Try.underlying41 rfl lenNThreadsProcess (i := 2) rfl (.pl rfl) (ix_get (hx22)) rfl rfl) rfl ?_
        obtain ⟨x30, hx30, hF⟩ := bnd hF
        refine WL.q (Y.slEl Try.underlying41 cells58 (hbor2 _ _ (ix_get (hx22))) (.pl rfl) (.pl rfl) (ix_lt (hx30))) rfl ?_
        refine WL.q (Y.loadSA (enc := encAsk) (ds := (encAsk x30)) (j := 0) Try.underlying58 rfl cells58 (hbor2 _ _ (ix_get (hx22))) (.pl rfl) (hx30) rfl rfl subW) rfl ?_
        refine WL.step (WO.alloc (cs := (encAsk (Ask.mk 0 0 0)).toArray) zero58 rfl rfl fun b31 => ?_)
        refine WL.step (WO.storeBA (ds := (encAsk x30)) (cs' := (encAsk x30)) cells58 (.pl rfl) (.pl rfl) rfl (oneAsk _) (i := 0) rfl (lel (o := 0) (l := 3) (m := 3) (by decide) rfl rfl) (putW rfl) ?_)
        refine WL.next hQ15 (.cons (i := 0) rfl (.cons (i := 4) rfl (.cons (i := 6) rfl (.nil)))) ?_
        -- region 9: threads.go:79
        refine W.know (fun wz hw => n_okA0 hw (i := 3) rfl) (fun hok17 => ?_)
        refine W.seqX 27 (by kernel_rfl) fun K16 hK16 => ?_
        refine WX.pure 0 #[true, false, false, false, false, false, false, false, false, false, false, false, false, false, false, false, false, false, false, false, false, false, false, false, false, false, false, false] rfl (by kernel_rfl) (fun _ _ => Y.move (.pl rfl)) rfl ?_
        refine WX.pure 1 #[true, true, false, false, false, false, false, false, false, false, false, false, false, false, false, false, false, false, false, false, false, false, false, false, false, false, false, false] rfl (by kernel_rfl) (fun _ _ => Y.nilCheck (.pl rfl)) rfl ?_
        refine WX.pure 2 #[true, true, true, false, false, false, false, false, false, false, false, false, false, false, false, false, false, false, false, false, false, false, false, false, false, false, false, false] rfl (by kernel_rfl) (fun _ _ => Y.fieldAddr0 (off := 0) (ft := 47) Try.underlying145 rfl cells47 (.pl rfl)) rfl ?_
        refine WX.take 3 #[true, true, true, true, false, false, false, false, false, false, false, false, false, false, false, false, false, false, false, false, false, false, false, false, false, false, false, false] (fun wz hw => St.tail [] hw) rfl (by kernel_rfl) (Y.loadB (v := .slice A3 (types2).length c4) Try.underlying47 rfl (.pl rfl) (i := 1) rfl (rfl)) rfl ?_
        refine WX.pure 4 #[true, true, true, true, true, false, false, false, false, false, false, false, false, false, false, false, false, false, false, false, false, false, false, false, false, false, false, false] rfl (by kernel_rfl) (fun _ _ => Y.fieldAddr0 (off := 0) (ft := 3) Try.underlying58 rfl cells3 (.pl rfl)) rfl ?_
        refine WX.take 5 #[true, true, true, true, true, true, false, false, false, false, false, false, false, false, false, false, false, false, false, false, false, false, false, false, false, false, false, false] (fun wz hw => St.tail [] hw) rfl (by kernel_rfl) (Y.loadB (v := .int .i64 x30.thing) Try.underlying3 rfl (.pl rfl) (i := 0) rfl (rfl)) rfl ?_
        obtain ⟨x32, hx32, hF⟩ := bnd hF
        refine WX.take 6 #[true, true, true, true, true, true, true, false, false, false, false, false, false, false, false, false, false, false, false, false, false, false, false, false, false, false, false, false] (fun wz hw => St.tail [] hw) rfl (by kernel_rfl) (Y.slEl Try.underlying47 cells3 hs5 (.pl rfl) (.pl rfl) (ix_lt (hx32))) rfl ?_
        refine WX.take 7 #[true, true, true, true, true, true, true, true, false, false, false, false, false, false, false, false, false, false, false, false, false, false, false, false, false, false, false, false] (fun wz hw => St.tail [] hw) rfl (by kernel_rfl) (Y.loadS (enc := (eI .i64)) (v := .int .i64 x32) (j := 0) Try.underlying3 rfl hs5 (.pl rfl) (hx32) rfl rfl) rfl ?_
        refine WX.pure 8 #[true, true, true, true, true, true, true, true, true, false, false, false, false, false, false, false, false, false, false, false, false, false, false, false, false, false, false, false] rfl (by kernel_rfl) (fun _ _ => Y.move (.pl rfl)) rfl ?_
        refine WX.pure 9 #[true, true, true, true, true, true, true, true, true, true, false, false, false, false, false, false, false, false, false, false, false, false, false, false, false, false, false, false] rfl (by kernel_rfl) (fun _ _ => Y.nilCheck (.pl rfl)) rfl ?_
        refine WX.pure 10 #[true, true, true, true, true, true, true, true, true, true, true, false, false, false, false, false, false, false, false, false, false, false, false, false, false, false, false, false] rfl (by kernel_rfl) (fun _ _ => Y.fieldAddr0 (off := 1) (ft := 142) Try.underlying145 rfl cells142 (.pl rfl)) rfl ?_
        refine WX.take 11 #[true, true, true, true, true, true, true, true, true, true, true, true, false, false, false, false, false, false, false, false, false, false, false, false, false, false, false, false] (fun wz hw => St.tail [] hw) rfl (by kernel_rfl) (Y.loadB (v := .slice A6 (states8).length c7) Try.underlying142 rfl (.pl rfl) (i := 1) rfl (rfl)) rfl ?_
        refine WX.pure 12 #[true, true, true, true, true, true, true, true, true, true, true, true, true, false, false, false, false, false, false, false, false, false, false, false, false, false, false, false] rfl (by kernel_rfl) (fun _ _ => Y.fieldAddr0 (off := 0) (ft := 3) Try.underlying58 rfl cells3 (.pl rfl)) rfl ?_
        refine WX.take 13 #[true, true, true, true, true, true, true, true, true, true, true, true, true, true, false, false, false, false, false, false, false, false, false, false, false, false, false, false] (fun wz hw => St.tail [] hw) rfl (by kernel_rfl) (Y.loadB (v := .int .i64 x30.thing) Try.underlying3 rfl (.pl rfl) (i := 0) rfl (rfl)) rfl ?_
        obtain ⟨x33, hx33, hF⟩ := bnd hF
        refine WX.take 14 #[true, true, true, true, true, true, true, true, true, true, true, true, true, true, true, false, false, false, false, false, false, false, false, false, false, false, false, false] (fun wz hw => St.tail [] hw) rfl (by kernel_rfl) (Y.nEl Try.underlying142 cells47 (i := 2) rfl (.pl rfl) rfl (.pl rfl) (ix_lt (hx33))) rfl ?_
        refine WX.take 15 #[true, true, true, true, true, true, true, true, true, true, true, true, true, true, true, true, false, false, false, false, false, false, false, false, false, false, false, false] (fun wz hw => St.tail [] hw) rfl (by kernel_rfl) (Y.loadN (enc := encSl) (h0 := ((none, 0) : Hd)) (v := .slice (hd9.getD x30.thing.toNat ((none, 0) : Hd)).1 (x33).length (hd9.getD x30.thing.toNat ((none, 0) : Hd)).2) (a := x33) (idx := x30.thing) (j := 0) Try.underlying47 rfl lenSl (i := 2) rfl (.pl rfl) (ix_get (hx33)) rfl rfl) rfl ?_
        refine WX.pure 16 #[true, true, true, true, true, true, true, true, true, true, true, true, true, true, true, true, true, false, false, false, false, false, false, false, false, false, false, false] rfl (by kernel_rfl) (fun _ _ => Y.fieldAddr0 (off := 1) (ft := 3) Try.underlying58 rfl cells3 (.pl rfl)) rfl ?_
        refine WX.take 17 #[true, true, true, true, true, true, true, true, true, true, true, true, true, true, true, true, true, true, false, false, false, false, false, false, false, false, false, false] (fun wz hw => St.tail [] hw) rfl (by kernel_rfl) (Y.loadB (v := .int .i64 x30.kind) Try.underlying3 rfl (.pl rfl) (i := 0) rfl (rfl)) rfl ?_
        refine WX.pure 18 #[true, true, true, true, true, true, true, true, true, true, true, true, true, true, true, true, true, true, true, false, false, false, false, false, false, false, false, false] rfl (by kernel_rfl) (fun _ _ => Y.fieldAddr0 (off := 2) (ft := 3) Try.underlying58 rfl cells3 (.pl rfl)) rfl ?_
        refine WX.take 19 #[true, true, true, true, true, true, true, true, true, true, true, true, true, true, true, true, true, true, true, true, false, false, false, false, false, false, false, false] (fun wz hw => St.tail [] hw) rfl (by kernel_rfl) (Y.loadB (v := .int .i64 x30.arg) Try.underlying3 rfl (.pl rfl) (i := 0) rfl (rfl)) rfl ?_
        obtain ⟨r34, hr34, hF⟩ := bnd hF
        refine WX.one 20 #[true, true, true, true, true, true, true, true, true, true, true, true, true, true, true, true, true, true, true, true, true, false, false, false, false, false, false, false] (fun wz hw => St.tail [] hw) rfl (by kernel_rfl) (WO.callM isGo110 (.cons (.pl rfl) (.cons (.pl rfl) (.cons (.pl rfl) (.cons (.pl rfl) (.nil))))) rfl (fun wz hw => object_Step_ok (hr34) wz (SlIn.inN (enc2 := (eI .i64)) (sz2 := 1) (E2 := 3) (h0 := ((none, 0) : Hd)) (fun _ => rfl) hw (i := 2) rfl (hx33) (.head _))) ?_)
        rintro ⟨A35, c36⟩ -
        refine WX.pure 21 #[true, true, true, true, true, true, true, true, true, true, true, true, true, true, true, true, true, true, true, true, true, true, false, false, false, false, false, false] rfl (by kernel_rfl) (fun _ _ => Y.move (.pl rfl)) rfl ?_
        refine WX.pure 22 #[true, true, true, true, true, true, true, true, true, true, true, true, true, true, true, true, true, true, true, true, true, true, true, false, false, false, false, false] rfl (by kernel_rfl) (fun _ _ => Y.extract (.pl rfl) rfl) rfl ?_
        refine WX.pure 23 #[true, true, true, true, true, true, true, true, true, true, true, true, true, true, true, true, true, true, true, true, true, true, true, true, false, false, false, false] rfl (by kernel_rfl) (fun _ _ => Y.extract (.pl rfl) rfl) rfl ?_
        refine WX.pure 24 #[true, true, true, true, true, true, true, true, true, true, true, true, true, true, true, true, true, true, true, true, true, true, true, true, true, false, false, false] rfl (by kernel_rfl) (fun _ _ => Y.extract (.pl rfl) rfl) rfl ?_
        refine WX.pure 25 #[true, true, true, true, true, true, true, true, true, true, true, true, true, true, true, true, true, true, true, true, true, true, true, true, true, true, false, false] rfl (by kernel_rfl) (fun _ _ => Y.assign (.pl rfl)) rfl ?_
        refine WX.pure 26 #[true, true, true, true, true, true, true, true, true, true, true, true, true, true, true, true, true, true, true, true, true, true, true, true, true, true, true, false] rfl (by kernel_rfl) (fun _ _ => Y.assign (.pl rfl)) rfl ?_
        refine WX.stop #[true, true, true, true, true, true, true, true, true, true, true, true, true, true, true, true, true, true, true, true, true, true, true, true, true, true, true, true] (fun wz hw => St.tail [_] hw) rfl (by kernel_rfl) (WO.q (Y.assign (.pl rfl)) rfl ?_)
        refine WA.done (by kernel_rfl) ?_
        refine KK.next hK16 (.cons (i := 0) rfl (.cons (i := 4) rfl (.cons (i := 6) rfl (.cons (i := 7) rfl (.cons (i := 8) rfl (.cons (i := 9) rfl (.nil))))))) ?_
        -- region 10: threads.go:80
        refine W.seqR fun Q18 hQ18 => ?_
        refine WL.q (Y.move (.pl rfl)) rfl ?_
        refine WL.q (Y.move (.pl rfl)) rfl ?_
        refine WL.q (Y.move (.pl rfl)) rfl ?_
        refine WL.q (Y.move (.pl rfl)) rfl ?_
        refine WL.q (Y.neq (.pl rfl) (.pl rfl)) rfl ?_
        refine WL.q (Y.move (.pl rfl)) rfl ?_
        refine WL.q (Y.nilCheck (.pl rfl)) rfl ?_
        refine WL.q (Y.nField (off := 3) (ft := 4) Try.underlying149 rfl cells4 (i' := 4) rfl (ix_lt (hx22)) (.pl rfl)) rfl ?_
        refine WL.step (WO.storeN0 (enc := encNThreadsProcess) (inn := (innNThreadsProcess w0)) (h0 := ((none, 0) : Hd)) (a := (ThreadsProcess.mk x22.program x22.pending x22.call x22.done x22.failed x22.res)) (a' := (ThreadsProcess.mk x22.program x22.pending x22.call true x22.failed x22.res)) (idx := who21) (j := 3) cells4 (.pl rfl) (.pl rfl) rfl lenNThreadsProcess (i := 4) rfl (ix_get (hx22)) rfl (by decide) rfl rfl ?_)
        refine WL.q (Y.nilCheck (.pl rfl)) rfl ?_
        refine WL.q (Y.nField (off := 4) (ft := 4) Try.underlying149 rfl cells4 (i' := 0) rfl (⟨(ix_lt (hx22)).1, by simpa only [List.length_set] using (ix_lt (hx22)).2⟩) (.pl rfl)) rfl ?_
        refine WL.step (WO.storeN0 (enc := encNThreadsProcess) (inn := (innNThreadsProcess w0)) (h0 := ((none, 0) : Hd)) (a := (ThreadsProcess.mk x22.program x22.pending x22.call true x22.failed x22.res)) (a' := (ThreadsProcess.mk x22.program x22.pending x22.call true (!(decide (r34.2.2 = 0))) x22.res)) (idx := who21) (j := 4) cells4 (.pl rfl) (.pl rfl) rfl lenNThreadsProcess (i := 0) rfl (setget (ix_lt (hx22))) rfl (by decide) rfl rfl ?_)
        refine WL.q (Y.nilCheck (.pl rfl)) rfl ?_
        refine WL.q (Y.nField (off := 5) (ft := 3) Try.underlying149 rfl cells3 (i' := 0) rfl (⟨(ix_lt (hx22)).1, by simpa only [List.length_set] using (ix_lt (hx22)).2⟩) (.pl rfl)) rfl ?_
        refine WL.step (WO.storeN0 (enc := encNThreadsProcess) (inn := (innNThreadsProcess w0)) (h0 := ((none, 0) : Hd)) (a := (ThreadsProcess.mk x22.program x22.pending x22.call true (!(decide (r34.2.2 = 0))) x22.res)) (a' := (ThreadsProcess.mk x22.program x22.pending x22.call true (!(decide (r34.2.2 = 0))) r34.2.1)) (idx := who21) (j := 5) cells3 (.pl rfl) (.pl rfl) rfl lenNThreadsProcess (i := 0) rfl (setget (⟨(ix_lt (hx22)).1, by simpa only [List.length_set] using (ix_lt (hx22)).2⟩)) rfl (by decide) rfl rfl ?_)
        refine WL.next hQ18 (.cons (i := 0) rfl (.cons (i := 4) rfl (.cons (i := 6) rfl (.cons (i := 7) rfl (.cons (i := 8) rfl (.cons (i := 9) rfl (.nil))))))) ?_
        -- region 11: threads.go:81
        refine W.know (fun wz hwz => bor_of (h0 := ((none, 0) : Hd)) (q := fun h a => SlIn encAsk 3 w0 (.slice h.1 a.program.length h.2) a.program) hwz (i := 0) rfl (fun _ _ => .head _)) (fun hbor20 => ?_)
        refine W.seqR fun Q19 hQ19 => ?_
        refine WL.q (Y.move (.pl rfl)) rfl ?_
        refine WL.q (Y.eql (.pl rfl) (.pl rfl)) rfl ?_
        refine WL.next hQ19 (.cons (i := 0) rfl (.cons (i := 4) rfl (.cons (i := 6) rfl (.cons (i := 7) rfl (.cons (i := 8) rfl (.cons (i := 129) rfl (.nil))))))) ?_
        refine W.cond (.pl rfl) (fun hC21 => ?_) (fun hC21 => ?_)
        · replace hF := cpos hC21 hF
          -- region 12: threads.go:82
          refine W.seqT 8 (by kernel_rfl) (by kernel_rfl) fun Q22 hQ22 => ?_
          refine WS.q (Y.move (.pl rfl)) rfl ?_
          refine WS.q (Y.nilCheck (.pl rfl)) rfl ?_
          refine WS.q (Y.fieldAddr0 (off := 1) (ft := 142) Try.underlying145 rfl cells142 (.pl rfl)) rfl ?_
          refine WS.q (Y.loadB (v := .slice A6 (states8).length c7) Try.underlying142 rfl (.pl rfl) (i := 3) rfl (rfl)) rfl ?_
          refine WS.q (Y.fieldAddr0 (off := 0) (ft := 3) Try.underlying58 rfl cells3 (.pl rfl)) rfl ?_
          refine WS.q (Y.loadB (v := .int .i64 x30.thing) Try.underlying3 rfl (.pl rfl) (i := 2) rfl (rfl)) rfl ?_
          refine WS.q (Y.move (.pl rfl)) rfl ?_
          refine WS.q (Y.nEl Try.underlying142 cells47 (i := 4) rfl (.pl rfl) rfl (.pl rfl) (ix_lt (hx33))) rfl ?_
          refine WS.tail ?_
          refine WL.ent (Ent.hole (h0 := ((none, 0) : Hd)) (i := 4) rfl (ix_get (hx33))) ?_
          refine WL.step (WO.storeH (enc := encSl) (inn := (innSl (eI .i64) 1 3)) (h0 := ((none, 0) : Hd)) (h' := ((A35, c36) : Hd)) (a := x33) (a' := r34.1) (idx := x30.thing) (j := 0) cells47 (.pl rfl) (.pl rfl) rfl lenSl (i := 1) rfl (ix_get (hx33)) rfl (by decide) rfl (.pickN 7 [2, 0, 1, 3, 4, 5, 6] rfl) ?_)
          refine WL.next hQ22 (.cons (i := 0) rfl (.cons (i := 4) rfl (.cons (i := 8) rfl (.nil)))) ?_
          -- region 13: threads.go:83
          refine W.know (fun wz hw => n_okA0 hw (i := 2) rfl) (fun hok24 => ?_)
          refine W.regX 12 (by kernel_rfl) ?_
          refine WX.pure 0 #[true, false, false, false, false, false, false, false, false, false, false, false, false, false, false, false] rfl (by kernel_rfl) (fun _ _ => Y.move (.pl rfl)) rfl ?_
          refine WX.pure 1 #[true, true, false, false, false, false, false, false, false, false, false, false, false, false, false, false] rfl (by kernel_rfl) (fun _ _ => Y.move (.pl rfl)) rfl ?_
          refine WX.pure 2 #[true, true, true, false, false, false, false, false, false, false, false, false, false, false, false, false] rfl (by kernel_rfl) (fun _ _ => Y.nilCheck (.pl rfl)) rfl ?_
          refine WX.pure 3 #[true, true, true, true, false, false, false, false, false, false, false, false, false, false, false, false] rfl (by kernel_rfl) (fun _ _ => Y.fieldAddr0 (off := 4) (ft := 53) Try.underlying145 rfl cells53 (.pl rfl)) rfl ?_
          refine WX.take 4 #[true, true, true, true, true, false, false, false, false, false, false, false, false, false, false, false] (fun wz hw => St.tail [] hw) rfl (by kernel_rfl) (Y.loadB (v := .slice A17 (steps19).length c18) Try.underlying53 rfl (.pl rfl) (i := 4) rfl (rfl)) rfl ?_
          refine WX.pure 5 #[true, true, true, true, true, true, false, false, false, false, false, false, false, false, false, false] rfl (by kernel_rfl) (fun _ _ => Y.move (.pl rfl)) rfl ?_
          refine WX.pure 6 #[true, true, true, true, true, true, true, false, false, false, false, false, false, false, false, false] rfl (by kernel_rfl) (fun _ _ => Y.nilCheck (.pl rfl)) rfl ?_
          refine WX.take 7 #[true, true, true, true, true, true, true, true, false, false, false, false, false, false, false, false] (fun wz hw => St.tail [] hw) rfl (by kernel_rfl) (Y.okField (off := 2) (ft := 3) Try.underlying149 rfl cells3 hok24 (by have := (ix_lt (hx22)); have e1 : (people12).length = ((((people12.set who21.toNat (ThreadsProcess.mk x22.program x22.pending x22.call true x22.failed x22.res)).set who21.toNat (ThreadsProcess.mk x22.program x22.pending x22.call true (!(decide (r34.2.2 = 0))) x22.res)).set who21.toNat (ThreadsProcess.mk x22.program x22.pending x22.call true (!(decide (r34.2.2 = 0))) r34.2.1))).length := (by simp only [List.length_set]); omega) (.pl rfl)) rfl ?_
          refine WX.take 8 #[true, true, true, true, true, true, true, true, true, false, false, false, false, false, false, false] (fun wz hw => St.tail [] hw) rfl (by kernel_rfl) (Y.loadN (enc := encNThreadsProcess) (h0 := ((none, 0) : Hd)) (v := .int .i64 x22.call) (a := (ThreadsProcess.mk x22.program x22.pending x22.call true (!(decide (r34.2.2 = 0))) r34.2.1)) (idx := who21) (j := 2) Try.underlying3 rfl lenNThreadsProcess (i := 2) rfl (.pl rfl) (setget (⟨(ix_lt (hx22)).1, by simpa only [List.length_set] using (ix_lt (hx22)).2⟩)) rfl rfl) rfl ?_
          refine WX.pure 9 #[true, true, true, true, true, true, true, true, true, true, false, false, false, false, false, false] rfl (by kernel_rfl) (fun _ _ => Y.move (.pl rfl)) rfl ?_
          refine WX.pure 10 #[true, true, true, true, true, true, true, true, true, true, true, false, false, false, false, false] rfl (by kernel_rfl) (fun _ _ => Y.build (cs := (encStep (Step.mk x22.call r34.2.1)).toArray) shape77 (.cons (.pl rfl) (.cons (.pl rfl) (.nil))) (one_parts ⟨rfl, ⟨rfl, trivial⟩⟩) rfl) rfl ?_
          refine WX.one 11 #[true, true, true, true, true, true, true, true, true, true, true, true, false, false, false, false] (fun wz hw => St.tail [] hw) rfl (by kernel_rfl) (WO.bsliceC (enc := encStep) (ys := ([(Step.mk x22.call r34.2.1)] : List Step)) Try.underlying53 bz77 (.cons (.pl rfl) (.nil)) rfl lenStep rfl rfl (by decide) (by decide) rfl fun b37 => ?_)
          obtain ⟨hk40, hF⟩ := ckh hF
          refine WX.stop #[true, true, true, true, true, true, true, true, true, true, true, true, true, false, false, false] (fun wz hw => St.tail [_] hw) rfl (by kernel_rfl) (WO.appendC (enc := encStep) Try.underlying53 ap77 lenStep oneStep (.pl rfl) rfl (.pl rfl) (i := 7) rfl (m2 := 0) rfl (hk40) rfl fun A38 c39 => ?_)
          refine WA.take 13 #[true, true, true, true, true, true, true, true, true, true, true, true, true, true, false, false] rfl (by kernel_rfl) (fun _ _ => Y.nilCheck (.pl rfl)) rfl ?_
          refine WA.take 14 #[true, true, true, true, true, true, true, true, true, true, true, true, true, true, true, false] rfl (by kernel_rfl) (fun _ _ => Y.fieldAddr0 (off := 4) (ft := 53) Try.underlying145 rfl cells53 (.pl rfl)) rfl ?_
          refine WA.branch [15] (by kernel_rfl) ⟨?_, trivial⟩
          refine WI.step #[true, true, true, true, true, true, true, true, true, true, true, true, true, true, true, true] rfl rfl (WO.storeB (cs' := (Value.slice A3 (types2).length c4 :: (Value.slice A6 (states8).length c7 :: (Value.slice A10 (people12).length c11 :: (Value.slice A14 (events16).length c15 :: (Value.slice A38 ((steps19 ++ ([(Step.mk x22.call r34.2.1)] : List Step))).length c39 :: (Value.int .i64 calls20 :: []))))))) cells53 (.pl rfl) (.pl rfl) rfl (i := 5) rfl (ltl (m := 6) (by decide) rfl) (rfl) ?_)
          refine WA.done (by kernel_rfl) ?_
          obtain rfl := Option.some.inj hF
          refine W.endV (fn := Try.f75) (vs := []) Try.results75 trivial (fun _ _ h => h) (fun wz hw => ?_)
          exact hR _ _ ⟨((hd9.set x30.thing.toNat ((A35, c36) : Hd)), hd13, A14, c15, A38, c39), trivial, rfl, (St.cong (L := ([cBx b1 145 (Value.slice A3 (types2).length c4 :: (Value.slice A6 (states8).length c7 :: (Value.slice A10 (people12).length c11 :: (Value.slice A14 (events16).length c15 :: (Value.slice A38 ((steps19 ++ ([(Step.mk x22.call r34.2.1)] : List Step))).length c39 :: (Value.int .i64 calls20 :: [])))))), cN encSl (innSl (eI .i64) 1 3) 1 A6 c7 47 (hd9.set x30.thing.toNat ((A35, c36) : Hd)) (states8.set x30.thing.toNat r34.1), cN encNThreadsProcess (innNThreadsProcess w0) 6 A10 c11 149 hd13 (((people12.set who21.toNat (ThreadsProcess.mk x22.program x22.pending x22.call true x22.failed x22.res)).set who21.toNat (ThreadsProcess.mk x22.program x22.pending x22.call true (!(decide (r34.2.2 = 0))) x22.res)).set who21.toNat (ThreadsProcess.mk x22.program x22.pending x22.call true (!(decide (r34.2.2 = 0))) r34.2.1)), cR encEvent 4 A14 c15 34 events16, cR encStep 2 A38 c39 77 (steps19 ++ ([(Step.mk x22.call r34.2.1)] : List Step))] ++ T)) (hw.pickK 8 [5, 1, 3, 6, 7] rfl) (by simp only [List.length_set, List.nil_append, List.cons_append]))⟩
        · replace hF := cneg hC21 hF
          refine W.skip ?_
          obtain rfl := Option.some.inj hF
          refine W.endV (fn := Try.f75) (vs := []) Try.results75 trivial (fun _ _ h => h) (fun wz hw => ?_)
          exact hR _ _ ⟨(hd9, hd13, A14, c15, A17, c18), trivial, rfl, (St.cong (L := ([cBx b1 145 (Value.slice A3 (types2).length c4 :: (Value.slice A6 (states8).length c7 :: (Value.slice A10 (people12).length c11 :: (Value.slice A14 (events16).length c15 :: (Value.slice A17 (steps19).length c18 :: (Value.int .i64 calls20 :: [])))))), cN encSl (innSl (eI .i64) 1 3) 1 A6 c7 47 hd9 states8, cN encNThreadsProcess (innNThreadsProcess w0) 6 A10 c11 149 hd13 (((people12.set who21.toNat (ThreadsProcess.mk x22.program x22.pending x22.call true x22.failed x22.res)).set who21.toNat (ThreadsProcess.mk x22.program x22.pending x22.call true (!(decide (r34.2.2 = 0))) x22.res)).set who21.toNat (ThreadsProcess.mk x22.program x22.pending x22.call true (!(decide (r34.2.2 = 0))) r34.2.1)), cR encEvent 4 A14 c15 34 events16, cR encStep 2 A17 c18 77 steps19] ++ T)) (hw.pickK 7 [3, 4, 0, 5, 6] rfl) (by simp only [List.length_set, List.nil_append, List.cons_append]))⟩
      · replace hF := cneg hC14 hF
        -- region 14: threads.go:85
        refine W.seqR fun Q25 hQ25 => ?_
        refine WL.q (Y.move (.pl rfl)) rfl ?_
        refine WL.q (Y.nilCheck (.pl rfl)) rfl ?_
        refine WL.q (Y.nField (off := 4) (ft := 4) Try.underlying149 rfl cells4 (i' := 2) rfl (ix_lt (hx22)) (.pl rfl)) rfl ?_
        refine WL.q (Y.loadN (enc := encNThreadsProcess) (h0 := ((none, 0) : Hd)) (v := .bool x22.failed) (a := (ThreadsProcess.mk x22.program x22.pending x22.call x22.done x22.failed x22.res)) (idx := who21) (j := 4) Try.underlying4 rfl lenNThreadsProcess (i := 2) rfl (.pl rfl) (ix_get (hx22)) rfl rfl) rfl ?_
        refine WL.q (Y.not (.pl rfl)) rfl ?_
        refine WL.q (Y.assign (.pl rfl)) rfl ?_
        refine WL.next hQ25 (.cons (i := 0) rfl (.cons (i := 1) rfl (.cons (i := 4) rfl (.cons (i := 153) rfl (.nil))))) ?_
        refine W.cond (.pl rfl) (fun hC26 => ?_) (fun hC26 => ?_)
        · replace hF := cpos hC26 hF
          -- region 15: threads.go:86
          refine W.know (fun wz hw => n_okA0 hw (i := 2) rfl) (fun hok28 => ?_)
          refine W.seqX 19 (by kernel_rfl) fun K27 hK27 => ?_
          refine WX.pure 0 #[true, false, false, false, false, false, false, false, false, false, false, false, false, false, false, false, false, false, false, false, false, false, false] rfl (by kernel_rfl) (fun _ _ => Y.move (.pl rfl)) rfl ?_
          refine WX.pure 1 #[true, true, false, false, false, false, false, false, false, false, false, false, false, false, false, false, false, false, false, false, false, false, false] rfl (by kernel_rfl) (fun _ _ => Y.move (.pl rfl)) rfl ?_
          refine WX.pure 2 #[true, true, true, false, false, false, false, false, false, false, false, false, false, false, false, false, false, false, false, false, false, false, false] rfl (by kernel_rfl) (fun _ _ => Y.nilCheck (.pl rfl)) rfl ?_
          refine WX.pure 3 #[true, true, true, true, false, false, false, false, false, false, false, false, false, false, false, false, false, false, false, false, false, false, false] rfl (by kernel_rfl) (fun _ _ => Y.fieldAddr0 (off := 3) (ft := 26) Try.underlying145 rfl cells26 (.pl rfl)) rfl ?_
          refine WX.take 4 #[true, true, true, true, true, false, false, false, false, false, false, false, false, false, false, false, false, false, false, false, false, false, false] (fun wz hw => St.tail [] hw) rfl (by kernel_rfl) (Y.loadB (v := .slice A14 (events16).length c15) Try.underlying26 rfl (.pl rfl) (i := 0) rfl (rfl)) rfl ?_
          refine WX.pure 5 #[true, true, true, true, true, true, false, false, false, false, false, false, false, false, false, false, false, false, false, false, false, false, false] rfl (by kernel_rfl) (fun _ _ => Y.move (.pl rfl)) rfl ?_
          refine WX.pure 6 #[true, true, true, true, true, true, true, false, false, false, false, false, false, false, false, false, false, false, false, false, false, false, false] rfl (by kernel_rfl) (fun _ _ => Y.move (.pl rfl)) rfl ?_
          refine WX.pure 7 #[true, true, true, true, true, true, true, true, false, false, false, false, false, false, false, false, false, false, false, false, false, false, false] rfl (by kernel_rfl) (fun _ _ => Y.nilCheck (.pl rfl)) rfl ?_
          refine WX.take 8 #[true, true, true, true, true, true, true, true, true, false, false, false, false, false, false, false, false, false, false, false, false, false, false] (fun wz hw => St.tail [] hw) rfl (by kernel_rfl) (Y.okField (off := 0) (ft := 41) Try.underlying149 rfl cells41 hok28 (by have := (ix_lt (hx22)); omega) (.pl rfl)) rfl ?_
          refine WX.take 9 #[true, true, true, true, true, true, true, true, true, true, false, false, false, false, false, false, false, false, false, false, false, false, false] (fun wz hw => St.tail [] hw) rfl (by kernel_rfl) (Y.loadN (enc := encNThreadsProcess) (h0 := ((none, 0) : Hd)) (v := .slice (hd13.getD who21.toNat ((none, 0) : Hd)).1 (x22.program).length (hd13.getD who21.toNat ((none, 0) : Hd)).2) (a := (ThreadsProcess.mk x22.program x22.pending x22.call x22.done x22.failed x22.res)) (idx := who21) (j := 0) Try.underlying41 rfl lenNThreadsProcess (i := 2) rfl (.pl rfl) (ix_get (hx22)) rfl rfl) rfl ?_
          obtain ⟨x41, hx41, hF⟩ := bnd hF
          refine WX.take 10 #[true, true, true, true, true, true, true, true, true, true, true, false, false, false, false, false, false, false, false, false, false, false, false] (fun wz hw => St.tail [] hw) rfl (by kernel_rfl) (Y.slEl Try.underlying41 cells58 (hbor2 _ _ (ix_get (hx22))) (.pl rfl) (.pl rfl) (ix_lt (hx41))) rfl ?_
          refine WX.pure 11 #[true, true, true, true, true, true, true, true, true, true, true, true, false, false, false, false, false, false, false, false, false, false, false] rfl (by kernel_rfl) (fun _ _ => Y.slField (off := 0) (ft := 3) Try.underlying58 rfl cells3 ((hbor2 _ _ (ix_get (hx22)))) (ix_lt (hx41)) (.pl rfl)) rfl ?_
          refine WX.take 12 #[true, true, true, true, true, true, true, true, true, true, true, true, true, false, false, false, false, false, false, false, false, false, false] (fun wz hw => St.tail [] hw) rfl (by kernel_rfl) (Y.loadS (enc := encAsk) (v := .int .i64 x41.thing) (j := 0) Try.underlying3 rfl (hbor2 _ _ (ix_get (hx22))) (.pl rfl) (hx41) rfl rfl) rfl ?_
          refine WX.pure 13 #[true, true, true, true, true, true, true, true, true, true, true, true, true, true, false, false, false, false, false, false, false, false, false] rfl (by kernel_rfl) (fun _ _ => Y.move (.pl rfl)) rfl ?_
          refine WX.pure 14 #[true, true, true, true, true, true, true, true, true, true, true, true, true, true, true, false, false, false, false, false, false, false, false] rfl (by kernel_rfl) (fun _ _ => Y.nilCheck (.pl rfl)) rfl ?_
          refine WX.take 15 #[true, true, true, true, true, true, true, true, true, true, true, true, true, true, true, true, false, false, false, false, false, false, false] (fun wz hw => St.tail [] hw) rfl (by kernel_rfl) (Y.okField (off := 5) (ft := 3) Try.underlying149 rfl cells3 hok28 (by have := (ix_lt (hx22)); omega) (.pl rfl)) rfl ?_
          refine WX.take 16 #[true, true, true, true, true, true, true, true, true, true, true, true, true, true, true, true, true, false, false, false, false, false, false] (fun wz hw => St.tail [] hw) rfl (by kernel_rfl) (Y.loadN (enc := encNThreadsProcess) (h0 := ((none, 0) : Hd)) (v := .int .i64 x22.res) (a := (ThreadsProcess.mk x22.program x22.pending x22.call x22.done x22.failed x22.res)) (idx := who21) (j := 5) Try.underlying3 rfl lenNThreadsProcess (i := 2) rfl (.pl rfl) (ix_get (hx22)) rfl rfl) rfl ?_
          refine WX.pure 17 #[true, true, true, true, true, true, true, true, true, true, true, true, true, true, true, true, true, true, false, false, false, false, false] rfl (by kernel_rfl) (fun _ _ => Y.build (cs := (encEvent (Event.mk who21 x41.thing 0 x22.res)).toArray) shape34 (.cons (.pl rfl) (.cons (.pl rfl) (.cons (.pl rfl) (.cons (.pl rfl) (.nil))))) (one_parts ⟨rfl, ⟨rfl, ⟨rfl, ⟨rfl, trivial⟩⟩⟩⟩) rfl) rfl ?_
          refine WX.one 18 #[true, true, true, true, true, true, true, true, true, true, true, true, true, true, true, true, true, true, true, false, false, false, false] (fun wz hw => St.tail [] hw) rfl (by kernel_rfl) (WO.bsliceC (enc := encEvent) (ys := ([(Event.mk who21 x41.thing 0 x22.res)] : List Event)) Try.underlying26 bz34 (.cons (.pl rfl) (.nil)) rfl lenEvent rfl rfl (by decide) (by decide) rfl fun b42 => ?_)
          obtain ⟨hk45, hF⟩ := ckh hF
          refine WX.stop #[true, true, true, true, true, true, true, true, true, true, true, true, true, true, true, true, true, true, true, true, false, false, false] (fun wz hw => St.tail [_] hw) rfl (by kernel_rfl) (WO.appendC (enc := encEvent) Try.underlying26 ap34 lenEvent oneEvent (.pl rfl) rfl (.pl rfl) (i := 4) rfl (m2 := 0) rfl (hk45) rfl fun A43 c44 => ?_)
          refine WA.take 20 #[true, true, true, true, true, true, true, true, true, true, true, true, true, true, true, true, true, true, true, true, true, false, false] rfl (by kernel_rfl) (fun _ _ => Y.nilCheck (.pl rfl)) rfl ?_
          refine WA.take 21 #[true, true, true, true, true, true, true, true, true, true, true, true, true, true, true, true, true, true, true, true, true, true, false] rfl (by kernel_rfl) (fun _ _ => Y.fieldAddr0 (off := 3) (ft := 26) Try.underlying145 rfl cells26 (.pl rfl)) rfl ?_
          refine WA.branch [22] (by kernel_rfl) ⟨?_, trivial⟩
          refine WI.step #[true, true, true, true, true, true, true, true, true, true, true, true, true, true, true, true, true, true, true, true, true, true, true] rfl rfl (WO.storeB (cs' := (Value.slice A3 (types2).length c4 :: (Value.slice A6 (states8).length c7 :: (Value.slice A10 (people12).length c11 :: (Value.slice A43 ((events16 ++ ([(Event.mk who21 x41.thing 0 x22.res)] : List Event))).length c44 :: (Value.slice A17 (steps19).length c18 :: (Value.int .i64 calls20 :: []))))))) cells26 (.pl rfl) (.pl rfl) rfl (i := 1) rfl (ltl (m := 6) (by decide) rfl) (rfl) ?_)
          refine WA.done (by kernel_rfl) ?_
          refine KK.next hK27 (.cons (i := 4) rfl (.nil)) ?_
          -- region 16: threads.go:87
          refine W.seqR fun Q29 hQ29 => ?_
          refine WL.q (Y.move (.pl rfl)) rfl ?_
          refine WL.q (Y.nilCheck (.pl rfl)) rfl ?_
          refine WL.q (Y.nField (off := 1) (ft := 4) Try.underlying149 rfl cells4 (i' := 3) rfl (ix_lt (hx22)) (.pl rfl)) rfl ?_
          refine WL.step (WO.storeN0 (enc := encNThreadsProcess) (inn := (innNThreadsProcess w0)) (h0 := ((none, 0) : Hd)) (a := (ThreadsProcess.mk x22.program x22.pending x22.call x22.done x22.failed x22.res)) (a' := (ThreadsProcess.mk x22.program false x22.call x22.done x22.failed x22.res)) (idx := who21) (j := 1) cells4 (.pl rfl) (.pl rfl) rfl lenNThreadsProcess (i := 3) rfl (ix_get (hx22)) rfl (by decide) rfl rfl ?_)
          refine WL.next hQ29 (.cons (i := 4) rfl (.nil)) ?_
          -- region 17: threads.go:88
          refine W.know (fun wz hwz => bor_of (h0 := ((none, 0) : Hd)) (q := fun h a => SlIn encAsk 3 w0 (.slice h.1 a.program.length h.2) a.program) hwz (i := 0) rfl (fun _ _ => .head _)) (fun hbor31 => ?_)
          refine W.reg ?_
          refine WL.q (Y.move (.pl rfl)) rfl ?_
          refine WL.q (Y.move (.pl rfl)) rfl ?_
          refine WL.q (Y.nilCheck (.pl rfl)) rfl ?_
          refine WL.q (Y.nField (off := 0) (ft := 41) Try.underlying149 rfl cells41 (i' := 0) rfl (⟨(ix_lt (hx22)).1, by simpa only [List.length_set] using (ix_lt (hx22)).2⟩) (.pl rfl)) rfl ?_
          refine WL.q (Y.loadN (enc := encNThreadsProcess) (h0 := ((none, 0) : Hd)) (v := .slice (hd13.getD who21.toNat ((none, 0) : Hd)).1 (x22.program).length (hd13.getD who21.toNat ((none, 0) : Hd)).2) (a := (ThreadsProcess.mk x22.program false x22.call x22.done x22.failed x22.res)) (idx := who21) (j := 0) Try.underlying41 rfl lenNThreadsProcess (i := 0) rfl (.pl rfl) (setget (ix_lt (hx22))) rfl rfl) rfl ?_
          obtain ⟨hk46, hF⟩ := ckh hF
          refine WL.q (Y.slice1 (xs := x22.program) Try.underlying41 cells58 (.pl rfl) rfl ((hbor2 _ _ (ix_get (hx22)))).cap_le (.pl rfl) (hk46)) rfl ?_
          refine WL.q (Y.nilCheck (.pl rfl)) rfl ?_
          refine WL.q (Y.nField (off := 0) (ft := 41) Try.underlying149 rfl cells41 (i' := 0) rfl (⟨(ix_lt (hx22)).1, by simpa only [List.length_set] using (ix_lt (hx22)).2⟩) (.pl rfl)) rfl ?_
          refine WL.step (WO.storeN (enc := encNThreadsProcess) (inn := (innNThreadsProcess w0)) (h0 := ((none, 0) : Hd)) (h' := (((subA (hd13.getD who21.toNat ((none, 0) : Hd)).1 (hd13.getD who21.toNat ((none, 0) : Hd)).2 (1 : Int).toNat 3), ((hd13.getD who21.toNat ((none, 0) : Hd)).2 - (1 : Int).toNat)) : Hd)) (a := (ThreadsProcess.mk x22.program false x22.call x22.done x22.failed x22.res)) (a' := (ThreadsProcess.mk (x22.program.drop (1 : Int).toNat) false x22.call x22.done x22.failed x22.res)) (idx := who21) (j := 0) cells41 (.pl rfl) (.pl rfl) rfl lenNThreadsProcess (i := 0) rfl (setget (ix_lt (hx22))) rfl (by decide) rfl (.trans (.drop (M := (innNThreadsProcess w0) _ _)) (.fact ((SlIn.sub1 (hbor2 _ _ (ix_get (hx22))) (slB_nat (hk46)).1)))) ?_)
          refine WL.nil ?_
          obtain rfl := Option.some.inj hF
          refine W.endV (fn := Try.f75) (vs := []) Try.results75 trivial (fun _ _ h => h) (fun wz hw => ?_)
          exact hR _ _ ⟨(hd9, (hd13.set who21.toNat (((subA (hd13.getD who21.toNat ((none, 0) : Hd)).1 (hd13.getD who21.toNat ((none, 0) : Hd)).2 (1 : Int).toNat 3), ((hd13.getD who21.toNat ((none, 0) : Hd)).2 - (1 : Int).toNat)) : Hd)), A43, c44, A17, c18), trivial, rfl, (St.cong (L := ([cBx b1 145 (Value.slice A3 (types2).length c4 :: (Value.slice A6 (states8).length c7 :: (Value.slice A10 (people12).length c11 :: (Value.slice A43 ((events16 ++ ([(Event.mk who21 x41.thing 0 x22.res)] : List Event))).length c44 :: (Value.slice A17 (steps19).length c18 :: (Value.int .i64 calls20 :: [])))))), cN encSl (innSl (eI .i64) 1 3) 1 A6 c7 47 hd9 states8, cN encNThreadsProcess (innNThreadsProcess w0) 6 A10 c11 149 (hd13.set who21.toNat (((subA (hd13.getD who21.toNat ((none, 0) : Hd)).1 (hd13.getD who21.toNat ((none, 0) : Hd)).2 (1 : Int).toNat 3), ((hd13.getD who21.toNat ((none, 0) : Hd)).2 - (1 : Int).toNat)) : Hd)) ((people12.set who21.toNat (ThreadsProcess.mk x22.program false x22.call x22.done x22.failed x22.res)).set who21.toNat (ThreadsProcess.mk (x22.program.drop (1 : Int).toNat) false x22.call x22.done x22.failed x22.res)), cR encEvent 4 A43 c44 34 (events16 ++ ([(Event.mk who21 x41.thing 0 x22.res)] : List Event)), cR encStep 2 A17 c18 77 steps19] ++ T)) (hw.pickK 6 [2, 3, 0, 4, 5] rfl) (by simp only [List.length_set, List.nil_append, List.cons_append]))⟩
        · replace hF := cneg hC26 hF
          refine W.skip ?_
          obtain rfl := Option.some.inj hF
          refine W.endV (fn := Try.f75) (vs := []) Try.results75 trivial (fun _ _ h => h) (fun wz hw => ?_)
          exact hR _ _ ⟨(hd9, hd13, A14, c15, A17, c18), trivial, rfl, (hw.pickK 5 [0, 1, 2, 3, 4] rfl)⟩

def threads_Play_L7 (N : Nat) (types1 : (List Int)) : ((List (List Int)) × Int) → Option (((List (List Int)) × Int) ⊕ (List (List Int)))
  | (states25, v27) =>
    cond (decide (v27 < ((types1).length : Int)))
      (bd (ix types1 v27) fun (x28 : Int) =>
      bd (object_Start N x28) fun (r29 : ((List Int) × Int)) =>
      ck (limB 24 ((states25).length + (([r29.1] : List (List Int))).length)) <|
      ck (ok64 (v27 + 1)) <|
      some (.inl ((states25 ++ ([r29.1] : List (List Int))), (v27 + 1))))
      (some (.inr states25))

def threads_Play_L9 (N : Nat) (people6 : (List (List Ask))) : ((List ThreadsProcess) × Int) → Option (((List ThreadsProcess) × Int) ⊕ (List ThreadsProcess))
  | (people43, v45) =>
    cond (decide (v45 < ((people6).length : Int)))
      (bd (ix people6 v45) fun (x46 : (List Ask)) =>
      ck (limB 56 ((people43).length + (([(ThreadsProcess.mk x46 false 0 false false 0)] : List ThreadsProcess)).length)) <|
      ck (ok64 (v45 + 1)) <|
      some (.inl ((people43 ++ ([(ThreadsProcess.mk x46 false 0 false false 0)] : List ThreadsProcess)), (v45 + 1))))
      (some (.inr people43))

def threads_Play_L11 (N : Nat) (turns11 : (List Int)) (types1 : (List Int)) : ((List (List Int)) × (List ThreadsProcess) × (List Event) × (List Step) × Int × Int) → Option (((List (List Int)) × (List ThreadsProcess) × (List Event) × (List Step) × Int × Int) ⊕ ((List (List Int)) × (List ThreadsProcess) × (List Event) × (List Step) × Int))
  | (states63, people65, events69, steps72, calls73, v74) =>
    cond (decide (v74 < ((turns11).length : Int)))
      (bd (ix turns11 v74) fun (x75 : Int) =>
      bd (threads_machine_turn N types1 states63 people65 events69 steps72 calls73 x75) fun (r76 : ((List (List Int)) × (List ThreadsProcess) × (List Event) × (List Step) × Int)) =>
      ck (ok64 (v74 + 1)) <|
      some (.inl (r76.1, r76.2.1, r76.2.2.1, r76.2.2.2.1, r76.2.2.2.2, (v74 + 1))))
      (some (.inr (states63, people65, events69, steps72, calls73)))

def threads_Play (N : Nat) (types1 : (List Int)) (people6 : (List (List Ask))) (turns11 : (List Int)) : Option ((List Event) × (List Step) × Int) :=
  bd (threads_Check N types1 people6) fun (r16 : Int) =>
  cond (!(decide (r16 = 0)))
    (some ([], [], r16))
    (bd (threads_Turns N ((people6).length : Int) 300 turns11) fun (r17 : Int) =>
    cond (!(decide (r17 = 0)))
      (some ([], [], r17))
      (bd (α := (List (List Int))) (iter (threads_Play_L7 N types1) N ([], 0)) <|
      fun (states21 : (List (List Int))) => 
        bd (α := (List ThreadsProcess)) (iter (threads_Play_L9 N people6) N ([], 0)) <|
        fun (people39 : (List ThreadsProcess)) => 
          bd (α := ((List (List Int)) × (List ThreadsProcess) × (List Event) × (List Step) × Int)) (iter (threads_Play_L11 N turns11 types1) N (states21, people39, [], [], 0, 0)) <|
          fun (states52, people54, events58, steps61, calls62) => 
            some (events58, steps61, 0)))

theorem threads_Play_ok {N : Nat} {types1 : (List Int)} {people6 : (List (List Ask))} {turns11 : (List Int)} {A7 : Option Addr} {c8 : Nat} {hd9 : List Hd} {res : ((List Event) × (List Step) × Int)} (hF : threads_Play N types1 people6 turns11 = some res) (w : World) {v5 : Value} (hs4 : SlIn (eI .i64) 1 w v5 types1) (hs10 : SlNN encAsk 3 w A7 c8 hd9 people6) {v15 : Value} (hs14 : SlIn (eI .i64) 1 w v15 turns11) :
    Made Try.prog 41 [v5, .slice A7 (people6).length c8, v15] w (fun g : (Option Addr × Nat × Option Addr × Nat) => .tuple #[.slice g.1 (res.1).length g.2.1, .slice g.2.2.1 (res.2.1).length g.2.2.2, .int .i64 res.2.2]) (fun g => [cR encEvent 4 g.1 g.2.1 34 res.1, cR encStep 2 g.2.2.1 g.2.2.2 77 res.2.1]) (fun g => True) := by
  obtain ⟨A2, c3, rfl, hcc3, hs4⟩ := hs4.form
  obtain ⟨A12, c13, rfl, hcc13, hs14⟩ := hs14.form
  refine W.enter (n := 94) Try.func41 rfl rfl Sub.refl (by simp) (St.start w) fun R hR => ?_
  unfold threads_Play at hF
  -- region 0: threads.go:93
  refine W.seqR fun Q1 hQ1 => ?_
  refine WL.q (Y.assign (.pl rfl)) rfl ?_
  refine WL.q (Y.assign (.pl rfl)) rfl ?_
  refine WL.q (Y.assign (.pl rfl)) rfl ?_
  refine WL.next hQ1 (.cons (i := 0) rfl (.cons (i := 1) rfl (.cons (i := 2) rfl (.nil)))) ?_
  refine W.seq fun K2 hK2 => ?_
  -- region 1: threads.go:94
  refine W.seqR fun Q3 hQ3 => ?_
  refine WL.q (Y.move (.pl rfl)) rfl ?_
  refine WL.q (Y.move (.pl rfl)) rfl ?_
  obtain ⟨r16, hr16, hF⟩ := bnd hF
  refine WL.step (WO.callP isGo63 (.cons (.pl rfl) (.cons (.pl rfl) (.nil))) rfl (fun wz hw => threads_Check_ok (hr16) wz (hs4.mono hw) (hs10.mono hw)) ?_)
  refine WL.q (Y.assign (.pl rfl)) rfl ?_
  refine WL.next hQ3 (.cons (i := 0) rfl (.cons (i := 1) rfl (.cons (i := 2) rfl (.cons (i := 9) rfl (.nil))))) ?_
  -- region 2: threads.go:94
  refine W.seqR fun Q4 hQ4 => ?_
  refine WL.q (Y.move (.pl rfl)) rfl ?_
  refine WL.q (Y.neq (.pl rfl) (.pl rfl)) rfl ?_
  refine WL.next hQ4 (.cons (i := 0) rfl (.cons (i := 1) rfl (.cons (i := 2) rfl (.cons (i := 9) rfl (.cons (i := 24) rfl (.nil)))))) ?_
  refine W.cond (.pl rfl) (fun hC5 => ?_) (fun hC5 => ?_)
  · replace hF := cpos hC5 hF
    -- region 3: threads.go:95
    refine W.seqR fun Q6 hQ6 => ?_
    refine WL.q (Y.move (.pl rfl)) rfl ?_
    refine WL.q (Y.assign (.pl rfl)) rfl ?_
    refine WL.q (Y.assign (.pl rfl)) rfl ?_
    refine WL.q (Y.assign (.pl rfl)) rfl ?_
    refine WL.next hQ6 (.cons (i := 6) rfl (.cons (i := 7) rfl (.cons (i := 8) rfl (.nil)))) ?_
    obtain rfl := Option.some.inj hF
    refine W.retV (fn := Try.f41) (vs := [.slice none 0 0, .slice none 0 0, .int .i64 r16]) Try.results41 ⟨.tmp rfl, ⟨.tmp rfl, ⟨.tmp rfl, trivial⟩⟩⟩ (fun _ _ h => h) (fun wz hw => ?_)
    exact hR _ _ ⟨(none, 0, none, 0), trivial, rfl, ((St.nilR (St.nilR (hw.pick [] rfl) encEvent 4 34) encStep 2 77).pick [1, 0] rfl)⟩
  · replace hF := cneg hC5 hF
    refine W.skip ?_
    refine W.go hK2 (.cons (i := 0) rfl (.cons (i := 1) rfl (.cons (i := 2) rfl (.nil)))) ?_
    refine W.seq fun K7 hK7 => ?_
    -- region 4: threads.go:97
    refine W.seqR fun Q8 hQ8 => ?_
    refine WL.q (Y.move (.pl rfl)) rfl ?_
    refine WL.q (Y.len Try.underlying22 (.pl rfl)) rfl ?_
    refine WL.q (Y.move (.pl rfl)) rfl ?_
    obtain ⟨r17, hr17, hF⟩ := bnd hF
    refine WL.step (WO.callP isGo64 (.cons (.pl rfl) (.cons (.pl rfl) (.cons (.pl rfl) (.nil)))) rfl (fun wz hw => threads_Turns_ok (hr17) wz (hs14.mono hw)) ?_)
    refine WL.q (Y.assign (.pl rfl)) rfl ?_
    refine WL.next hQ8 (.cons (i := 0) rfl (.cons (i := 1) rfl (.cons (i := 2) rfl (.cons (i := 10) rfl (.nil))))) ?_
    -- region 5: threads.go:97
    refine W.seqR fun Q9 hQ9 => ?_
    refine WL.q (Y.move (.pl rfl)) rfl ?_
    refine WL.q (Y.neq (.pl rfl) (.pl rfl)) rfl ?_
    refine WL.next hQ9 (.cons (i := 0) rfl (.cons (i := 1) rfl (.cons (i := 2) rfl (.cons (i := 10) rfl (.cons (i := 31) rfl (.nil)))))) ?_
    refine W.cond (.pl rfl) (fun hC10 => ?_) (fun hC10 => ?_)
    · replace hF := cpos hC10 hF
      -- region 6: threads.go:98
      refine W.seqR fun Q11 hQ11 => ?_
      refine WL.q (Y.move (.pl rfl)) rfl ?_
      refine WL.q (Y.assign (.pl rfl)) rfl ?_
      refine WL.q (Y.assign (.pl rfl)) rfl ?_
      refine WL.q (Y.assign (.pl rfl)) rfl ?_
      refine WL.next hQ11 (.cons (i := 6) rfl (.cons (i := 7) rfl (.cons (i := 8) rfl (.nil)))) ?_
      obtain rfl := Option.some.inj hF
      refine W.retV (fn := Try.f41) (vs := [.slice none 0 0, .slice none 0 0, .int .i64 r17]) Try.results41 ⟨.tmp rfl, ⟨.tmp rfl, ⟨.tmp rfl, trivial⟩⟩⟩ (fun _ _ h => h) (fun wz hw => ?_)
      exact hR _ _ ⟨(none, 0, none, 0), trivial, rfl, ((St.nilR (St.nilR (hw.pick [] rfl) encEvent 4 34) encStep 2 77).pick [1, 0] rfl)⟩
    · replace hF := cneg hC10 hF
      refine W.skip ?_
      refine W.go hK7 (.cons (i := 0) rfl (.cons (i := 1) rfl (.cons (i := 2) rfl (.nil)))) ?_
      -- region 7: threads.go:100
      refine W.seqR fun Q12 hQ12 => ?_
      refine WL.q (Y.move (.pl rfl)) rfl ?_
      refine WL.q (Y.build (cs := (Value.slice A2 (types1).length c3 :: (Value.slice none 0 0 :: (Value.slice none 0 0 :: (Value.slice none 0 0 :: (Value.slice none 0 0 :: (Value.int .i64 0 :: [])))))).toArray) shape145 (.cons (.pl rfl) (.nil)) (one_parts ⟨rfl, trivial⟩) rfl) rfl ?_
      refine WL.step (WO.boxA (.pl rfl) rfl fun b18 => ?_)
      refine WL.q (Y.assign (.pl rfl)) rfl ?_
      refine WL.next hQ12 (.cons (i := 0) rfl (.cons (i := 1) rfl (.cons (i := 2) rfl (.cons (i := 11) rfl (.nil))))) ?_
      obtain ⟨o13, hF13, hF⟩ := bnd hF
      refine W.join4 (Em := fun (states21 : (List (List Int))) (A19 : Option Addr) (c20 : Nat) (hd22 : List Hd) => []) (M := fun states21 A19 c20 hd22 => [cBx b18 145 (Value.slice A2 (types1).length c3 :: (Value.slice A19 (states21).length c20 :: (Value.slice none 0 0 :: (Value.slice none 0 0 :: (Value.slice none 0 0 :: (Value.int .i64 0 :: [])))))), cN encSl (innSl (eI .i64) 1 3) 1 A19 c20 47 hd22 states21]) (I := fun states21 A19 c20 hd22 => states21 = o13) (.cons (i := 1) rfl (.cons (i := 2) rfl (.cons (i := 11) rfl (.nil)))) (fun K14 hK14 => ?_) ?_
      · -- up to
        -- region 8: threads.go:101
        refine W.seqR fun Q15 hQ15 => ?_
        refine WL.q (Y.move (.pl rfl)) rfl ?_
        refine WL.q (Y.len Try.underlying47 (.pl rfl)) rfl ?_
        refine WL.q (Y.move (.pl rfl)) rfl ?_
        refine WL.next hQ15 (.cons (i := 1) rfl (.cons (i := 2) rfl (.cons (i := 11) rfl (.cons (i := 36) rfl (.cons (i := 37) rfl (.cons (i := 38) rfl (.nil))))))) ?_
        refine W.block ?_
        refine W.loop5 (Em := fun (states25 : (List (List Int))) (v27 : Int) (A23 : Option Addr) (c24 : Nat) (hd26 : List Hd) => [(38, .int .i64 v27)]) (M := fun states25 v27 A23 c24 hd26 => [cBx b18 145 (Value.slice A2 (types1).length c3 :: (Value.slice A23 (states25).length c24 :: (Value.slice none 0 0 :: (Value.slice none 0 0 :: (Value.slice none 0 0 :: (Value.int .i64 0 :: [])))))), cN encSl (innSl (eI .i64) 1 3) 1 A23 c24 47 hd26 states25]) (I := fun states25 v27 A23 c24 hd26 k16 => iter (threads_Play_L7 N types1) k16 (states25, v27) = some o13) [] 0 none 0 [] N (hF13) (.cons rfl (.nil)) (.cons (i := 1) rfl (.cons (i := 2) rfl (.cons (i := 11) rfl (.cons (i := 36) rfl (.cons (i := 37) rfl (.nil)))))) (fun wz hw => (St.nilN (hw.pick [0] rfl) encSl (innSl (eI .i64) 1 3) 1 47).pick [1, 0] rfl) (fun states25 v27 A23 c24 hd26 k16 hI K17 hK17 => ?_)
        obtain ⟨k16, t16, rfl, hF16, hN16⟩ := iter_step hI
        -- region 9: threads.go:101
        refine W.seqR fun Q18 hQ18 => ?_
        refine WL.q (Y.lss (.pl rfl) (.pl rfl)) rfl ?_
        refine WL.next hQ18 (.cons (i := 1) rfl (.cons (i := 2) rfl (.cons (i := 11) rfl (.cons (i := 36) rfl (.cons (i := 37) rfl (.cons (i := 38) rfl (.cons (i := 39) rfl (.nil)))))))) ?_
        refine W.seq fun K19 hK19 => ?_
        refine W.cond (.pl rfl) (fun hC20 => ?_) (fun hC20 => ?_)
        · replace hF16 := cpos hC20 hF16
          refine W.skip ?_
          refine W.go hK19 (.cons (i := 1) rfl (.cons (i := 2) rfl (.cons (i := 11) rfl (.cons (i := 36) rfl (.cons (i := 37) rfl (.cons (i := 38) rfl (.nil))))))) ?_
          refine W.seq fun K21 hK21 => ?_
          refine W.block ?_
          -- region 10: threads.go:101
          refine W.seqR fun Q22 hQ22 => ?_
          obtain ⟨x28, hx28, hF16⟩ := bnd hF16
          refine WL.q (Y.slEl Try.underlying47 cells3 hs4 (.pl rfl) (.pl rfl) (ix_lt (hx28))) rfl ?_
          refine WL.q (Y.loadS (enc := (eI .i64)) (v := .int .i64 x28) (j := 0) Try.underlying3 rfl hs4 (.pl rfl) (hx28) rfl rfl) rfl ?_
          refine WL.q (Y.assign (.pl rfl)) rfl ?_
          refine WL.next hQ22 (.cons (i := 1) rfl (.cons (i := 2) rfl (.cons (i := 11) rfl (.cons (i := 13) rfl (.cons (i := 36) rfl (.cons (i := 37) rfl (.cons (i := 38) rfl (.nil)))))))) ?_
          -- region 11: threads.go:102
          refine W.seqR fun Q23 hQ23 => ?_
          refine WL.q (Y.move (.pl rfl)) rfl ?_
          obtain ⟨r29, hr29, hF16⟩ := bnd hF16
          refine WL.step (WO.callM isGo74 (.cons (.pl rfl) (.nil)) rfl (fun wz hw => object_Start_ok (hr29) wz ) ?_)
          rintro ⟨A30, c31⟩ -
          refine WL.q (Y.move (.pl rfl)) rfl ?_
          refine WL.q (Y.extract (.pl rfl) rfl) rfl ?_
          refine WL.q (Y.extract (.pl rfl) rfl) rfl ?_
          refine WL.q (Y.assign (.pl rfl)) rfl ?_
          refine WL.q (Y.assign (.pl rfl)) rfl ?_
          refine WL.next hQ23 (.cons (i := 1) rfl (.cons (i := 2) rfl (.cons (i := 11) rfl (.cons (i := 14) rfl (.cons (i := 36) rfl (.cons (i := 37) rfl (.cons (i := 38) rfl (.nil)))))))) ?_
          -- region 12: threads.go:103
          refine W.reg ?_
          refine WL.q (Y.move (.pl rfl)) rfl ?_
          refine WL.q (Y.move (.pl rfl)) rfl ?_
          refine WL.q (Y.nilCheck (.pl rfl)) rfl ?_
          refine WL.q (Y.fieldAddr0 (off := 1) (ft := 142) Try.underlying145 rfl cells142 (.pl rfl)) rfl ?_
          refine WL.q (Y.loadB (v := .slice A23 (states25).length c24) Try.underlying142 rfl (.pl rfl) (i := 1) rfl (rfl)) rfl ?_
          refine WL.q (Y.move (.pl rfl)) rfl ?_
          refine WL.step (WO.bsliceN (enc := encSl) (inn := (innSl (eI .i64) 1 3)) (hs := ([((A30, c31) : Hd)] : List Hd)) (xs := ([r29.1] : List (List Int))) Try.underlying142 bz47 (.cons (.pl rfl) (.nil)) rfl rfl rfl rfl rfl lenSl (by decide) (by decide) (.pick [0, 1, 2] rfl) rfl fun b32 => ?_)
          obtain ⟨hk35, hF16⟩ := ckh hF16
          refine WL.step (WO.appendN (enc := encSl) (inn := (innSl (eI .i64) 1 3)) (hs := hd26) Try.underlying142 ap47 lenSl oneSl (.pl rfl) rfl (.pl rfl) (i := 1) rfl (hk35) rfl fun A33 c34 => ?_)
          refine WL.q (Y.nilCheck (.pl rfl)) rfl ?_
          refine WL.q (Y.fieldAddr0 (off := 1) (ft := 142) Try.underlying145 rfl cells142 (.pl rfl)) rfl ?_
          refine WL.step (WO.storeB (cs' := (Value.slice A2 (types1).length c3 :: (Value.slice A33 ((states25 ++ ([r29.1] : List (List Int)))).length c34 :: (Value.slice none 0 0 :: (Value.slice none 0 0 :: (Value.slice none 0 0 :: (Value.int .i64 0 :: []))))))) cells142 (.pl rfl) (.pl rfl) rfl (i := 1) rfl (ltl (m := 6) (by decide) rfl) (rfl) ?_)
          refine WL.nil ?_
          refine W.go hK21 (.cons (i := 1) rfl (.cons (i := 2) rfl (.cons (i := 11) rfl (.cons (i := 36) rfl (.cons (i := 37) rfl (.cons (i := 38) rfl (.nil))))))) ?_
          -- region 13: threads.go:101
          refine W.reg ?_
          obtain ⟨hk36, hF16⟩ := ckh hF16
          refine WL.q (Y.add (.pl rfl) (.pl rfl) (ok64_lt (hk36))) rfl ?_
          refine WL.q (Y.move (.pl rfl)) rfl ?_
          refine WL.nil ?_
          obtain rfl := Option.some.inj hF16
          exact W.again5 hK17 (states25 ++ ([r29.1] : List (List Int))) (v27 + 1) A33 c34 (hd26 ++ ([((A30, c31) : Hd)] : List Hd)) k16 hN16 (Nat.lt_succ_self _) (.cons rfl (.nil)) (.cons (i := 1) rfl (.cons (i := 2) rfl (.cons (i := 11) rfl (.cons (i := 36) rfl (.cons (i := 37) rfl (.nil)))))) (fun wz hw => hw.pick [1, 0] rfl)
        · replace hF16 := cneg hC20 hF16
          refine W.exit ?_
          obtain rfl := Option.some.inj hF16
          exact W.joinAt4 hK14 states25 A23 c24 hd26 (einr hN16) (.nil) (.cons (i := 1) rfl (.cons (i := 2) rfl (.cons (i := 11) rfl (.nil)))) (fun wz hw => hw.pick [0, 1] rfl)
      · -- behind
        rintro states21 A19 c20 hd22 rfl
        obtain ⟨o26, hF26, hF⟩ := bnd hF
        refine W.join4 (Em := fun (people39 : (List ThreadsProcess)) (A37 : Option Addr) (c38 : Nat) (hd40 : List Hd) => []) (M := fun people39 A37 c38 hd40 => [cBx b18 145 (Value.slice A2 (types1).length c3 :: (Value.slice A19 (states21).length c20 :: (Value.slice A37 (people39).length c38 :: (Value.slice none 0 0 :: (Value.slice none 0 0 :: (Value.int .i64 0 :: [])))))), cN encSl (innSl (eI .i64) 1 3) 1 A19 c20 47 hd22 states21, cN encNThreadsProcess (innNThreadsProcess w) 6 A37 c38 149 hd40 people39]) (I := fun people39 A37 c38 hd40 => people39 = o26) (.cons (i := 2) rfl (.cons (i := 11) rfl (.nil))) (fun K27 hK27 => ?_) ?_
        · -- up to
          -- region 14: threads.go:105
          refine W.seqR fun Q28 hQ28 => ?_
          refine WL.q (Y.move (.pl rfl)) rfl ?_
          refine WL.q (Y.len Try.underlying22 (.pl rfl)) rfl ?_
          refine WL.q (Y.move (.pl rfl)) rfl ?_
          refine WL.next hQ28 (.cons (i := 2) rfl (.cons (i := 11) rfl (.cons (i := 58) rfl (.cons (i := 59) rfl (.cons (i := 60) rfl (.nil)))))) ?_
          refine W.block ?_
          refine W.loop5 (Em := fun (people43 : (List ThreadsProcess)) (v45 : Int) (A41 : Option Addr) (c42 : Nat) (hd44 : List Hd) => [(60, .int .i64 v45)]) (M := fun people43 v45 A41 c42 hd44 => [cBx b18 145 (Value.slice A2 (types1).length c3 :: (Value.slice A19 (states21).length c20 :: (Value.slice A41 (people43).length c42 :: (Value.slice none 0 0 :: (Value.slice none 0 0 :: (Value.int .i64 0 :: [])))))), cN encSl (innSl (eI .i64) 1 3) 1 A19 c20 47 hd22 states21, cN encNThreadsProcess (innNThreadsProcess w) 6 A41 c42 149 hd44 people43]) (I := fun people43 v45 A41 c42 hd44 k29 => iter (threads_Play_L9 N people6) k29 (people43, v45) = some o26) [] 0 none 0 [] N (hF26) (.cons rfl (.nil)) (.cons (i := 2) rfl (.cons (i := 11) rfl (.cons (i := 58) rfl (.cons (i := 59) rfl (.nil))))) (fun wz hw => (St.nilN (hw.pick [0, 1] rfl) encNThreadsProcess (innNThreadsProcess w) 6 149).pick [1, 2, 0] rfl) (fun people43 v45 A41 c42 hd44 k29 hI K30 hK30 => ?_)
          obtain ⟨k29, t29, rfl, hF29, hN29⟩ := iter_step hI
          -- region 15: threads.go:105
          refine W.know (fun wz hwz => bor_of (h0 := ((none, 0) : Hd)) (q := fun h a => SlIn encAsk 3 w (.slice h.1 a.program.length h.2) a.program) hwz (i := 2) rfl (fun _ _ => .head _)) (fun hbor32 => ?_)
          refine W.seqR fun Q31 hQ31 => ?_
          refine WL.q (Y.lss (.pl rfl) (.pl rfl)) rfl ?_
          refine WL.next hQ31 (.cons (i := 2) rfl (.cons (i := 11) rfl (.cons (i := 58) rfl (.cons (i := 59) rfl (.cons (i := 60) rfl (.cons (i := 61) rfl (.nil))))))) ?_
          refine W.seq fun K33 hK33 => ?_
          refine W.cond (.pl rfl) (fun hC34 => ?_) (fun hC34 => ?_)
          · replace hF29 := cpos hC34 hF29
            refine W.skip ?_
            refine W.go hK33 (.cons (i := 2) rfl (.cons (i := 11) rfl (.cons (i := 58) rfl (.cons (i := 59) rfl (.cons (i := 60) rfl (.nil)))))) ?_
            refine W.seq fun K35 hK35 => ?_
            refine W.block ?_
            -- region 16: threads.go:105
            refine W.seqR fun Q36 hQ36 => ?_
            obtain ⟨x46, hx46, hF29⟩ := bnd hF29
            refine WL.q (Y.nnEl Try.underlying22 cells41 hs10 (.pl rfl) (.pl rfl) (ix_lt (hx46))) rfl ?_
            refine WL.q (Y.loadNN Try.underlying41 rfl hs10 (.pl rfl) (hx46) rfl) rfl ?_
            refine WL.q (Y.assign (.pl rfl)) rfl ?_
            refine WL.next hQ36 (.cons (i := 2) rfl (.cons (i := 11) rfl (.cons (i := 17) rfl (.cons (i := 58) rfl (.cons (i := 59) rfl (.cons (i := 60) rfl (.nil))))))) ?_
            -- region 17: threads.go:106
            refine W.reg ?_
            refine WL.q (Y.move (.pl rfl)) rfl ?_
            refine WL.q (Y.move (.pl rfl)) rfl ?_
            refine WL.q (Y.nilCheck (.pl rfl)) rfl ?_
            refine WL.q (Y.fieldAddr0 (off := 2) (ft := 143) Try.underlying145 rfl cells143 (.pl rfl)) rfl ?_
            refine WL.q (Y.loadB (v := .slice A41 (people43).length c42) Try.underlying143 rfl (.pl rfl) (i := 0) rfl (rfl)) rfl ?_
            refine WL.q (Y.move (.pl rfl)) rfl ?_
            refine WL.q (Y.build (cs := (Value.slice (hd9.getD v45.toNat (none, 0)).1 (x46).length (hd9.getD v45.toNat (none, 0)).2 :: (Value.bool false :: (Value.int .i64 0 :: (Value.bool false :: (Value.bool false :: (Value.int .i64 0 :: [])))))).toArray) shape149 (.cons (.pl rfl) (.nil)) (one_parts ⟨rfl, trivial⟩) rfl) rfl ?_
            refine WL.step (WO.bsliceN (enc := encNThreadsProcess) (inn := (innNThreadsProcess w)) (hs := ([(((hd9.getD v45.toNat (none, 0)).1, (hd9.getD v45.toNat (none, 0)).2) : Hd)] : List Hd)) (xs := ([(ThreadsProcess.mk x46 false 0 false false 0)] : List ThreadsProcess)) Try.underlying143 bz149 (.cons (.pl rfl) (.nil)) rfl rfl rfl rfl rfl lenNThreadsProcess (by decide) (by decide) (.trans (.fact ((hs10.at (hx46)))) (.pick [0, 1, 2, 3] rfl)) rfl fun b47 => ?_)
            obtain ⟨hk50, hF29⟩ := ckh hF29
            refine WL.step (WO.appendN (enc := encNThreadsProcess) (inn := (innNThreadsProcess w)) (hs := hd44) Try.underlying143 ap149 lenNThreadsProcess oneNThreadsProcess (.pl rfl) rfl (.pl rfl) (i := 2) rfl (hk50) rfl fun A48 c49 => ?_)
            refine WL.q (Y.nilCheck (.pl rfl)) rfl ?_
            refine WL.q (Y.fieldAddr0 (off := 2) (ft := 143) Try.underlying145 rfl cells143 (.pl rfl)) rfl ?_
            refine WL.step (WO.storeB (cs' := (Value.slice A2 (types1).length c3 :: (Value.slice A19 (states21).length c20 :: (Value.slice A48 ((people43 ++ ([(ThreadsProcess.mk x46 false 0 false false 0)] : List ThreadsProcess))).length c49 :: (Value.slice none 0 0 :: (Value.slice none 0 0 :: (Value.int .i64 0 :: []))))))) cells143 (.pl rfl) (.pl rfl) rfl (i := 1) rfl (ltl (m := 6) (by decide) rfl) (rfl) ?_)
            refine WL.nil ?_
            refine W.go hK35 (.cons (i := 2) rfl (.cons (i := 11) rfl (.cons (i := 58) rfl (.cons (i := 59) rfl (.cons (i := 60) rfl (.nil)))))) ?_
            -- region 18: threads.go:105
            refine W.know (fun wz hwz => bor_of (h0 := ((none, 0) : Hd)) (q := fun h a => SlIn encAsk 3 w (.slice h.1 a.program.length h.2) a.program) hwz (i := 0) rfl (fun _ _ => .head _)) (fun hbor39 => ?_)
            refine W.reg ?_
            obtain ⟨hk51, hF29⟩ := ckh hF29
            refine WL.q (Y.add (.pl rfl) (.pl rfl) (ok64_lt (hk51))) rfl ?_
            refine WL.q (Y.move (.pl rfl)) rfl ?_
            refine WL.nil ?_
            obtain rfl := Option.some.inj hF29
            exact W.again5 hK30 (people43 ++ ([(ThreadsProcess.mk x46 false 0 false false 0)] : List ThreadsProcess)) (v45 + 1) A48 c49 (hd44 ++ ([(((hd9.getD v45.toNat (none, 0)).1, (hd9.getD v45.toNat (none, 0)).2) : Hd)] : List Hd)) k29 hN29 (Nat.lt_succ_self _) (.cons rfl (.nil)) (.cons (i := 2) rfl (.cons (i := 11) rfl (.cons (i := 58) rfl (.cons (i := 59) rfl (.nil))))) (fun wz hw => hw.pick [1, 2, 0] rfl)
          · replace hF29 := cneg hC34 hF29
            refine W.exit ?_
            obtain rfl := Option.some.inj hF29
            exact W.joinAt4 hK27 people43 A41 c42 hd44 (einr hN29) (.nil) (.cons (i := 2) rfl (.cons (i := 11) rfl (.nil))) (fun wz hw => hw.pick [0, 1, 2] rfl)
        · -- behind
          rintro people39 A37 c38 hd40 rfl
          obtain ⟨o40, hF40, hF⟩ := bnd hF
          refine W.join11 (Em := fun (states52 : (List (List Int))) (people54 : (List ThreadsProcess)) (events58 : (List Event)) (steps61 : (List Step)) (calls62 : Int) (hd53 : List Hd) (hd55 : List Hd) (A56 : Option Addr) (c57 : Nat) (A59 : Option Addr) (c60 : Nat) => []) (M := fun states52 people54 events58 steps61 calls62 hd53 hd55 A56 c57 A59 c60 => [cBx b18 145 (Value.slice A2 (types1).length c3 :: (Value.slice A19 (states52).length c20 :: (Value.slice A37 (people54).length c38 :: (Value.slice A56 (events58).length c57 :: (Value.slice A59 (steps61).length c60 :: (Value.int .i64 calls62 :: [])))))), cN encSl (innSl (eI .i64) 1 3) 1 A19 c20 47 hd53 states52, cN encNThreadsProcess (innNThreadsProcess w) 6 A37 c38 149 hd55 people54, cR encEvent 4 A56 c57 34 events58, cR encStep 2 A59 c60 77 steps61]) (I := fun states52 people54 events58 steps61 calls62 hd53 hd55 A56 c57 A59 c60 => (states52, people54, events58, steps61, calls62) = o40) (.cons (i := 11) rfl (.nil)) (fun K41 hK41 => ?_) ?_
          · -- up to
            -- region 19: threads.go:108
            refine W.know (fun wz hwz => bor_of (h0 := ((none, 0) : Hd)) (q := fun h a => SlIn encAsk 3 w (.slice h.1 a.program.length h.2) a.program) hwz (i := 2) rfl (fun _ _ => .head _)) (fun hbor43 => ?_)
            refine W.seqR fun Q42 hQ42 => ?_
            refine WL.q (Y.move (.pl rfl)) rfl ?_
            refine WL.q (Y.len Try.underlying47 (.pl rfl)) rfl ?_
            refine WL.q (Y.move (.pl rfl)) rfl ?_
            refine WL.next hQ42 (.cons (i := 11) rfl (.cons (i := 76) rfl (.cons (i := 77) rfl (.cons (i := 78) rfl (.nil))))) ?_
            refine W.block ?_
            refine W.loop12 (Em := fun (states63 : (List (List Int))) (people65 : (List ThreadsProcess)) (events69 : (List Event)) (steps72 : (List Step)) (calls73 : Int) (v74 : Int) (hd64 : List Hd) (hd66 : List Hd) (A67 : Option Addr) (c68 : Nat) (A70 : Option Addr) (c71 : Nat) => [(78, .int .i64 v74)]) (M := fun states63 people65 events69 steps72 calls73 v74 hd64 hd66 A67 c68 A70 c71 => [cBx b18 145 (Value.slice A2 (types1).length c3 :: (Value.slice A19 (states63).length c20 :: (Value.slice A37 (people65).length c38 :: (Value.slice A67 (events69).length c68 :: (Value.slice A70 (steps72).length c71 :: (Value.int .i64 calls73 :: [])))))), cN encSl (innSl (eI .i64) 1 3) 1 A19 c20 47 hd64 states63, cN encNThreadsProcess (innNThreadsProcess w) 6 A37 c38 149 hd66 people65, cR encEvent 4 A67 c68 34 events69, cR encStep 2 A70 c71 77 steps72]) (I := fun states63 people65 events69 steps72 calls73 v74 hd64 hd66 A67 c68 A70 c71 k44 => iter (threads_Play_L11 N turns11 types1) k44 (states63, people65, events69, steps72, calls73, v74) = some o40) states21 people39 [] [] 0 0 hd22 hd40 none 0 none 0 N (hF40) (.cons rfl (.nil)) (.cons (i := 11) rfl (.cons (i := 76) rfl (.cons (i := 77) rfl (.nil)))) (fun wz hw => (St.nilR (St.nilR (hw.pick [0, 1, 2] rfl) encEvent 4 34) encStep 2 77).pick [2, 3, 4, 1, 0] rfl) (fun states63 people65 events69 steps72 calls73 v74 hd64 hd66 A67 c68 A70 c71 k44 hI K45 hK45 => ?_)
            obtain ⟨k44, t44, rfl, hF44, hN44⟩ := iter_step hI
            -- region 20: threads.go:108
            refine W.know (fun wz hwz => bor_of (h0 := ((none, 0) : Hd)) (q := fun h a => SlIn encAsk 3 w (.slice h.1 a.program.length h.2) a.program) hwz (i := 2) rfl (fun _ _ => .head _)) (fun hbor47 => ?_)
            refine W.seqR fun Q46 hQ46 => ?_
            refine WL.q (Y.lss (.pl rfl) (.pl rfl)) rfl ?_
            refine WL.next hQ46 (.cons (i := 11) rfl (.cons (i := 76) rfl (.cons (i := 77) rfl (.cons (i := 78) rfl (.cons (i := 79) rfl (.nil)))))) ?_
            refine W.seq fun K48 hK48 => ?_
            refine W.cond (.pl rfl) (fun hC49 => ?_) (fun hC49 => ?_)
            · replace hF44 := cpos hC49 hF44
              refine W.skip ?_
              refine W.go hK48 (.cons (i := 11) rfl (.cons (i := 76) rfl (.cons (i := 77) rfl (.cons (i := 78) rfl (.nil))))) ?_
              refine W.seq fun K50 hK50 => ?_
              refine W.block ?_
              -- region 21: threads.go:108
              refine W.seqR fun Q51 hQ51 => ?_
              obtain ⟨x75, hx75, hF44⟩ := bnd hF44
              refine WL.q (Y.slEl Try.underlying47 cells3 hs14 (.pl rfl) (.pl rfl) (ix_lt (hx75))) rfl ?_
              refine WL.q (Y.loadS (enc := (eI .i64)) (v := .int .i64 x75) (j := 0) Try.underlying3 rfl hs14 (.pl rfl) (hx75) rfl rfl) rfl ?_
              refine WL.q (Y.assign (.pl rfl)) rfl ?_
              refine WL.next hQ51 (.cons (i := 11) rfl (.cons (i := 19) rfl (.cons (i := 76) rfl (.cons (i := 77) rfl (.cons (i := 78) rfl (.nil)))))) ?_
              -- region 22: threads.go:109
              refine W.reg ?_
              refine WL.q (Y.move (.pl rfl)) rfl ?_
              refine WL.q (Y.move (.pl rfl)) rfl ?_
              obtain ⟨r76, hr76, hF44⟩ := bnd hF44
              refine WL.step (WO.call (γ := (List Hd × List Hd × Option Addr × Nat × Option Addr × Nat)) (fun g => .tuple #[]) (fun g => [cBx b18 145 (Value.slice A2 (types1).length c3 :: (Value.slice A19 (r76.1).length c20 :: (Value.slice A37 (r76.2.1).length c38 :: (Value.slice g.2.2.1 (r76.2.2.1).length g.2.2.2.1 :: (Value.slice g.2.2.2.2.1 (r76.2.2.2.1).length g.2.2.2.2.2 :: (Value.int .i64 r76.2.2.2.2 :: [])))))), cN encSl (innSl (eI .i64) 1 3) 1 A19 c20 47 g.1 r76.1, cN encNThreadsProcess (innNThreadsProcess w) 6 A37 c38 149 g.2.1 r76.2.1, cR encEvent 4 g.2.2.1 g.2.2.2.1 34 r76.2.2.1, cR encStep 2 g.2.2.2.2.1 g.2.2.2.2.2 77 r76.2.2.2.1]) (fun g => True) isGo75 (.cons (.pl rfl) (.cons (.pl rfl) (.nil))) rfl (fun wz hw => threads_machine_turn_ok (T := []) (hr76) (hw.pick [0, 1, 2, 3, 4] rfl) hs4) ?_)
              rintro ⟨hd77, hd78, A79, c80, A81, c82⟩ -
              refine WL.nil ?_
              refine W.go hK50 (.cons (i := 11) rfl (.cons (i := 76) rfl (.cons (i := 77) rfl (.cons (i := 78) rfl (.nil))))) ?_
              -- region 23: threads.go:108
              refine W.know (fun wz hwz => bor_of (h0 := ((none, 0) : Hd)) (q := fun h a => SlIn encAsk 3 w (.slice h.1 a.program.length h.2) a.program) hwz (i := 2) rfl (fun _ _ => .head _)) (fun hbor54 => ?_)
              refine W.reg ?_
              obtain ⟨hk83, hF44⟩ := ckh hF44
              refine WL.q (Y.add (.pl rfl) (.pl rfl) (ok64_lt (hk83))) rfl ?_
              refine WL.q (Y.move (.pl rfl)) rfl ?_
              refine WL.nil ?_
              obtain rfl := Option.some.inj hF44
              exact W.again12 hK45 r76.1 r76.2.1 r76.2.2.1 r76.2.2.2.1 r76.2.2.2.2 (v74 + 1) hd77 hd78 A79 c80 A81 c82 k44 hN44 (Nat.lt_succ_self _) (.cons rfl (.nil)) (.cons (i := 11) rfl (.cons (i := 76) rfl (.cons (i := 77) rfl (.nil)))) (fun wz hw => hw.pick [0, 1, 2, 3, 4] rfl)
            · replace hF44 := cneg hC49 hF44
              refine W.exit ?_
              obtain rfl := Option.some.inj hF44
              exact W.joinAt11 hK41 states63 people65 events69 steps72 calls73 hd64 hd66 A67 c68 A70 c71 (einr hN44) (.nil) (.cons (i := 11) rfl (.nil)) (fun wz hw => hw.pick [0, 1, 2, 3, 4] rfl)
          · -- behind
            rintro states52 people54 events58 steps61 calls62 hd53 hd55 A56 c57 A59 c60 rfl
            -- region 24: threads.go:111
            refine W.know (fun wz hwz => bor_of (h0 := ((none, 0) : Hd)) (q := fun h a => SlIn encAsk 3 w (.slice h.1 a.program.length h.2) a.program) hwz (i := 2) rfl (fun _ _ => .head _)) (fun hbor56 => ?_)
            refine W.seqD (by kernel_rfl) (by kernel_rfl) fun R55 hR55 => ?_
            refine WD.q (Y.move (.pl rfl)) rfl ?_
            refine WD.q (Y.nilCheck (.pl rfl)) rfl ?_
            refine WD.q (Y.fieldAddr0 (off := 3) (ft := 26) Try.underlying145 rfl cells26 (.pl rfl)) rfl ?_
            refine WD.q (Y.loadB (v := .slice A56 (events58).length c57) Try.underlying26 rfl (.pl rfl) (i := 0) rfl (rfl)) rfl ?_
            refine WD.q (Y.move (.pl rfl)) rfl ?_
            refine WD.q (Y.nilCheck (.pl rfl)) rfl ?_
            refine WD.q (Y.fieldAddr0 (off := 4) (ft := 53) Try.underlying145 rfl cells53 (.pl rfl)) rfl ?_
            refine WD.q (Y.loadB (v := .slice A59 (steps61).length c60) Try.underlying53 rfl (.pl rfl) (i := 0) rfl (rfl)) rfl ?_
            refine WD.q (Y.assign (.pl rfl)) rfl ?_
            refine WD.q (Y.assign (.pl rfl)) rfl ?_
            refine WD.q (Y.assign (.pl rfl)) rfl ?_
            refine WD.next hR55 (.cons (i := 6) rfl (.cons (i := 7) rfl (.cons (i := 8) rfl (.nil)))) ?_
            obtain rfl := Option.some.inj hF
            refine W.retV (fn := Try.f41) (vs := [.slice A56 (events58).length c57, .slice A59 (steps61).length c60, .int .i64 0]) Try.results41 ⟨.tmp rfl, ⟨.tmp rfl, ⟨.tmp rfl, trivial⟩⟩⟩ (fun _ _ h => h) (fun wz hw => ?_)
            exact hR _ _ ⟨(A56, c57, A59, c60), trivial, rfl, (hw.pick [3, 4] rfl)⟩

def threads_Play_1_L7 (N : Nat) (types1 : (List Int)) : ((List (List Int)) × Int) → Option (((List (List Int)) × Int) ⊕ (List (List Int)))
  | (states25, v27) =>
    cond (decide (v27 < ((types1).length : Int)))
      (bd (ix types1 v27) fun (x28 : Int) =>
      bd (object_Start N x28) fun (r29 : ((List Int) × Int)) =>
      ck (limB 24 ((states25).length + (([r29.1] : List (List Int))).length)) <|
      ck (ok64 (v27 + 1)) <|
      some (.inl ((states25 ++ ([r29.1] : List (List Int))), (v27 + 1))))
      (some (.inr states25))

def threads_Play_1_L9 (N : Nat) (people6 : (List (List Ask))) : ((List ThreadsProcess) × Int) → Option (((List ThreadsProcess) × Int) ⊕ (List ThreadsProcess))
  | (people43, v45) =>
    cond (decide (v45 < ((people6).length : Int)))
      (bd (ix people6 v45) fun (x46 : (List Ask)) =>
      ck (limB 56 ((people43).length + (([(ThreadsProcess.mk x46 false 0 false false 0)] : List ThreadsProcess)).length)) <|
      ck (ok64 (v45 + 1)) <|
      some (.inl ((people43 ++ ([(ThreadsProcess.mk x46 false 0 false false 0)] : List ThreadsProcess)), (v45 + 1))))
      (some (.inr people43))

def threads_Play_1_L11 (N : Nat) (turns11 : (List Int)) (types1 : (List Int)) : ((List (List Int)) × (List ThreadsProcess) × (List Event) × (List Step) × Int × Int) → Option (((List (List Int)) × (List ThreadsProcess) × (List Event) × (List Step) × Int × Int) ⊕ ((List (List Int)) × (List ThreadsProcess) × (List Event) × (List Step) × Int))
  | (states63, people65, events69, steps72, calls73, v74) =>
    cond (decide (v74 < ((turns11).length : Int)))
      (bd (ix turns11 v74) fun (x75 : Int) =>
      bd (threads_machine_turn N types1 states63 people65 events69 steps72 calls73 x75) fun (r76 : ((List (List Int)) × (List ThreadsProcess) × (List Event) × (List Step) × Int)) =>
      ck (ok64 (v74 + 1)) <|
      some (.inl (r76.1, r76.2.1, r76.2.2.1, r76.2.2.2.1, r76.2.2.2.2, (v74 + 1))))
      (some (.inr (states63, people65, events69, steps72, calls73)))

def threads_Play_1 (N : Nat) (types1 : (List Int)) (people6 : (List (List Ask))) (turns11 : (List Int)) : Option ((List Event) × (List Step) × Int) :=
  bd (threads_Check N types1 people6) fun (r16 : Int) =>
  cond (!(decide (r16 = 0)))
    (some ([], [], r16))
    (bd (threads_Turns N ((people6).length : Int) 300 turns11) fun (r17 : Int) =>
    cond (!(decide (r17 = 0)))
      (some ([], [], r17))
      (bd (α := (List (List Int))) (iter (threads_Play_1_L7 N types1) N ([], 0)) <|
      fun (states21 : (List (List Int))) => 
        bd (α := (List ThreadsProcess)) (iter (threads_Play_1_L9 N people6) N ([], 0)) <|
        fun (people39 : (List ThreadsProcess)) => 
          bd (α := ((List (List Int)) × (List ThreadsProcess) × (List Event) × (List Step) × Int)) (iter (threads_Play_1_L11 N turns11 types1) N (states21, people39, [], [], 0, 0)) <|
          fun (states52, people54, events58, steps61, calls62) => 
            some (events58, steps61, 0)))

theorem threads_Play_1_ok {N : Nat} {types1 : (List Int)} {people6 : (List (List Ask))} {turns11 : (List Int)} {A7 : Option Addr} {c8 : Nat} {hd9 : List Hd} {res : ((List Event) × (List Step) × Int)} (hF : threads_Play_1 N types1 people6 turns11 = some res) (w : World) {v5 : Value} (hs4 : SlIn (eI .i64) 1 w v5 types1) (hs10 : SlNN encAsk 3 w A7 c8 hd9 people6) {v15 : Value} (hs14 : SlIn (eI .i64) 1 w v15 turns11) :
    Made Try.prog 41 [v5, .slice A7 (people6).length c8, v15] w (fun g : (Option Addr × Nat × Option Addr × Nat) => .tuple #[.slice g.1 (res.1).length g.2.1, .slice g.2.2.1 (res.2.1).length g.2.2.2, .int .i64 res.2.2]) (fun g => [cR encEvent 4 g.1 g.2.1 34 res.1, cR encStep 2 g.2.2.1 g.2.2.2 77 res.2.1]) (fun g => True) := by
  obtain ⟨A2, c3, rfl, hcc3, hs4⟩ := hs4.form
  obtain ⟨A12, c13, rfl, hcc13, hs14⟩ := hs14.form
  refine W.enter (n := 94) Try.func41 rfl rfl Sub.refl (by simp) (St.start w) fun R hR => ?_
  unfold threads_Play_1 at hF
  -- region 0: threads.go:93
  refine W.seqR fun Q1 hQ1 => ?_
  refine WL.q (Y.assign (.pl rfl)) rfl ?_
  refine WL.q (Y.assign (.pl rfl)) rfl ?_
  refine WL.q (Y.assign (.pl rfl)) rfl ?_
  refine WL.next hQ1 (.cons (i := 0) rfl (.cons (i := 1) rfl (.cons (i := 2) rfl (.nil)))) ?_
  refine W.seq fun K2 hK2 => ?_
  -- region 1: threads.go:94
  refine W.seqR fun Q3 hQ3 => ?_
  refine WL.q (Y.move (.pl rfl)) rfl ?_
  refine WL.q (Y.move (.pl rfl)) rfl ?_
  obtain ⟨r16, hr16, hF⟩ := bnd hF
  refine WL.step (WO.callP isGo63 (.cons (.pl rfl) (.cons (.pl rfl) (.nil))) rfl (fun wz hw => threads_Check_ok (hr16) wz (hs4.mono hw) (hs10.mono hw)) ?_)
  refine WL.q (Y.assign (.pl rfl)) rfl ?_
  refine WL.next hQ3 (.cons (i := 0) rfl (.cons (i := 1) rfl (.cons (i := 2) rfl (.cons (i := 9) rfl (.nil))))) ?_
  -- region 2: threads.go:94
  refine W.seqR fun Q4 hQ4 => ?_
  refine WL.q (Y.move (.pl rfl)) rfl ?_
  refine WL.q (Y.neq (.pl rfl) (.pl rfl)) rfl ?_
  refine WL.next hQ4 (.cons (i := 0) rfl (.cons (i := 1) rfl (.cons (i := 2) rfl (.cons (i := 9) rfl (.cons (i := 24) rfl (.nil)))))) ?_
  refine W.cond (.pl rfl) (fun hC5 => ?_) (fun hC5 => ?_)
  · replace hF := cpos hC5 hF
    -- region 3: threads.go:95
    refine W.seqR fun Q6 hQ6 => ?_
    refine WL.q (Y.move (.pl rfl)) rfl ?_
    refine WL.q (Y.assign (.pl rfl)) rfl ?_
    refine WL.q (Y.assign (.pl rfl)) rfl ?_
    refine WL.q (Y.assign (.pl rfl)) rfl ?_
    refine WL.next hQ6 (.cons (i := 6) rfl (.cons (i := 7) rfl (.cons (i := 8) rfl (.nil)))) ?_
    obtain rfl := Option.some.inj hF
    refine W.retV (fn := Try.f41) (vs := [.slice none 0 0, .slice none 0 0, .int .i64 r16]) Try.results41 ⟨.tmp rfl, ⟨.tmp rfl, ⟨.tmp rfl, trivial⟩⟩⟩ (fun _ _ h => h) (fun wz hw => ?_)
    exact hR _ _ ⟨(none, 0, none, 0), trivial, rfl, ((St.nilR (St.nilR (hw.pick [] rfl) encEvent 4 34) encStep 2 77).pick [1, 0] rfl)⟩
  · replace hF := cneg hC5 hF
    refine W.skip ?_
    refine W.go hK2 (.cons (i := 0) rfl (.cons (i := 1) rfl (.cons (i := 2) rfl (.nil)))) ?_
    refine W.seq fun K7 hK7 => ?_
    -- region 4: threads.go:97
    refine W.seqR fun Q8 hQ8 => ?_
    refine WL.q (Y.move (.pl rfl)) rfl ?_
    refine WL.q (Y.len Try.underlying22 (.pl rfl)) rfl ?_
    refine WL.q (Y.move (.pl rfl)) rfl ?_
    obtain ⟨r17, hr17, hF⟩ := bnd hF
    refine WL.step (WO.callP isGo64 (.cons (.pl rfl) (.cons (.pl rfl) (.cons (.pl rfl) (.nil)))) rfl (fun wz hw => threads_Turns_ok (hr17) wz (hs14.mono hw)) ?_)
    refine WL.q (Y.assign (.pl rfl)) rfl ?_
    refine WL.next hQ8 (.cons (i := 0) rfl (.cons (i := 1) rfl (.cons (i := 2) rfl (.cons (i := 10) rfl (.nil))))) ?_
    -- region 5: threads.go:97
    refine W.seqR fun Q9 hQ9 => ?_
    refine WL.q (Y.move (.pl rfl)) rfl ?_
    refine WL.q (Y.neq (.pl rfl) (.pl rfl)) rfl ?_
    refine WL.next hQ9 (.cons (i := 0) rfl (.cons (i := 1) rfl (.cons (i := 2) rfl (.cons (i := 10) rfl (.cons (i := 31) rfl (.nil)))))) ?_
    refine W.cond (.pl rfl) (fun hC10 => ?_) (fun hC10 => ?_)
    · replace hF := cpos hC10 hF
      -- region 6: threads.go:98
      refine W.seqR fun Q11 hQ11 => ?_
      refine WL.q (Y.move (.pl rfl)) rfl ?_
      refine WL.q (Y.assign (.pl rfl)) rfl ?_
      refine WL.q (Y.assign (.pl rfl)) rfl ?_
      refine WL.q (Y.assign (.pl rfl)) rfl ?_
      refine WL.next hQ11 (.cons (i := 6) rfl (.cons (i := 7) rfl (.cons (i := 8) rfl (.nil)))) ?_
      obtain rfl := Option.some.inj hF
      refine W.retV (fn := Try.f41) (vs := [.slice none 0 0, .slice none 0 0, .int .i64 r17]) Try.results41 ⟨.tmp rfl, ⟨.tmp rfl, ⟨.tmp rfl, trivial⟩⟩⟩ (fun _ _ h => h) (fun wz hw => ?_)
      exact hR _ _ ⟨(none, 0, none, 0), trivial, rfl, ((St.nilR (St.nilR (hw.pick [] rfl) encEvent 4 34) encStep 2 77).pick [1, 0] rfl)⟩
    · replace hF := cneg hC10 hF
      refine W.skip ?_
      refine W.go hK7 (.cons (i := 0) rfl (.cons (i := 1) rfl (.cons (i := 2) rfl (.nil)))) ?_
      -- region 7: threads.go:100
      refine W.seqR fun Q12 hQ12 => ?_
      refine WL.q (Y.move (.pl rfl)) rfl ?_
      refine WL.q (Y.build (cs := (Value.slice A2 (types1).length c3 :: (Value.slice none 0 0 :: (Value.slice none 0 0 :: (Value.slice none 0 0 :: (Value.slice none 0 0 :: (Value.int .i64 0 :: [])))))).toArray) shape145 (.cons (.pl rfl) (.nil)) (one_parts ⟨rfl, trivial⟩) rfl) rfl ?_
      refine WL.step (WO.boxA (.pl rfl) rfl fun b18 => ?_)
      refine WL.q (Y.assign (.pl rfl)) rfl ?_
      refine WL.next hQ12 (.cons (i := 0) rfl (.cons (i := 1) rfl (.cons (i := 2) rfl (.cons (i := 11) rfl (.nil))))) ?_
      obtain ⟨o13, hF13, hF⟩ := bnd hF
      refine W.join4 (Em := fun (states21 : (List (List Int))) (A19 : Option Addr) (c20 : Nat) (hd22 : List Hd) => []) (M := fun states21 A19 c20 hd22 => [cBx b18 145 (Value.slice A2 (types1).length c3 :: (Value.slice A19 (states21).length c20 :: (Value.slice none 0 0 :: (Value.slice none 0 0 :: (Value.slice none 0 0 :: (Value.int .i64 0 :: [])))))), cN encSl (innSl (eI .i64) 1 3) 1 A19 c20 47 hd22 states21]) (I := fun states21 A19 c20 hd22 => states21 = o13) (.cons (i := 1) rfl (.cons (i := 2) rfl (.cons (i := 11) rfl (.nil)))) (fun K14 hK14 => ?_) ?_
      · -- up to
        -- region 8: threads.go:101
        refine W.seqR fun Q15 hQ15 => ?_
        refine WL.q (Y.move (.pl rfl)) rfl ?_
        refine WL.q (Y.len Try.underlying47 (.pl rfl)) rfl ?_
        refine WL.q (Y.move (.pl rfl)) rfl ?_
        refine WL.next hQ15 (.cons (i := 1) rfl (.cons (i := 2) rfl (.cons (i := 11) rfl (.cons (i := 36) rfl (.cons (i := 37) rfl (.cons (i := 38) rfl (.nil))))))) ?_
        refine W.block ?_
        refine W.loop5 (Em := fun (states25 : (List (List Int))) (v27 : Int) (A23 : Option Addr) (c24 : Nat) (hd26 : List Hd) => [(38, .int .i64 v27)]) (M := fun states25 v27 A23 c24 hd26 => [cBx b18 145 (Value.slice A2 (types1).length c3 :: (Value.slice A23 (states25).length c24 :: (Value.slice none 0 0 :: (Value.slice none 0 0 :: (Value.slice none 0 0 :: (Value.int .i64 0 :: [])))))), cN encSl (innSl (eI .i64) 1 3) 1 A23 c24 47 hd26 states25]) (I := fun states25 v27 A23 c24 hd26 k16 => iter (threads_Play_1_L7 N types1) k16 (states25, v27) = some o13) [] 0 none 0 [] N (hF13) (.cons rfl (.nil)) (.cons (i := 1) rfl (.cons (i := 2) rfl (.cons (i := 11) rfl (.cons (i := 36) rfl (.cons (i := 37) rfl (.nil)))))) (fun wz hw => (St.nilN (hw.pick [0] rfl) encSl (innSl (eI .i64) 1 3) 1 47).pick [1, 0] rfl) (fun states25 v27 A23 c24 hd26 k16 hI K17 hK17 => ?_)
        obtain ⟨k16, t16, rfl, hF16, hN16⟩ := iter_step hI
        -- region 9: threads.go:101
        refine W.seqR fun Q18 hQ18 => ?_
        refine WL.q (Y.lss (.pl rfl) (.pl rfl)) rfl ?_
        refine WL.next hQ18 (.cons (i := 1) rfl (.cons (i := 2) rfl (.cons (i := 11) rfl (.cons (i := 36) rfl (.cons (i := 37) rfl (.cons (i := 38) rfl (.cons (i := 39) rfl (.nil)))))))) ?_
        refine W.seq fun K19 hK19 => ?_
        refine W.cond (.pl rfl) (fun hC20 => ?_) (fun hC20 => ?_)
        · replace hF16 := cpos hC20 hF16
          refine W.skip ?_
          refine W.go hK19 (.cons (i := 1) rfl (.cons (i := 2) rfl (.cons (i := 11) rfl (.cons (i := 36) rfl (.cons (i := 37) rfl (.cons (i := 38) rfl (.nil))))))) ?_
          refine W.seq fun K21 hK21 => ?_
          refine W.block ?_
          -- region 10: threads.go:101
          refine W.seqR fun Q22 hQ22 => ?_
          obtain ⟨x28, hx28, hF16⟩ := bnd hF16
          refine WL.q (Y.slEl Try.underlying47 cells3 hs4 (.pl rfl) (.pl rfl) (ix_lt (hx28))) rfl ?_
          refine WL.q (Y.loadS (enc := (eI .i64)) (v := .int .i64 x28) (j := 0) Try.underlying3 rfl hs4 (.pl rfl) (hx28) rfl rfl) rfl ?_
          refine WL.q (Y.assign (.pl rfl)) rfl ?_
          refine WL.next hQ22 (.cons (i := 1) rfl (.cons (i := 2) rfl (.cons (i := 11) rfl (.cons (i := 13) rfl (.cons (i := 36) rfl (.cons (i := 37) rfl (.cons (i := 38) rfl (.nil)))))))) ?_
          -- region 11: threads.go:102
          refine W.seqR fun Q23 hQ23 => ?_
          refine WL.q (Y.move (.pl rfl)) rfl ?_
          obtain ⟨r29, hr29, hF16⟩ := bnd hF16
          refine WL.step (WO.callM isGo74 (.cons (.pl rfl) (.nil)) rfl (fun wz hw => object_Start_ok (hr29) wz ) ?_)
          rintro ⟨A30, c31⟩ -
          refine WL.q (Y.move (.pl rfl)) rfl ?_
          refine WL.q (Y.extract (.pl rfl) rfl) rfl ?_
          refine WL.q (Y.extract (.pl rfl) rfl) rfl ?_
          refine WL.q (Y.assign (.pl rfl)) rfl ?_
          refine WL.q (Y.assign (.pl rfl)) rfl ?_
          refine WL.next hQ23 (.cons (i := 1) rfl (.cons (i := 2) rfl (.cons (i := 11) rfl (.cons (i := 14) rfl (.cons (i := 36) rfl (.cons (i := 37) rfl (.cons (i := 38) rfl (.nil)))))))) ?_
          -- region 12: threads.go:103
          refine W.reg ?_
          refine WL.q (Y.move (.pl rfl)) rfl ?_
          refine WL.q (Y.move (.pl rfl)) rfl ?_
          refine WL.q (Y.nilCheck (.pl rfl)) rfl ?_
          refine WL.q (Y.fieldAddr0 (off := 1) (ft := 142) Try.underlying145 rfl cells142 (.pl rfl)) rfl ?_
          refine WL.q (Y.loadB (v := .slice A23 (states25).length c24) Try.underlying142 rfl (.pl rfl) (i := 1) rfl (rfl)) rfl ?_
          refine WL.q (Y.move (.pl rfl)) rfl ?_
          refine WL.step (WO.bsliceN (enc := encSl) (inn := (innSl (eI .i64) 1 3)) (hs := ([((A30, c31) : Hd)] : List Hd)) (xs := ([r29.1] : List (List Int))) Try.underlying142 bz47 (.cons (.pl rfl) (.nil)) rfl rfl rfl rfl rfl lenSl (by decide) (by decide) (.pick [0, 1, 2] rfl) rfl fun b32 => ?_)
          obtain ⟨hk35, hF16⟩ := ckh hF16
          refine WL.step (WO.appendN (enc := encSl) (inn := (innSl (eI .i64) 1 3)) (hs := hd26) Try.underlying142 ap47 lenSl oneSl (.pl rfl) rfl (.pl rfl) (i := 1) rfl (hk35) rfl fun A33 c34 => ?_)
          refine WL.q (Y.nilCheck (.pl rfl)) rfl ?_
          refine WL.q (Y.fieldAddr0 (off := 1) (ft := 142) Try.underlying145 rfl cells142 (.pl rfl)) rfl ?_
          refine WL.step (WO.storeB (cs' := (Value.slice A2 (types1).length c3 :: (Value.slice A33 ((states25 ++ ([r29.1] : List (List Int)))).length c34 :: (Value.slice none 0 0 :: (Value.slice none 0 0 :: (Value.slice none 0 0 :: (Value.int .i64 0 :: []))))))) cells142 (.pl rfl) (.pl rfl) rfl (i := 1) rfl (ltl (m := 6) (by decide) rfl) (rfl) ?_)
          refine WL.nil ?_
          refine W.go hK21 (.cons (i := 1) rfl (.cons (i := 2) rfl (.cons (i := 11) rfl (.cons (i := 36) rfl (.cons (i := 37) rfl (.cons (i := 38) rfl (.nil))))))) ?_
          -- region 13: threads.go:101
          refine W.reg ?_
          obtain ⟨hk36, hF16⟩ := ckh hF16
          refine WL.q (Y.add (.pl rfl) (.pl rfl) (ok64_lt (hk36))) rfl ?_
          refine WL.q (Y.move (.pl rfl)) rfl ?_
          refine WL.nil ?_
          obtain rfl := Option.some.inj hF16
          exact W.again5 hK17 (states25 ++ ([r29.1] : List (List Int))) (v27 + 1) A33 c34 (hd26 ++ ([((A30, c31) : Hd)] : List Hd)) k16 hN16 (Nat.lt_succ_self _) (.cons rfl (.nil)) (.cons (i := 1) rfl (.cons (i := 2) rfl (.cons (i := 11) rfl (.cons (i := 36) rfl (.cons (i := 37) rfl (.nil)))))) (fun wz hw => hw.pick [1, 0] rfl)
        · replace hF16 := cneg hC20 hF16
          refine W.exit ?_
          obtain rfl := Option.some.inj hF16
          exact W.joinAt4 hK14 states25 A23 c24 hd26 (einr hN16) (.nil) (.cons (i := 1) rfl (.cons (i := 2) rfl (.cons (i := 11) rfl (.nil)))) (fun wz hw => hw.pick [0, 1] rfl)
      · -- behind
        rintro states21 A19 c20 hd22 rfl
        obtain ⟨o26, hF26, hF⟩ := bnd hF
        refine W.join4 (Em := fun (people39 : (List ThreadsProcess)) (A37 : Option Addr) (c38 : Nat) (hd40 : List Hd) => []) (M := fun people39 A37 c38 hd40 => [cBx b18 145 (Value.slice A2 (types1).length c3 :: (Value.slice A19 (states21).length c20 :: (Value.slice A37 (people39).length c38 :: (Value.slice none 0 0 :: (Value.slice none 0 0 :: (Value.int .i64 0 :: [])))))), cN encSl (innSl (eI .i64) 1 3) 1 A19 c20 47 hd22 states21, cN encNThreadsProcess (innNThreadsProcess w) 6 A37 c38 149 hd40 people39]) (I := fun people39 A37 c38 hd40 => people39 = o26) (.cons (i := 2) rfl (.cons (i := 11) rfl (.nil))) (fun K27 hK27 => ?_) ?_
        · -- up to
          -- region 14: threads.go:105
          refine W.seqR fun Q28 hQ28 => ?_
          refine WL.q (Y.move (.pl rfl)) rfl ?_
          refine WL.q (Y.len Try.underlying22 (.pl rfl)) rfl ?_
          refine WL.q (Y.move (.pl rfl)) rfl ?_
          refine WL.next hQ28 (.cons (i := 2) rfl (.cons (i := 11) rfl (.cons (i := 58) rfl (.cons (i := 59) rfl (.cons (i := 60) rfl (.nil)))))) ?_
          refine W.block ?_
          refine W.loop5 (Em := fun (people43 : (List ThreadsProcess)) (v45 : Int) (A41 : Option Addr) (c42 : Nat) (hd44 : List Hd) => [(60, .int .i64 v45)]) (M := fun people43 v45 A41 c42 hd44 => [cBx b18 145 (Value.slice A2 (types1).length c3 :: (Value.slice A19 (states21).length c20 :: (Value.slice A41 (people43).length c42 :: (Value.slice none 0 0 :: (Value.slice none 0 0 :: (Value.int .i64 0 :: [])))))), cN encSl (innSl (eI .i64) 1 3) 1 A19 c20 47 hd22 states21, cN encNThreadsProcess (innNThreadsProcess w) 6 A41 c42 149 hd44 people43]) (I := fun people43 v45 A41 c42 hd44 k29 => iter (threads_Play_1_L9 N people6) k29 (people43, v45) = some o26) [] 0 none 0 [] N (hF26) (.cons rfl (.nil)) (.cons (i := 2) rfl (.cons (i := 11) rfl (.cons (i := 58) rfl (.cons (i := 59) rfl (.nil))))) (fun wz hw => (St.nilN (hw.pick [0, 1] rfl) encNThreadsProcess (innNThreadsProcess w) 6 149).pick [1, 2, 0] rfl) (fun people43 v45 A41 c42 hd44 k29 hI K30 hK30 => ?_)
          obtain ⟨k29, t29, rfl, hF29, hN29⟩ := iter_step hI
          -- region 15: threads.go:105
          refine W.know (fun wz hwz => bor_of (h0 := ((none, 0) : Hd)) (q := fun h a => SlIn encAsk 3 w (.slice h.1 a.program.length h.2) a.program) hwz (i := 2) rfl (fun _ _ => .head _)) (fun hbor32 => ?_)
          refine W.seqR fun Q31 hQ31 => ?_
          refine WL.q (Y.lss (.pl rfl) (.pl rfl)) rfl ?_
          refine WL.next hQ31 (.cons (i := 2) rfl (.cons (i := 11) rfl (.cons (i := 58) rfl (.cons (i := 59) rfl (.cons (i := 60) rfl (.cons (i := 61) rfl (.nil))))))) ?_
          refine W.seq fun K33 hK33 => ?_
          refine W.cond (.pl rfl) (fun hC34 => ?_) (fun hC34 => ?_)
          · replace hF29 := cpos hC34 hF29
            refine W.skip ?_
            refine W.go hK33 (.cons (i := 2) rfl (.cons (i := 11) rfl (.cons (i := 58) rfl (.cons (i := 59) rfl (.cons (i := 60) rfl (.nil)))))) ?_
            refine W.seq fun K35 hK35 => ?_
            refine W.block ?_
            -- region 16: threads.go:105
            refine W.seqR fun Q36 hQ36 => ?_
            obtain ⟨x46, hx46, hF29⟩ := bnd hF29
            refine WL.q (Y.nnEl Try.underlying22 cells41 hs10 (.pl rfl) (.pl rfl) (ix_lt (hx46))) rfl ?_
            refine WL.q (Y.loadNN Try.underlying41 rfl hs10 (.pl rfl) (hx46) rfl) rfl ?_
            refine WL.q (Y.assign (.pl rfl)) rfl ?_
            refine WL.next hQ36 (.cons (i := 2) rfl (.cons (i := 11) rfl (.cons (i := 17) rfl (.cons (i := 58) rfl (.cons (i := 59) rfl (.cons (i := 60) rfl (.nil))))))) ?_
            -- region 17: threads.go:106
            refine W.reg ?_
            refine WL.q (Y.move (.pl rfl)) rfl ?_
            refine WL.q (Y.move (.pl rfl)) rfl ?_
            refine WL.q (Y.nilCheck (.pl rfl)) rfl ?_
            refine WL.q (Y.fieldAddr0 (off := 2) (ft := 143) Try.underlying145 rfl cells143 (.pl rfl)) rfl ?_
            refine WL.q (Y.loadB (v := .slice A41 (people43).length c42) Try.underlying143 rfl (.pl rfl) (i := 0) rfl (rfl)) rfl ?_
            refine WL.q (Y.move (.pl rfl)) rfl ?_
            refine WL.q (Y.build (cs := (Value.slice (hd9.getD v45.toNat (none, 0)).1 (x46).length (hd9.getD v45.toNat (none, 0)).2 :: (Value.bool false :: (Value.int .i64 0 :: (Value.bool false :: (Value.bool false :: (Value.int .i64 0 :: [])))))).toArray) shape149 (.cons (.pl rfl) (.nil)) (one_parts ⟨rfl, trivial⟩) rfl) rfl ?_
            refine WL.step (WO.bsliceN (enc := encNThreadsProcess) (inn := (innNThreadsProcess w)) (hs := ([(((hd9.getD v45.toNat (none, 0)).1, (hd9.getD v45.toNat (none, 0)).2) : Hd)] : List Hd)) (xs := ([(ThreadsProcess.mk x46 false 0 false false 0)] : List ThreadsProcess)) Try.underlying143 bz149 (.cons (.pl rfl) (.nil)) rfl rfl rfl rfl rfl lenNThreadsProcess (by decide) (by decide) (.trans (.fact ((hs10.at (hx46)))) (.pick [0, 1, 2, 3] rfl)) rfl fun b47 => ?_)
            obtain ⟨hk50, hF29⟩ := ckh hF29
            refine WL.step (WO.appendN (enc := encNThreadsProcess) (inn := (innNThreadsProcess w)) (hs := hd44) Try.underlying143 ap149 lenNThreadsProcess oneNThreadsProcess (.pl rfl) rfl (.pl rfl) (i := 2) rfl (hk50) rfl fun A48 c49 => ?_)
            refine WL.q (Y.nilCheck (.pl rfl)) rfl ?_
            refine WL.q (Y.fieldAddr0 (off := 2) (ft := 143) Try.underlying145 rfl cells143 (.pl rfl)) rfl ?_
            refine WL.step (WO.storeB (cs' := (Value.slice A2 (types1).length c3 :: (Value.slice A19 (states21).length c20 :: (Value.slice A48 ((people43 ++ ([(ThreadsProcess.mk x46 false 0 false false 0)] : List ThreadsProcess))).length c49 :: (Value.slice none 0 0 :: (Value.slice none 0 0 :: (Value.int .i64 0 :: []))))))) cells143 (.pl rfl) (.pl rfl) rfl (i := 1) rfl (ltl (m := 6) (by decide) rfl) (rfl) ?_)
            refine WL.nil ?_
            refine W.go hK35 (.cons (i := 2) rfl (.cons (i := 11) rfl (.cons (i := 58) rfl (.cons (i := 59) rfl (.cons (i := 60) rfl (.nil)))))) ?_
            -- region 18: threads.go:105
            refine W.know (fun wz hwz => bor_of (h0 := ((none, 0) : Hd)) (q := fun h a => SlIn encAsk 3 w (.slice h.1 a.program.length h.2) a.program) hwz (i := 0) rfl (fun _ _ => .head _)) (fun hbor39 => ?_)
            refine W.reg ?_
            obtain ⟨hk51, hF29⟩ := ckh hF29
            refine WL.q (Y.add (.pl rfl) (.pl rfl) (ok64_lt (hk51))) rfl ?_
            refine WL.q (Y.move (.pl rfl)) rfl ?_
            refine WL.nil ?_
            obtain rfl := Option.some.inj hF29
            exact W.again5 hK30 (people43 ++ ([(ThreadsProcess.mk x46 false 0 false false 0)] : List ThreadsProcess)) (v45 + 1) A48 c49 (hd44 ++ ([(((hd9.getD v45.toNat (none, 0)).1, (hd9.getD v45.toNat (none, 0)).2) : Hd)] : List Hd)) k29 hN29 (Nat.lt_succ_self _) (.cons rfl (.nil)) (.cons (i := 2) rfl (.cons (i := 11) rfl (.cons (i := 58) rfl (.cons (i := 59) rfl (.nil))))) (fun wz hw => hw.pick [1, 2, 0] rfl)
          · replace hF29 := cneg hC34 hF29
            refine W.exit ?_
            obtain rfl := Option.some.inj hF29
            exact W.joinAt4 hK27 people43 A41 c42 hd44 (einr hN29) (.nil) (.cons (i := 2) rfl (.cons (i := 11) rfl (.nil))) (fun wz hw => hw.pick [0, 1, 2] rfl)
        · -- behind
          rintro people39 A37 c38 hd40 rfl
          obtain ⟨o40, hF40, hF⟩ := bnd hF
          refine W.join11 (Em := fun (states52 : (List (List Int))) (people54 : (List ThreadsProcess)) (events58 : (List Event)) (steps61 : (List Step)) (calls62 : Int) (hd53 : List Hd) (hd55 : List Hd) (A56 : Option Addr) (c57 : Nat) (A59 : Option Addr) (c60 : Nat) => []) (M := fun states52 people54 events58 steps61 calls62 hd53 hd55 A56 c57 A59 c60 => [cBx b18 145 (Value.slice A2 (types1).length c3 :: (Value.slice A19 (states52).length c20 :: (Value.slice A37 (people54).length c38 :: (Value.slice A56 (events58).length c57 :: (Value.slice A59 (steps61).length c60 :: (Value.int .i64 calls62 :: [])))))), cN encSl (innSl (eI .i64) 1 3) 1 A19 c20 47 hd53 states52, cN encNThreadsProcess (innNThreadsProcess w) 6 A37 c38 149 hd55 people54, cR encEvent 4 A56 c57 34 events58, cR encStep 2 A59 c60 77 steps61]) (I := fun states52 people54 events58 steps61 calls62 hd53 hd55 A56 c57 A59 c60 => (states52, people54, events58, steps61, calls62) = o40) (.cons (i := 11) rfl (.nil)) (fun K41 hK41 => ?_) ?_
          · -- up to
            -- region 19: threads.go:108
            refine W.know (fun wz hwz => bor_of (h0 := ((none, 0) : Hd)) (q := fun h a => SlIn encAsk 3 w (.slice h.1 a.program.length h.2) a.program) hwz (i := 2) rfl (fun _ _ => .head _)) (fun hbor43 => ?_)
            refine W.seqR fun Q42 hQ42 => ?_
            refine WL.q (Y.move (.pl rfl)) rfl ?_
            refine WL.q (Y.len Try.underlying47 (.pl rfl)) rfl ?_
            refine WL.q (Y.move (.pl rfl)) rfl ?_
            refine WL.next hQ42 (.cons (i := 11) rfl (.cons (i := 76) rfl (.cons (i := 77) rfl (.cons (i := 78) rfl (.nil))))) ?_
            refine W.block ?_
            refine W.loop12 (Em := fun (states63 : (List (List Int))) (people65 : (List ThreadsProcess)) (events69 : (List Event)) (steps72 : (List Step)) (calls73 : Int) (v74 : Int) (hd64 : List Hd) (hd66 : List Hd) (A67 : Option Addr) (c68 : Nat) (A70 : Option Addr) (c71 : Nat) => [(78, .int .i64 v74)]) (M := fun states63 people65 events69 steps72 calls73 v74 hd64 hd66 A67 c68 A70 c71 => [cBx b18 145 (Value.slice A2 (types1).length c3 :: (Value.slice A19 (states63).length c20 :: (Value.slice A37 (people65).length c38 :: (Value.slice A67 (events69).length c68 :: (Value.slice A70 (steps72).length c71 :: (Value.int .i64 calls73 :: [])))))), cN encSl (innSl (eI .i64) 1 3) 1 A19 c20 47 hd64 states63, cN encNThreadsProcess (innNThreadsProcess w) 6 A37 c38 149 hd66 people65, cR encEvent 4 A67 c68 34 events69, cR encStep 2 A70 c71 77 steps72]) (I := fun states63 people65 events69 steps72 calls73 v74 hd64 hd66 A67 c68 A70 c71 k44 => iter (threads_Play_1_L11 N turns11 types1) k44 (states63, people65, events69, steps72, calls73, v74) = some o40) states21 people39 [] [] 0 0 hd22 hd40 none 0 none 0 N (hF40) (.cons rfl (.nil)) (.cons (i := 11) rfl (.cons (i := 76) rfl (.cons (i := 77) rfl (.nil)))) (fun wz hw => (St.nilR (St.nilR (hw.pick [0, 1, 2] rfl) encEvent 4 34) encStep 2 77).pick [2, 3, 4, 1, 0] rfl) (fun states63 people65 events69 steps72 calls73 v74 hd64 hd66 A67 c68 A70 c71 k44 hI K45 hK45 => ?_)
            obtain ⟨k44, t44, rfl, hF44, hN44⟩ := iter_step hI
            -- region 20: threads.go:108
            refine W.know (fun wz hwz => bor_of (h0 := ((none, 0) : Hd)) (q := fun h a => SlIn encAsk 3 w (.slice h.1 a.program.length h.2) a.program) hwz (i := 2) rfl (fun _ _ => .head _)) (fun hbor47 => ?_)
            refine W.seqR fun Q46 hQ46 => ?_
            refine WL.q (Y.lss (.pl rfl) (.pl rfl)) rfl ?_
            refine WL.next hQ46 (.cons (i := 11) rfl (.cons (i := 76) rfl (.cons (i := 77) rfl (.cons (i := 78) rfl (.cons (i := 79) rfl (.nil)))))) ?_
            refine W.seq fun K48 hK48 => ?_
            refine W.cond (.pl rfl) (fun hC49 => ?_) (fun hC49 => ?_)
            · replace hF44 := cpos hC49 hF44
              refine W.skip ?_
              refine W.go hK48 (.cons (i := 11) rfl (.cons (i := 76) rfl (.cons (i := 77) rfl (.cons (i := 78) rfl (.nil))))) ?_
              refine W.seq fun K50 hK50 => ?_
              refine W.block ?_
              -- region 21: threads.go:108
              refine W.seqR fun Q51 hQ51 => ?_
              obtain ⟨x75, hx75, hF44⟩ := bnd hF44
              refine WL.q (Y.slEl Try.underlying47 cells3 hs14 (.pl rfl) (.pl rfl) (ix_lt (hx75))) rfl ?_
              refine WL.q (Y.loadS (enc := (eI .i64)) (v := .int .i64 x75) (j := 0) Try.underlying3 rfl hs14 (.pl rfl) (hx75) rfl rfl) rfl ?_
              refine WL.q (Y.assign (.pl rfl)) rfl ?_
              refine WL.next hQ51 (.cons (i := 11) rfl (.cons (i := 19) rfl (.cons (i := 76) rfl (.cons (i := 77) rfl (.cons (i := 78) rfl (.nil)))))) ?_
              -- region 22: threads.go:109
              refine W.reg ?_
              refine WL.q (Y.move (.pl rfl)) rfl ?_
              refine WL.q (Y.move (.pl rfl)) rfl ?_
              obtain ⟨r76, hr76, hF44⟩ := bnd hF44
              refine WL.step (WO.call (γ := (List Hd × List Hd × Option Addr × Nat × Option Addr × Nat)) (fun g => .tuple #[]) (fun g => [cBx b18 145 (Value.slice A2 (types1).length c3 :: (Value.slice A19 (r76.1).length c20 :: (Value.slice A37 (r76.2.1).length c38 :: (Value.slice g.2.2.1 (r76.2.2.1).length g.2.2.2.1 :: (Value.slice g.2.2.2.2.1 (r76.2.2.2.1).length g.2.2.2.2.2 :: (Value.int .i64 r76.2.2.2.2 :: [])))))), cN encSl (innSl (eI .i64) 1 3) 1 A19 c20 47 g.1 r76.1, cN encNThreadsProcess (innNThreadsProcess w) 6 A37 c38 149 g.2.1 r76.2.1, cR encEvent 4 g.2.2.1 g.2.2.2.1 34 r76.2.2.1, cR encStep 2 g.2.2.2.2.1 g.2.2.2.2.2 77 r76.2.2.2.1]) (fun g => True) isGo75 (.cons (.pl rfl) (.cons (.pl rfl) (.nil))) rfl (fun wz hw => threads_machine_turn_ok (T := []) (hr76) (hw.pick [0, 1, 2, 3, 4] rfl) hs4) ?_)
              rintro ⟨hd77, hd78, A79, c80, A81, c82⟩ -
              refine WL.nil ?_
              refine W.go hK50 (.cons (i := 11) rfl (.cons (i := 76) rfl (.cons (i := 77) rfl (.cons (i := 78) rfl (.nil))))) ?_
              -- region 23: threads.go:108
              refine W.know (fun wz hwz => bor_of (h0 := ((none, 0) : Hd)) (q := fun h a => SlIn encAsk 3 w (.slice h.1 a.program.length h.2) a.program) hwz (i := 2) rfl (fun _ _ => .head _)) (fun hbor54 => ?_)
              refine W.reg ?_
              obtain ⟨hk83, hF44⟩ := ckh hF44
              refine WL.q (Y.add (.pl rfl) (.pl rfl) (ok64_lt (hk83))) rfl ?_
              refine WL.q (Y.move (.pl rfl)) rfl ?_
              refine WL.nil ?_
              obtain rfl := Option.some.inj hF44
              exact W.again12 hK45 r76.1 r76.2.1 r76.2.2.1 r76.2.2.2.1 r76.2.2.2.2 (v74 + 1) hd77 hd78 A79 c80 A81 c82 k44 hN44 (Nat.lt_succ_self _) (.cons rfl (.nil)) (.cons (i := 11) rfl (.cons (i := 76) rfl (.cons (i := 77) rfl (.nil)))) (fun wz hw => hw.pick [0, 1, 2, 3, 4] rfl)
            · replace hF44 := cneg hC49 hF44
              refine W.exit ?_
              obtain rfl := Option.some.inj hF44
              exact W.joinAt11 hK41 states63 people65 events69 steps72 calls73 hd64 hd66 A67 c68 A70 c71 (einr hN44) (.nil) (.cons (i := 11) rfl (.nil)) (fun wz hw => hw.pick [0, 1, 2, 3, 4] rfl)
          · -- behind
            rintro states52 people54 events58 steps61 calls62 hd53 hd55 A56 c57 A59 c60 rfl
            -- region 24: threads.go:111
            refine W.know (fun wz hwz => bor_of (h0 := ((none, 0) : Hd)) (q := fun h a => SlIn encAsk 3 w (.slice h.1 a.program.length h.2) a.program) hwz (i := 2) rfl (fun _ _ => .head _)) (fun hbor56 => ?_)
            refine W.seqD (by kernel_rfl) (by kernel_rfl) fun R55 hR55 => ?_
            refine WD.q (Y.move (.pl rfl)) rfl ?_
            refine WD.q (Y.nilCheck (.pl rfl)) rfl ?_
            refine WD.q (Y.fieldAddr0 (off := 3) (ft := 26) Try.underlying145 rfl cells26 (.pl rfl)) rfl ?_
            refine WD.q (Y.loadB (v := .slice A56 (events58).length c57) Try.underlying26 rfl (.pl rfl) (i := 0) rfl (rfl)) rfl ?_
            refine WD.q (Y.move (.pl rfl)) rfl ?_
            refine WD.q (Y.nilCheck (.pl rfl)) rfl ?_
            refine WD.q (Y.fieldAddr0 (off := 4) (ft := 53) Try.underlying145 rfl cells53 (.pl rfl)) rfl ?_
            refine WD.q (Y.loadB (v := .slice A59 (steps61).length c60) Try.underlying53 rfl (.pl rfl) (i := 0) rfl (rfl)) rfl ?_
            refine WD.q (Y.assign (.pl rfl)) rfl ?_
            refine WD.q (Y.assign (.pl rfl)) rfl ?_
            refine WD.q (Y.assign (.pl rfl)) rfl ?_
            refine WD.next hR55 (.cons (i := 6) rfl (.cons (i := 7) rfl (.cons (i := 8) rfl (.nil)))) ?_
            obtain rfl := Option.some.inj hF
            refine W.retV (fn := Try.f41) (vs := [.slice A56 (events58).length c57, .slice A59 (steps61).length c60, .int .i64 0]) Try.results41 ⟨.tmp rfl, ⟨.tmp rfl, ⟨.tmp rfl, trivial⟩⟩⟩ (fun _ _ h => h) (fun wz hw => ?_)
            exact hR _ _ ⟨(A56, c57, A59, c60), trivial, rfl, (hw.pick [3, 4] rfl)⟩

def slices_Equal_api_Step_api_Step_L3 (N : Nat) (s11 : (List Step)) (s26 : (List Step)) : Int → Option (Int ⊕ (Unit ⊕ Bool))
  | v11 =>
    cond (decide (v11 < ((s11).length : Int)))
      (bd (ix s11 v11) fun (x12 : Step) =>
      bd (ix s26 v11) fun (x13 : Step) =>
      cond (!(decide (x12 = x13)))
        (some (.inr (.inr false)))
        (ck (ok64 (v11 + 1)) <|
        some (.inl (v11 + 1))))
      (some (.inr (.inl ())))

def slices_Equal_api_Step_api_Step (N : Nat) (s11 : (List Step)) (s26 : (List Step)) : Option Bool :=
  cond (!(decide (((s11).length : Int) = ((s26).length : Int))))
    (some false)
    (bd (α := (Unit ⊕ Bool)) (iter (slices_Equal_api_Step_api_Step_L3 N s11 s26) N 0) <|
    Sum.elim (fun _ => 
      some true) (fun p => some p))

theorem slices_Equal_api_Step_api_Step_ok {N : Nat} {s11 : (List Step)} {s26 : (List Step)} {res : Bool} (hF : slices_Equal_api_Step_api_Step N s11 s26 = some res) (w : World) {v5 : Value} (hs4 : SlIn encStep 2 w v5 s11) {v10 : Value} (hs9 : SlIn encStep 2 w v10 s26) :
    Pure Try.prog 43 [v5, v10] w (.bool res) := by
  obtain ⟨A2, c3, rfl, hcc3, hs4⟩ := hs4.form
  obtain ⟨A7, c8, rfl, hcc8, hs9⟩ := hs9.form
  refine W.enter (n := 26) Try.func43 rfl rfl Sub.refl (by simp) (St.start w) fun R hR => ?_
  unfold slices_Equal_api_Step_api_Step at hF
  -- region 0: slices.go:20
  refine W.seqR fun Q1 hQ1 => ?_
  refine WL.q (Y.assign (.pl rfl)) rfl ?_
  refine WL.next hQ1 (.cons (i := 0) rfl (.cons (i := 1) rfl (.nil))) ?_
  refine W.seq fun K2 hK2 => ?_
  -- region 1: slices.go:21
  refine W.seqR fun Q3 hQ3 => ?_
  refine WL.q (Y.move (.pl rfl)) rfl ?_
  refine WL.q (Y.len Try.underlying53 (.pl rfl)) rfl ?_
  refine WL.q (Y.move (.pl rfl)) rfl ?_
  refine WL.q (Y.len Try.underlying53 (.pl rfl)) rfl ?_
  refine WL.q (Y.neq (.pl rfl) (.pl rfl)) rfl ?_
  refine WL.next hQ3 (.cons (i := 0) rfl (.cons (i := 1) rfl (.cons (i := 10) rfl (.nil)))) ?_
  refine W.cond (.pl rfl) (fun hC4 => ?_) (fun hC4 => ?_)
  · replace hF := cpos hC4 hF
    -- region 2: slices.go:22
    refine W.seqR fun Q5 hQ5 => ?_
    refine WL.q (Y.assign (.pl rfl)) rfl ?_
    refine WL.next hQ5 (.cons (i := 4) rfl (.nil)) ?_
    obtain rfl := Option.some.inj hF
    refine W.retV (fn := Try.f43) (vs := [.bool false]) Try.results43 ⟨.tmp rfl, trivial⟩ (fun _ _ h => h) (fun wz hw => ?_)
    exact hR _ _ ⟨rfl, (hw.pick [] rfl)⟩
  · replace hF := cneg hC4 hF
    refine W.skip ?_
    refine W.go hK2 (.cons (i := 0) rfl (.cons (i := 1) rfl (.nil))) ?_
    obtain ⟨o6, hF6, hF⟩ := bnd hF
    refine W.join0 (Em := []) (M := []) (I := (.inl ()) = o6) (.nil) (fun K7 hK7 => ?_) ?_
    · -- up to
      -- region 3: slices.go:24
      refine W.seqR fun Q8 hQ8 => ?_
      refine WL.q (Y.move (.pl rfl)) rfl ?_
      refine WL.q (Y.len Try.underlying53 (.pl rfl)) rfl ?_
      refine WL.q (Y.move (.pl rfl)) rfl ?_
      refine WL.next hQ8 (.cons (i := 0) rfl (.cons (i := 1) rfl (.cons (i := 12) rfl (.cons (i := 13) rfl (.nil))))) ?_
      refine W.block ?_
      refine W.loop1 (Em := fun (v11 : Int) => [(13, .int .i64 v11)]) (M := fun v11 => []) (I := fun v11 k9 => iter (slices_Equal_api_Step_api_Step_L3 N s11 s26) k9 v11 = some o6) 0 N (hF6) (.cons rfl (.nil)) (.cons (i := 0) rfl (.cons (i := 1) rfl (.cons (i := 12) rfl (.nil)))) (fun wz hw => hw.pick [] rfl) (fun v11 k9 hI K10 hK10 => ?_)
      obtain ⟨k9, t9, rfl, hF9, hN9⟩ := iter_step hI
      -- region 4: slices.go:24
      refine W.seqR fun Q11 hQ11 => ?_
      refine WL.q (Y.lss (.pl rfl) (.pl rfl)) rfl ?_
      refine WL.next hQ11 (.cons (i := 0) rfl (.cons (i := 1) rfl (.cons (i := 12) rfl (.cons (i := 13) rfl (.cons (i := 14) rfl (.nil)))))) ?_
      refine W.seq fun K12 hK12 => ?_
      refine W.cond (.pl rfl) (fun hC13 => ?_) (fun hC13 => ?_)
      · replace hF9 := cpos hC13 hF9
        refine W.skip ?_
        refine W.go hK12 (.cons (i := 0) rfl (.cons (i := 1) rfl (.cons (i := 12) rfl (.cons (i := 13) rfl (.nil))))) ?_
        refine W.seq fun K14 hK14 => ?_
        refine W.block ?_
        -- region 5: slices.go:24
        refine W.seqR fun Q15 hQ15 => ?_
        refine WL.q (Y.move (.pl rfl)) rfl ?_
        refine WL.q (Y.assign (.pl rfl)) rfl ?_
        refine WL.next hQ15 (.cons (i := 0) rfl (.cons (i := 1) rfl (.cons (i := 5) rfl (.cons (i := 12) rfl (.cons (i := 13) rfl (.nil)))))) ?_
        -- region 6: slices.go:25
        refine W.seqD (by kernel_rfl) (by kernel_rfl) fun R16 hR16 => ?_
        refine WD.q (Y.move (.pl rfl)) rfl ?_
        refine WD.q (Y.move (.pl rfl)) rfl ?_
        obtain ⟨x12, hx12, hF9⟩ := bnd hF9
        refine WD.q (Y.slEl Try.underlying53 cells77 hs4 (.pl rfl) (.pl rfl) (ix_lt (hx12))) rfl ?_
        refine WD.q (Y.loadSA (enc := encStep) (ds := (encStep x12)) (j := 0) Try.underlying77 rfl cells77 hs4 (.pl rfl) (hx12) rfl rfl subW) rfl ?_
        refine WD.q (Y.move (.pl rfl)) rfl ?_
        refine WD.q (Y.move (.pl rfl)) rfl ?_
        obtain ⟨x13, hx13, hF9⟩ := bnd hF9
        refine WD.q (Y.slEl Try.underlying53 cells77 hs9 (.pl rfl) (.pl rfl) (ix_lt (hx13))) rfl ?_
        refine WD.q (Y.loadSA (enc := encStep) (ds := (encStep x13)) (j := 0) Try.underlying77 rfl cells77 hs9 (.pl rfl) (hx13) rfl rfl subW) rfl ?_
        refine WD.q (Y.neqS eqs77 (.pl rfl) (.pl rfl) (eqStep x12 x13)) rfl ?_
        refine WD.next hR16 (.cons (i := 0) rfl (.cons (i := 1) rfl (.cons (i := 12) rfl (.cons (i := 13) rfl (.cons (i := 24) rfl (.nil)))))) ?_
        refine W.cond (.pl rfl) (fun hC17 => ?_) (fun hC17 => ?_)
        · replace hF9 := cpos hC17 hF9
          -- region 7: slices.go:26
          refine W.seqR fun Q18 hQ18 => ?_
          refine WL.q (Y.assign (.pl rfl)) rfl ?_
          refine WL.next hQ18 (.cons (i := 4) rfl (.nil)) ?_
          obtain rfl := Option.some.inj hF9
          obtain rfl := einr hN9
          obtain rfl := Option.some.inj hF
          refine W.retV (fn := Try.f43) (vs := [.bool false]) Try.results43 ⟨.tmp rfl, trivial⟩ (fun _ _ h => h) (fun wz hw => ?_)
          exact hR _ _ ⟨rfl, (hw.pick [] rfl)⟩
        · replace hF9 := cneg hC17 hF9
          refine W.skip ?_
          refine W.go hK14 (.cons (i := 0) rfl (.cons (i := 1) rfl (.cons (i := 12) rfl (.cons (i := 13) rfl (.nil))))) ?_
          -- region 8: slices.go:24
          refine W.reg ?_
          obtain ⟨hk14, hF9⟩ := ckh hF9
          refine WL.q (Y.add (.pl rfl) (.pl rfl) (ok64_lt (hk14))) rfl ?_
          refine WL.q (Y.move (.pl rfl)) rfl ?_
          refine WL.nil ?_
          obtain rfl := Option.some.inj hF9
          exact W.again1 hK10 (v11 + 1) k9 hN9 (Nat.lt_succ_self _) (.cons rfl (.nil)) (.cons (i := 0) rfl (.cons (i := 1) rfl (.cons (i := 12) rfl (.nil)))) (fun wz hw => hw.pick [] rfl)
      · replace hF9 := cneg hC13 hF9
        refine W.exit ?_
        obtain rfl := Option.some.inj hF9
        exact W.joinAt0 hK7  (einr hN9) (.nil) (.nil) (fun wz hw => hw.pick [] rfl)
    · -- behind
      rintro  rfl
      -- region 9: slices.go:29
      refine W.seqR fun Q20 hQ20 => ?_
      refine WL.q (Y.assign (.pl rfl)) rfl ?_
      refine WL.next hQ20 (.cons (i := 4) rfl (.nil)) ?_
      obtain rfl := Option.some.inj hF
      refine W.retV (fn := Try.f43) (vs := [.bool true]) Try.results43 ⟨.tmp rfl, trivial⟩ (fun _ _ h => h) (fun wz hw => ?_)
      exact hR _ _ ⟨rfl, (hw.pick [] rfl)⟩

def alibkeep_threadsLives (N : Nat) : Option Bool :=
  bd (threads_Play_1 N ([1] : List Int) ([([(Ask.mk 0 1 5)] : List Ask), ([(Ask.mk 0 2 0)] : List Ask)] : List (List Ask)) ([0, 1, 1, 0, 1] : List Int)) fun (r6 : ((List Event) × (List Step) × Int)) =>
  bd (α := Bool) (cond ((decide (r6.2.2 = 0)) == true)
      (bd (slices_Equal_api_Step_api_Step N r6.2.1 ([(Step.mk 1 0), (Step.mk 0 0)] : List Step)) fun (r13 : Bool) =>
      bd ((cond ((((decide (r6.2.2 = 0)) && r13) && (decide (((r6.1).length : Int) = 3))) == true) (ix r6.1 2) (some Event.z))) fun (x14 : Event) =>
      some ((((decide (r6.2.2 = 0)) && r13) && (decide (((r6.1).length : Int) = 3))) && (decide (x14 = (Event.mk 1 0 0 0)))))
      (bd ((cond ((((decide (r6.2.2 = 0)) && false) && (decide (((r6.1).length : Int) = 3))) == true) (ix r6.1 2) (some Event.z))) fun (x15 : Event) =>
      some ((((decide (r6.2.2 = 0)) && false) && (decide (((r6.1).length : Int) = 3))) && (decide (x15 = (Event.mk 1 0 0 0)))))) <|
  fun (v11 : Bool) => 
    some v11

theorem alibkeep_threadsLives_ok {N : Nat} {res : Bool} (hF : alibkeep_threadsLives N = some res) (w : World) :
    Pure Try.prog 42 [] w (.bool res) := by
  refine W.enter (n := 37) Try.func42 rfl rfl Sub.refl (by simp) (St.start w) fun R hR => ?_
  unfold alibkeep_threadsLives at hF
  -- region 0: threads.go:13
  refine W.seqR fun Q1 hQ1 => ?_
  refine WL.q (Y.assign (.pl rfl)) rfl ?_
  refine WL.next hQ1 (.nil) ?_
  -- region 1: threads.go:14
  refine W.seqR fun Q2 hQ2 => ?_
  refine WL.step (WO.bsliceC (enc := (eI .i64)) (ys := ([1] : List Int)) Try.underlying47 bz3 (.cons (.pl rfl) (.nil)) rfl (fun _ => rfl) rfl rfl (by decide) (by decide) rfl fun b1 => ?_)
  refine WL.q (Y.build (cs := (encAsk (Ask.mk 0 1 5)).toArray) shape58 (.cons (.pl rfl) (.cons (.pl rfl) (.nil))) (one_parts ⟨rfl, ⟨rfl, trivial⟩⟩) rfl) rfl ?_
  refine WL.step (WO.bsliceC (enc := encAsk) (ys := ([(Ask.mk 0 1 5)] : List Ask)) Try.underlying41 bz58 (.cons (.pl rfl) (.nil)) rfl lenAsk rfl rfl (by decide) (by decide) rfl fun b2 => ?_)
  refine WL.q (Y.build (cs := (encAsk (Ask.mk 0 2 0)).toArray) shape58 (.cons (.pl rfl) (.nil)) (one_parts ⟨rfl, trivial⟩) rfl) rfl ?_
  refine WL.step (WO.bsliceC (enc := encAsk) (ys := ([(Ask.mk 0 2 0)] : List Ask)) Try.underlying41 bz58 (.cons (.pl rfl) (.nil)) rfl lenAsk rfl rfl (by decide) (by decide) rfl fun b3 => ?_)
  refine WL.step (WO.bsliceN (enc := encSl) (inn := (innSl encAsk 3 58)) (hs := ([(((some ⟨b2, 0, none⟩), (([(Ask.mk 0 1 5)] : List Ask)).length) : Hd), (((some ⟨b3, 0, none⟩), (([(Ask.mk 0 2 0)] : List Ask)).length) : Hd)] : List Hd)) (xs := ([([(Ask.mk 0 1 5)] : List Ask), ([(Ask.mk 0 2 0)] : List Ask)] : List (List Ask))) Try.underlying22 bz41 (.cons (.pl rfl) (.cons (.pl rfl) (.nil))) rfl rfl rfl rfl rfl lenSl (by decide) (by decide) (.pick [1, 0, 2] rfl) rfl fun b4 => ?_)
  refine WL.step (WO.bsliceC (enc := (eI .i64)) (ys := ([0, 1, 1, 0, 1] : List Int)) Try.underlying47 bz3 (.cons (.pl rfl) (.cons (.pl rfl) (.cons (.pl rfl) (.cons (.pl rfl) (.cons (.pl rfl) (.nil)))))) rfl (fun _ => rfl) rfl rfl (by decide) (by decide) rfl fun b5 => ?_)
  obtain ⟨r6, hr6, hF⟩ := bnd hF
  refine WL.step (WO.callM isGo41 (.cons (.pl rfl) (.cons (.pl rfl) (.cons (.pl rfl) (.nil)))) rfl (fun wz hw => threads_Play_1_ok (hr6) wz (SlIn.ofRow (fun _ => rfl) hw (i := 2) rfl) (SlNN.ofN lenAsk hw (i := 1) rfl) (SlIn.ofRow (fun _ => rfl) hw (i := 0) rfl)) ?_)
  rintro ⟨A7, c8, A9, c10⟩ -
  refine WL.q (Y.move (.pl rfl)) rfl ?_
  refine WL.q (Y.extract (.pl rfl) rfl) rfl ?_
  refine WL.q (Y.extract (.pl rfl) rfl) rfl ?_
  refine WL.q (Y.extract (.pl rfl) rfl) rfl ?_
  refine WL.q (Y.assign (.pl rfl)) rfl ?_
  refine WL.q (Y.assign (.pl rfl)) rfl ?_
  refine WL.q (Y.assign (.pl rfl)) rfl ?_
  refine WL.next hQ2 (.cons (i := 1) rfl (.cons (i := 2) rfl (.cons (i := 3) rfl (.nil)))) ?_
  obtain ⟨o3, hF3, hF⟩ := bnd hF
  refine W.join1 (Em := fun (v11 : Bool) => [(0, .bool v11)]) (M := fun v11 => []) (I := fun v11 => v11 = o3) (.nil) (fun K4 hK4 => ?_) ?_
  · -- up to
    -- region 2: threads.go:15
    refine W.reg ?_
    refine WL.q (Y.move (.pl rfl)) rfl ?_
    refine WL.q (Y.eql (.pl rfl) (.pl rfl)) rfl ?_
    refine WL.q (Y.move (.pl rfl)) rfl ?_
    refine WL.g (.pl rfl rfl rfl) (fun hg => Y.move (.pl rfl)) rfl ?_
    refine WL.g (.pl rfl rfl rfl) (fun hg => Y.build (cs := (encStep (Step.mk 1 0)).toArray) shape77 (.cons (.pl rfl) (.nil)) (one_parts ⟨rfl, trivial⟩) rfl) rfl ?_
    refine WL.g (.pl rfl rfl rfl) (fun hg => Y.build (cs := (encStep (Step.mk 0 0)).toArray) shape77 (.cons (.pl rfl) (.nil)) (one_parts ⟨rfl, trivial⟩) rfl) rfl ?_
    refine bsplit ((decide (r6.2.2 = 0)) == true) (fun hg5 => ?_) (fun hg5 => ?_)
    · replace hF3 := cpos hg5 hF3
      refine WL.gd (.pl rfl rfl rfl) (hg5) ?_
      refine WL.step (WO.bsliceC (enc := encStep) (ys := ([(Step.mk 1 0), (Step.mk 0 0)] : List Step)) Try.underlying53 bz77 (.cons (.gd (hg5) rfl) (.cons (.gd (hg5) rfl) (.nil))) rfl lenStep rfl rfl (by decide) (by decide) rfl fun b12 => ?_)
      refine WL.gd (.pl rfl rfl rfl) (hg5) ?_
      obtain ⟨r13, hr13, hF3⟩ := bnd hF3
      refine WL.step (WO.callP isGo43 (.cons (.gd (hg5) rfl) (.cons (.pl rfl) (.nil))) rfl (fun wz hw => slices_Equal_api_Step_api_Step_ok (hr13) wz (SlIn.ofRow lenStep hw (i := 2) rfl) (SlIn.ofRow lenStep hw (i := 0) rfl)) ?_)
      refine WL.q (Y.and (.pl rfl) (fun _ => .pl rfl)) rfl ?_
      refine WL.q (Y.move (.pl rfl)) rfl ?_
      refine WL.g (.pl rfl rfl rfl) (fun hg => Y.move (.pl rfl)) rfl ?_
      refine WL.g (.pl rfl rfl rfl) (fun hg => Y.len Try.underlying26 (.gd (hg) rfl)) rfl ?_
      refine WL.g (.pl rfl rfl rfl) (fun hg => Y.eql (.gd (hg) rfl) (.pl rfl)) rfl ?_
      refine WL.q (Y.and (.pl rfl) (fun h2 => .gd (eqt h2) rfl)) rfl ?_
      refine WL.q (Y.move (.pl rfl)) rfl ?_
      refine WL.g (.pl rfl rfl rfl) (fun hg => Y.move (.pl rfl)) rfl ?_
      obtain ⟨x14, hx14, hF3⟩ := bnd hF3
      refine WL.g (.pl rfl rfl rfl) (fun hg => Y.rowEl Try.underlying26 cells34 (i := 1) rfl (.gd (hg) rfl) rfl (.pl rfl) (ix_lt (gpos hg hx14))) rfl ?_
      refine WL.g (.pl rfl rfl rfl) (fun hg => Y.loadRA (enc := encEvent) (ds := (encEvent x14)) (a := x14) (idx := 2) (j := 0) Try.underlying34 rfl cells34 lenEvent (i := 1) rfl (.gd (hg) rfl) (ix_get (gpos hg hx14)) rfl rfl subW) rfl ?_
      refine WL.g (.pl rfl rfl rfl) (fun hg => Y.build (cs := (encEvent (Event.mk 1 0 0 0)).toArray) shape34 (.cons (.pl rfl) (.nil)) (one_parts ⟨rfl, trivial⟩) rfl) rfl ?_
      refine WL.g (.pl rfl rfl rfl) (fun hg => Y.eqlS eqs34 (.gd (hg) rfl) (.gd (hg) rfl) (eqEvent x14 (Event.mk 1 0 0 0))) rfl ?_
      refine WL.q (Y.and (.pl rfl) (fun h2 => .gd (eqt h2) rfl)) rfl ?_
      refine WL.q (Y.assign (.pl rfl)) rfl ?_
      refine WL.nil ?_
      exact W.joinAt1 hK4 ((((decide (r6.2.2 = 0)) && r13) && (decide (((r6.1).length : Int) = 3))) && (decide (x14 = (Event.mk 1 0 0 0)))) (Option.some.inj hF3) (.cons rfl (.nil)) (.nil) (fun wz hw => hw.pick [] rfl)
    · replace hF3 := cneg hg5 hF3
      refine WL.gn (.pl rfl rfl rfl) hg5 rfl ?_
      refine WL.gn (.pl rfl rfl rfl) hg5 rfl ?_
      refine WL.q (Y.and (b := false) (.pl rfl) (fun h2 => (gabsA hg5 h2).elim)) rfl ?_
      refine WL.q (Y.move (.pl rfl)) rfl ?_
      refine WL.g (.pl rfl rfl rfl) (fun hg => Y.move (.pl rfl)) rfl ?_
      refine WL.g (.pl rfl rfl rfl) (fun hg => Y.len Try.underlying26 (.gd (hg) rfl)) rfl ?_
      refine WL.g (.pl rfl rfl rfl) (fun hg => Y.eql (.gd (hg) rfl) (.pl rfl)) rfl ?_
      refine WL.q (Y.and (.pl rfl) (fun h2 => .gd (eqt h2) rfl)) rfl ?_
      refine WL.q (Y.move (.pl rfl)) rfl ?_
      refine WL.g (.pl rfl rfl rfl) (fun hg => Y.move (.pl rfl)) rfl ?_
      obtain ⟨x15, hx15, hF3⟩ := bnd hF3
      refine WL.g (.pl rfl rfl rfl) (fun hg => Y.rowEl Try.underlying26 cells34 (i := 0) rfl (.gd (hg) rfl) rfl (.pl rfl) (ix_lt (gpos hg hx15))) rfl ?_
      refine WL.g (.pl rfl rfl rfl) (fun hg => Y.loadRA (enc := encEvent) (ds := (encEvent x15)) (a := x15) (idx := 2) (j := 0) Try.underlying34 rfl cells34 lenEvent (i := 0) rfl (.gd (hg) rfl) (ix_get (gpos hg hx15)) rfl rfl subW) rfl ?_
      refine WL.g (.pl rfl rfl rfl) (fun hg => Y.build (cs := (encEvent (Event.mk 1 0 0 0)).toArray) shape34 (.cons (.pl rfl) (.nil)) (one_parts ⟨rfl, trivial⟩) rfl) rfl ?_
      refine WL.g (.pl rfl rfl rfl) (fun hg => Y.eqlS eqs34 (.gd (hg) rfl) (.gd (hg) rfl) (eqEvent x15 (Event.mk 1 0 0 0))) rfl ?_
      refine WL.q (Y.and (.pl rfl) (fun h2 => .gd (eqt h2) rfl)) rfl ?_
      refine WL.q (Y.assign (.pl rfl)) rfl ?_
      refine WL.nil ?_
      exact W.joinAt1 hK4 ((((decide (r6.2.2 = 0)) && false) && (decide (((r6.1).length : Int) = 3))) && (decide (x15 = (Event.mk 1 0 0 0)))) (Option.some.inj hF3) (.cons rfl (.nil)) (.nil) (fun wz hw => hw.pick [] rfl)
  · -- behind
    rintro v11 rfl
    obtain rfl := Option.some.inj hF
    refine W.retV (fn := Try.f42) (vs := [.bool v11]) Try.results42 ⟨.tmp rfl, trivial⟩ (fun _ _ h => h) (fun wz hw => ?_)
    exact hR _ _ ⟨rfl, (hw.pick [] rfl)⟩

end Go.Proofs.Yteklmleiiiodfaa
