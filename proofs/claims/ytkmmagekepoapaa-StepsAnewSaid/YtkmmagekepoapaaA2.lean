/- Steps: what the code computes, and the walks. -/
import Derived.Test.YtkmmagekepoapaaA1
set_option linter.unusedVariables false
set_option linter.unusedSimpArgs false
set_option linter.unusedSectionVars false
set_option maxRecDepth 100000
namespace Go.Proofs.Ytkmmagekepoapaa
open Go.RowKit
structure StepsNode where
  value : Int
  next : Int
deriving DecidableEq
def StepsNode.z : StepsNode := ⟨0, (-1)⟩
def encStepsNode (bs : List Nat) (x : StepsNode) : List Value := (Value.int .i64 x.value :: (Value.pointer (pt bs x.next) :: []))
theorem lenStepsNode (bs : List Nat) (x : StepsNode) : (encStepsNode bs x).length = 2 := rfl
theorem oneStepsNode (bs : List Nat) : ∀ x, ∀ v ∈ encStepsNode bs x, v.oneCell' = true := fun x => (one_cons rfl (one_cons rfl one_nil))
def vpStepsNode (m : Nat) (x : StepsNode) : Bool := vp m x.next
theorem growStepsNode {bs : List Nat} {m : Nat} (hl : bs.length = m) (b : Nat) {x : StepsNode} (h : vpStepsNode m x = true) : encStepsNode bs x = encStepsNode (bs ++ [b]) x := by
  simp only [vpStepsNode, Bool.and_eq_true] at h
  simp only [encStepsNode, pt_grow hl h b]
structure StepsProcess where
  program : List Ask
  pending : Bool
  complete : Bool
  res : Int
  item : Int
  n : Int
  x : Int
  y : Int
  z_ : Int
  own : Int
deriving DecidableEq
def StepsProcess.z : StepsProcess := ⟨[], false, false, 0, 0, 0, (-1), (-1), (-1), (-1)⟩
def encNStepsProcess (bs : List Nat) (h : Hd) (x : StepsProcess) : List Value := (Value.slice h.1 x.program.length h.2 :: (Value.bool x.pending :: (Value.bool x.complete :: (Value.int .i64 x.res :: (Value.int .i64 x.item :: (Value.int .i64 x.n :: (Value.pointer (pt bs x.x) :: (Value.pointer (pt bs x.y) :: (Value.pointer (pt bs x.z_) :: (Value.pointer (pt bs x.own) :: []))))))))))
def innNStepsProcess (wq : World) (h : Hd) (x : StepsProcess) : List Chunk := [cF (SlIn encAsk 3 wq (.slice h.1 x.program.length h.2) x.program)]
theorem lenNStepsProcess (bs : List Nat) (h : Hd) (x : StepsProcess) : (encNStepsProcess bs h x).length = 10 := rfl
theorem oneNStepsProcess (bs : List Nat) (h : Hd) (x : StepsProcess) : ∀ v ∈ encNStepsProcess bs h x, v.oneCell' = true := (one_cons rfl (one_cons rfl (one_cons rfl (one_cons rfl (one_cons rfl (one_cons rfl (one_cons rfl (one_cons rfl (one_cons rfl (one_cons rfl one_nil))))))))))
def vpStepsProcess (m : Nat) (x : StepsProcess) : Bool := vp m x.x && (vp m x.y && (vp m x.z_ && (vp m x.own)))
theorem growStepsProcess {bs : List Nat} {m : Nat} (hl : bs.length = m) (b : Nat) (h0 : Hd) {x : StepsProcess} (h : vpStepsProcess m x = true) : encNStepsProcess bs h0 x = encNStepsProcess (bs ++ [b]) h0 x := by
  simp only [vpStepsProcess, Bool.and_eq_true] at h
  obtain ⟨h1, h2, h3, h4⟩ := h
  simp only [encNStepsProcess, pt_grow hl h1 b, pt_grow hl h2 b, pt_grow hl h3 b, pt_grow hl h4 b]
theorem nilNStepsProcess (wq : World) : ∀ c ∈ innNStepsProcess wq ((none, 0) : Hd) StepsProcess.z, c.own = [] ∧ ∀ f, c.ok f := by
  intro c hc
  simp only [innNStepsProcess, List.mem_cons, List.not_mem_nil, or_false] at hc
  subst hc
  exact ⟨rfl, fun f => SlIn.nil0⟩
structure Event where
  who : Int
  thing : Int
  kind : Int
  value : Int
deriving DecidableEq
def Event.z : Event := ⟨0, 0, 0, 0⟩
def encEvent (x : Event) : List Value := (Value.int .i64 x.who :: (Value.int .i64 x.thing :: (Value.int .i64 x.kind :: (Value.int .i64 x.value :: []))))
theorem lenEvent (x : Event) : (encEvent x).length = 4 := rfl
theorem eqEvent (x y : Event) : eqCells [true, true, true, true] (encEvent x) (encEvent y) = some (decide (x = y)) := by
  cases x; cases y; simp [encEvent, eqCells, Event.mk.injEq, Bool.beq_eq_decide_eq]
theorem oneEvent : ∀ x, ∀ v ∈ encEvent x, v.oneCell' = true := fun x => (one_cons rfl (one_cons rfl (one_cons rfl (one_cons rfl one_nil))))
theorem cells4 : Try.prog.cellsOf 4 = 0 + 1 := by kernel_rfl
theorem cells24 : Try.prog.cellsOf 24 = 0 + 1 := by kernel_rfl
theorem cells25 : Try.prog.cellsOf 25 = 0 + 1 := by kernel_rfl
theorem cells31 : Try.prog.cellsOf 31 = 3 + 1 := by kernel_rfl
theorem cells73 : Try.prog.cellsOf 73 = 0 + 1 := by kernel_rfl
theorem cells76 : Try.prog.cellsOf 76 = 0 + 1 := by kernel_rfl
theorem cells80 : Try.prog.cellsOf 80 = 9 + 1 := by kernel_rfl
theorem isGo10 : IsGo Try.prog 10 := ⟨_, Try.func10, by kernel_rfl, rfl⟩
theorem isGo15 : IsGo Try.prog 15 := ⟨_, Try.func15, by kernel_rfl, rfl⟩
theorem isGo20 : IsGo Try.prog 20 := ⟨_, Try.func20, by kernel_rfl, rfl⟩
theorem isGo27 : IsGo Try.prog 27 := ⟨_, Try.func27, by kernel_rfl, rfl⟩
theorem isGo30 : IsGo Try.prog 30 := ⟨_, Try.func30, by kernel_rfl, rfl⟩
theorem isGo31 : IsGo Try.prog 31 := ⟨_, Try.func31, by kernel_rfl, rfl⟩
theorem isGo32 : IsGo Try.prog 32 := ⟨_, Try.func32, by kernel_rfl, rfl⟩
theorem isGo59 : IsGo Try.prog 59 := ⟨_, Try.func59, by kernel_rfl, rfl⟩
theorem isGo84 : IsGo Try.prog 84 := ⟨_, Try.func84, by kernel_rfl, rfl⟩
theorem isGo85 : IsGo Try.prog 85 := ⟨_, Try.func85, by kernel_rfl, rfl⟩
theorem isGo86 : IsGo Try.prog 86 := ⟨_, Try.func86, by kernel_rfl, rfl⟩
theorem isGo87 : IsGo Try.prog 87 := ⟨_, Try.func87, by kernel_rfl, rfl⟩
theorem isGo88 : IsGo Try.prog 88 := ⟨_, Try.func88, by kernel_rfl, rfl⟩
theorem isGo104 : IsGo Try.prog 104 := ⟨_, Try.func104, by kernel_rfl, rfl⟩
theorem isGo105 : IsGo Try.prog 105 := ⟨_, Try.func105, by kernel_rfl, rfl⟩
theorem bz3 : ∃ i, Try.prog.info? 3 = some i ∧ i.zero = some (Value.int .i64 0) ∧ i.size = 1 := ⟨_, rfl, by kernel_rfl, by kernel_rfl⟩
theorem bz25 : ∃ i, Try.prog.info? 25 = some i ∧ i.zero = some (Value.int .i64 0) ∧ i.size = 1 := ⟨_, rfl, by kernel_rfl, by kernel_rfl⟩
theorem bz31 : ∃ i, Try.prog.info? 31 = some i ∧ i.zero = some (Value.agg #[(Value.int .i64 0), (Value.int .i64 0), (Value.int .i64 0), (Value.int .i64 0)]) ∧ i.size = 4 := ⟨_, rfl, by kernel_rfl, by kernel_rfl⟩
theorem bz33 : ∃ i, Try.prog.info? 33 = some i ∧ i.zero = some (Value.slice none 0 0) ∧ i.size = 1 := ⟨_, rfl, by kernel_rfl, by kernel_rfl⟩
theorem bz75 : ∃ i, Try.prog.info? 75 = some i ∧ i.zero = some (Value.agg #[(Value.int .i64 0), (Value.pointer none)]) ∧ i.size = 2 := ⟨_, rfl, by kernel_rfl, by kernel_rfl⟩
theorem bz80 : ∃ i, Try.prog.info? 80 = some i ∧ i.zero = some (Value.agg #[(Value.slice none 0 0), (Value.bool false), (Value.bool false), (Value.int .i64 0), (Value.int .i64 0), (Value.int .i64 0), (Value.pointer none), (Value.pointer none), (Value.pointer none), (Value.pointer none)]) ∧ i.size = 10 := ⟨_, rfl, by kernel_rfl, by kernel_rfl⟩
theorem bz83 : ∃ i, Try.prog.info? 83 = some i ∧ i.zero = some (Value.agg #[(Value.int .i64 0), (Value.int .i64 0), (Value.int .i64 0)]) ∧ i.size = 3 := ⟨_, rfl, by kernel_rfl, by kernel_rfl⟩
theorem eqs31 : EqShape Try.prog 31 [true, true, true, true] := ⟨_, Try.underlying31, by kernel_rfl, by kernel_rfl, by kernel_rfl⟩
theorem ap31 : ∃ i z, Try.prog.info? 31 = some i ∧ i.zero = some z ∧ i.size = 4 ∧ i.bytes = 32 ∧ z.cells.size = 4 ∧ 0 < 4 := ⟨_, (Value.agg #[(Value.int .i64 0), (Value.int .i64 0), (Value.int .i64 0), (Value.int .i64 0)]), rfl, by kernel_rfl, by kernel_rfl, by kernel_rfl, by kernel_rfl, by decide⟩
theorem ap80 : ∃ i z, Try.prog.info? 80 = some i ∧ i.zero = some z ∧ i.size = 10 ∧ i.bytes = 88 ∧ z.cells.size = 10 ∧ 0 < 10 := ⟨_, (Value.agg #[(Value.slice none 0 0), (Value.bool false), (Value.bool false), (Value.int .i64 0), (Value.int .i64 0), (Value.int .i64 0), (Value.pointer none), (Value.pointer none), (Value.pointer none), (Value.pointer none)]), rfl, by kernel_rfl, by kernel_rfl, by kernel_rfl, by kernel_rfl, by decide⟩
theorem shape31 : Shape Try.prog 31 [(0, 1), (1, 1), (2, 1), (3, 1)] #[(Value.int .i64 0), (Value.int .i64 0), (Value.int .i64 0), (Value.int .i64 0)] := ⟨_, _, Value.agg #[(Value.int .i64 0), (Value.int .i64 0), (Value.int .i64 0), (Value.int .i64 0)], Try.underlying31, rfl, by kernel_rfl, rfl, by kernel_rfl, by decide⟩
theorem shape75 : Shape Try.prog 75 [(0, 1), (1, 1)] #[(Value.int .i64 0), (Value.pointer none)] := ⟨_, _, Value.agg #[(Value.int .i64 0), (Value.pointer none)], Try.underlying75, rfl, by kernel_rfl, rfl, by kernel_rfl, by decide⟩
theorem shape78 : Shape Try.prog 78 [(0, 1), (1, 1), (2, 1), (3, 1), (4, 1), (5, 1), (6, 1), (7, 1)] #[(Value.int .i64 0), (Value.int .i64 0), (Value.pointer none), (Value.pointer none), (Value.pointer none), (Value.slice none 0 0), (Value.slice none 0 0), (Value.int .i64 0)] := ⟨_, _, Value.agg #[(Value.int .i64 0), (Value.int .i64 0), (Value.pointer none), (Value.pointer none), (Value.pointer none), (Value.slice none 0 0), (Value.slice none 0 0), (Value.int .i64 0)], Try.underlying78, rfl, by kernel_rfl, rfl, by kernel_rfl, by decide⟩
theorem shape80 : Shape Try.prog 80 [(0, 1), (1, 1), (2, 1), (3, 1), (4, 1), (5, 1), (6, 1), (7, 1), (8, 1), (9, 1)] #[(Value.slice none 0 0), (Value.bool false), (Value.bool false), (Value.int .i64 0), (Value.int .i64 0), (Value.int .i64 0), (Value.pointer none), (Value.pointer none), (Value.pointer none), (Value.pointer none)] := ⟨_, _, Value.agg #[(Value.slice none 0 0), (Value.bool false), (Value.bool false), (Value.int .i64 0), (Value.int .i64 0), (Value.int .i64 0), (Value.pointer none), (Value.pointer none), (Value.pointer none), (Value.pointer none)], Try.underlying80, rfl, by kernel_rfl, rfl, by kernel_rfl, by decide⟩
theorem shape83 : Shape Try.prog 83 [(0, 1), (1, 1), (2, 1)] #[(Value.int .i64 0), (Value.int .i64 0), (Value.int .i64 0)] := ⟨_, _, Value.agg #[(Value.int .i64 0), (Value.int .i64 0), (Value.int .i64 0)], Try.underlying83, rfl, by kernel_rfl, rfl, by kernel_rfl, by decide⟩
def steps_Type (N : Nat) (algo1 : Int) : Option Int :=
  bd (α := Bool) (cond (decide (algo1 = 1))
      (some (decide (algo1 = 1)))
      (some (decide (algo1 = 2)))) <|
  fun (v2 : Bool) => 
    cond v2
      (some 5)
      (cond (decide (algo1 = 3))
        (some 3)
        (cond (decide (algo1 = 4))
          (some 2)
          (some 0)))

theorem steps_Type_ok {N : Nat} {algo1 : Int} {res : Int} (hF : steps_Type N algo1 = some res) (w : World) :
    Pure Try.prog 15 [.int .i64 algo1] w (.int .i64 res) := by
  refine W.enter (n := 11) Try.func15 rfl rfl Sub.refl (by simp) (St.start w) fun R hR => ?_
  unfold steps_Type at hF
  refine W.seqR fun Q1 hQ1 => ?_
  refine WL.q (Y.assign (.pl rfl)) rfl ?_
  refine WL.next hQ1 (.cons (i := 0) rfl (.nil)) ?_
  refine W.seq fun K2 hK2 => ?_
  refine W.seqR fun Q3 hQ3 => ?_
  refine WL.q (Y.move (.pl rfl)) rfl ?_
  refine WL.next hQ3 (.cons (i := 3) rfl (.nil)) ?_
  refine W.block ?_
  obtain ⟨o4, hF4, hF⟩ := bnd hF
  refine W.join1 (Em := fun (v2 : Bool) => [(4, .bool v2)]) (M := fun v2 => []) (I := fun v2 => v2 = o4) (.cons (i := 3) rfl (.nil)) (fun K5 hK5 => ?_) ?_
  · -- up to
    refine W.seqR fun Q6 hQ6 => ?_
    refine WL.q (Y.eql (.pl rfl) (.pl rfl)) rfl ?_
    refine WL.q (Y.assign (.pl rfl)) rfl ?_
    refine WL.next hQ6 (.cons (i := 3) rfl (.cons (i := 4) rfl (.nil))) ?_
    refine W.cond (.pl rfl) (fun hC7 => ?_) (fun hC7 => ?_)
    · replace hF4 := cpos hC7 hF4
      refine W.skip ?_
      exact W.joinAt1 hK5 (decide (algo1 = 1)) (Option.some.inj hF4) (.cons rfl (.nil)) (.cons (i := 3) rfl (.nil)) (fun wz hw => hw.pick [] rfl)
    · replace hF4 := cneg hC7 hF4
      refine W.reg ?_
      refine WL.q (Y.eql (.pl rfl) (.pl rfl)) rfl ?_
      refine WL.q (Y.assign (.pl rfl)) rfl ?_
      refine WL.nil ?_
      exact W.joinAt1 hK5 (decide (algo1 = 2)) (Option.some.inj hF4) (.cons rfl (.nil)) (.cons (i := 3) rfl (.nil)) (fun wz hw => hw.pick [] rfl)
  · -- behind
    rintro v2 rfl
    refine W.cond (.pl rfl) (fun hC9 => ?_) (fun hC9 => ?_)
    · replace hF := cpos hC9 hF
      refine W.seqR fun Q10 hQ10 => ?_
      refine WL.q (Y.assign (.pl rfl)) rfl ?_
      refine WL.next hQ10 (.cons (i := 2) rfl (.nil)) ?_
      obtain rfl := Option.some.inj hF
      refine W.retV (fn := Try.f15) (vs := [.int .i64 5]) Try.results15 ⟨.tmp rfl, trivial⟩ (fun _ _ h => h) (fun wz hw => ?_)
      exact hR _ _ ⟨rfl, (hw.pick [] rfl)⟩
    · replace hF := cneg hC9 hF
      refine W.seqR fun Q11 hQ11 => ?_
      refine WL.q (Y.eql (.pl rfl) (.pl rfl)) rfl ?_
      refine WL.q (Y.assign (.pl rfl)) rfl ?_
      refine WL.next hQ11 (.cons (i := 3) rfl (.cons (i := 7) rfl (.nil))) ?_
      refine W.cond (.pl rfl) (fun hC12 => ?_) (fun hC12 => ?_)
      · replace hF := cpos hC12 hF
        refine W.seqR fun Q13 hQ13 => ?_
        refine WL.q (Y.assign (.pl rfl)) rfl ?_
        refine WL.next hQ13 (.cons (i := 2) rfl (.nil)) ?_
        obtain rfl := Option.some.inj hF
        refine W.retV (fn := Try.f15) (vs := [.int .i64 3]) Try.results15 ⟨.tmp rfl, trivial⟩ (fun _ _ h => h) (fun wz hw => ?_)
        exact hR _ _ ⟨rfl, (hw.pick [] rfl)⟩
      · replace hF := cneg hC12 hF
        refine W.seqR fun Q14 hQ14 => ?_
        refine WL.q (Y.eql (.pl rfl) (.pl rfl)) rfl ?_
        refine WL.q (Y.assign (.pl rfl)) rfl ?_
        refine WL.next hQ14 (.cons (i := 9) rfl (.nil)) ?_
        refine W.cond (.pl rfl) (fun hC15 => ?_) (fun hC15 => ?_)
        · replace hF := cpos hC15 hF
          refine W.seqR fun Q16 hQ16 => ?_
          refine WL.q (Y.assign (.pl rfl)) rfl ?_
          refine WL.next hQ16 (.cons (i := 2) rfl (.nil)) ?_
          obtain rfl := Option.some.inj hF
          refine W.retV (fn := Try.f15) (vs := [.int .i64 2]) Try.results15 ⟨.tmp rfl, trivial⟩ (fun _ _ h => h) (fun wz hw => ?_)
          exact hR _ _ ⟨rfl, (hw.pick [] rfl)⟩
        · replace hF := cneg hC15 hF
          refine W.skip ?_
          refine W.go hK2 (.nil) ?_
          refine W.seqR fun Q17 hQ17 => ?_
          refine WL.q (Y.assign (.pl rfl)) rfl ?_
          refine WL.next hQ17 (.cons (i := 2) rfl (.nil)) ?_
          obtain rfl := Option.some.inj hF
          refine W.retV (fn := Try.f15) (vs := [.int .i64 0]) Try.results15 ⟨.tmp rfl, trivial⟩ (fun _ _ h => h) (fun wz hw => ?_)
          exact hR _ _ ⟨rfl, (hw.pick [] rfl)⟩

def steps_process_finish (N : Nat) (p3 : (List StepsProcess)) (ip5 : Int) (res6 : Int) (nodes8 : (List StepsNode)) : Option (List StepsProcess) :=
  bd (ix p3 ip5) fun (x9 : StepsProcess) =>
  some ((p3.set ip5.toNat (StepsProcess.mk x9.program x9.pending true x9.res x9.item x9.n x9.x x9.y x9.z_ x9.own)).set ip5.toNat (StepsProcess.mk x9.program x9.pending true res6 x9.item x9.n x9.x x9.y x9.z_ x9.own))

theorem steps_process_finish_ok {N : Nat} {p3 : (List StepsProcess)} {ip5 : Int} {res6 : Int} {nodes8 : (List StepsNode)} {A1 : Option Addr} {c2 : Nat} {hd4 : List Hd} {bs7 : List Nat} {res : (List StepsProcess)} (hF : steps_process_finish N p3 ip5 res6 nodes8 = some res) {w0 w : World} {T : List Chunk} (hw : St w0.heap.size w0 ([cN (encNStepsProcess bs7) (innNStepsProcess w0) 10 A1 c2 80 hd4 p3, cHp (encStepsNode bs7) 75 bs7 nodes8] ++ T) w) :
    Calls Try.prog 104 (List.toArray [.pointer (some (elA A1 (ip5.toNat * (9 + 1)))), .int .i64 res6]) w (fun e w' => ∃ g : Unit, ((res).length = (p3).length) ∧ e = .returned (.tuple #[]) ∧ St w0.heap.size w0 ([cN (encNStepsProcess bs7) (innNStepsProcess w0) 10 A1 c2 80 hd4 res, cHp (encStepsNode bs7) 75 bs7 nodes8] ++ T) w') := by
  refine W.enter (n := 11) Try.func104 rfl rfl Sub.refl (by simp) hw fun R hR => ?_
  unfold steps_process_finish at hF
  obtain ⟨x9, hx9, hF⟩ := bnd hF
  refine W.know (fun wz hwz => bor_of (h0 := ((none, 0) : Hd)) (q := fun h a => SlIn encAsk 3 w0 (.slice h.1 a.program.length h.2) a.program) hwz (i := 0) rfl (fun _ _ => .head _)) (fun hbor2 => ?_)
  refine W.reg ?_
  refine WL.q (Y.move (.pl rfl)) rfl ?_
  refine WL.q (Y.move (.pl rfl)) rfl ?_
  refine WL.q (Y.move (.pl rfl)) rfl ?_
  refine WL.q (Y.nilCheck (.pl rfl)) rfl ?_
  refine WL.q (Y.nField (off := 2) (ft := 4) Try.underlying80 rfl cells4 (i' := 0) rfl (ix_lt (hx9)) (.pl rfl)) rfl ?_
  refine WL.step (WO.storeN0 (enc := (encNStepsProcess bs7)) (inn := (innNStepsProcess w0)) (h0 := ((none, 0) : Hd)) (a := (StepsProcess.mk x9.program x9.pending x9.complete x9.res x9.item x9.n x9.x x9.y x9.z_ x9.own)) (a' := (StepsProcess.mk x9.program x9.pending true x9.res x9.item x9.n x9.x x9.y x9.z_ x9.own)) (idx := ip5) (j := 2) cells4 (.pl rfl) (.pl rfl) rfl (lenNStepsProcess bs7) (i := 0) rfl (ix_get (hx9)) rfl (by decide) rfl rfl ?_)
  refine WL.q (Y.nilCheck (.pl rfl)) rfl ?_
  refine WL.q (Y.nField (off := 3) (ft := 3) Try.underlying80 rfl cells3 (i' := 0) rfl (⟨(ix_lt (hx9)).1, by simpa only [List.length_set] using (ix_lt (hx9)).2⟩) (.pl rfl)) rfl ?_
  refine WL.step (WO.storeN0 (enc := (encNStepsProcess bs7)) (inn := (innNStepsProcess w0)) (h0 := ((none, 0) : Hd)) (a := (StepsProcess.mk x9.program x9.pending true x9.res x9.item x9.n x9.x x9.y x9.z_ x9.own)) (a' := (StepsProcess.mk x9.program x9.pending true res6 x9.item x9.n x9.x x9.y x9.z_ x9.own)) (idx := ip5) (j := 3) cells3 (.pl rfl) (.pl rfl) rfl (lenNStepsProcess bs7) (i := 0) rfl (setget (ix_lt (hx9))) rfl (by decide) rfl rfl ?_)
  refine WL.nil ?_
  obtain rfl := Option.some.inj hF
  refine W.endV (fn := Try.f104) (vs := []) Try.results104 trivial (fun _ _ h => h) (fun wz hw => ?_)
  exact hR _ _ ⟨(), (by simp), rfl, (hw.pickK 2 [0, 1] rfl)⟩

def steps_machine_restart (N : Nat) (algo2 : Int) (n3 : Int) (top4 : Int) (head5 : Int) (tail6 : Int) (people9 : (List StepsProcess)) (events13 : (List Event)) (restarts14 : Int) (ip15 : Int) (nodes17 : (List StepsNode)) : Option (List StepsProcess) :=
  bd (ix people9 ip15) fun (x18 : StepsProcess) =>
  ck (ok64 (restarts14 + 1)) <|
  some (people9.set ip15.toNat (StepsProcess.mk x18.program x18.pending x18.complete x18.res 1 x18.n x18.x x18.y x18.z_ x18.own))

theorem steps_machine_restart_ok {N : Nat} {algo2 : Int} {n3 : Int} {top4 : Int} {head5 : Int} {tail6 : Int} {people9 : (List StepsProcess)} {events13 : (List Event)} {restarts14 : Int} {ip15 : Int} {nodes17 : (List StepsNode)} {b1 : Nat} {A7 : Option Addr} {c8 : Nat} {hd10 : List Hd} {A11 : Option Addr} {c12 : Nat} {bs16 : List Nat} {res : (List StepsProcess)} (hF : steps_machine_restart N algo2 n3 top4 head5 tail6 people9 events13 restarts14 ip15 nodes17 = some res) {w0 w : World} {T : List Chunk} (hw : St w0.heap.size w0 ([cBx b1 78 (Value.int .i64 algo2 :: (Value.int .i64 n3 :: (Value.pointer (pt bs16 top4) :: (Value.pointer (pt bs16 head5) :: (Value.pointer (pt bs16 tail6) :: (Value.slice A7 (people9).length c8 :: (Value.slice A11 (events13).length c12 :: (Value.int .i64 restarts14 :: [])))))))), cN (encNStepsProcess bs16) (innNStepsProcess w0) 10 A7 c8 80 hd10 people9, cR encEvent 4 A11 c12 31 events13, cHp (encStepsNode bs16) 75 bs16 nodes17] ++ T) w) :
    Calls Try.prog 105 (List.toArray [.pointer (some ⟨b1, 0, none⟩), .pointer (some (elA A7 (ip15.toNat * (9 + 1))))]) w (fun e w' => ∃ g : Unit, ((res).length = (people9).length) ∧ e = .returned (.tuple #[]) ∧ St w0.heap.size w0 ([cBx b1 78 (Value.int .i64 algo2 :: (Value.int .i64 n3 :: (Value.pointer (pt bs16 top4) :: (Value.pointer (pt bs16 head5) :: (Value.pointer (pt bs16 tail6) :: (Value.slice A7 (res).length c8 :: (Value.slice A11 (events13).length c12 :: (Value.int .i64 (restarts14 + 1) :: [])))))))), cHp (encStepsNode bs16) 75 bs16 nodes17, cN (encNStepsProcess bs16) (innNStepsProcess w0) 10 A7 c8 80 hd10 res, cR encEvent 4 A11 c12 31 events13] ++ T) w') := by
  refine W.enter (n := 14) Try.func105 rfl rfl Sub.refl (by simp) hw fun R hR => ?_
  unfold steps_machine_restart at hF
  obtain ⟨x18, hx18, hF⟩ := bnd hF
  refine W.know (fun wz hwz => bor_of (h0 := ((none, 0) : Hd)) (q := fun h a => SlIn encAsk 3 w0 (.slice h.1 a.program.length h.2) a.program) hwz (i := 1) rfl (fun _ _ => .head _)) (fun hbor2 => ?_)
  refine W.seqR fun Q1 hQ1 => ?_
  refine WL.q (Y.move (.pl rfl)) rfl ?_
  refine WL.q (Y.nilCheck (.pl rfl)) rfl ?_
  refine WL.q (Y.nField (off := 4) (ft := 3) Try.underlying80 rfl cells3 (i' := 1) rfl (ix_lt (hx18)) (.pl rfl)) rfl ?_
  refine WL.step (WO.storeN0 (enc := (encNStepsProcess bs16)) (inn := (innNStepsProcess w0)) (h0 := ((none, 0) : Hd)) (a := (StepsProcess.mk x18.program x18.pending x18.complete x18.res x18.item x18.n x18.x x18.y x18.z_ x18.own)) (a' := (StepsProcess.mk x18.program x18.pending x18.complete x18.res 1 x18.n x18.x x18.y x18.z_ x18.own)) (idx := ip15) (j := 4) cells3 (.pl rfl) (.pl rfl) rfl (lenNStepsProcess bs16) (i := 1) rfl (ix_get (hx18)) rfl (by decide) rfl rfl ?_)
  refine WL.next hQ1 (.cons (i := 0) rfl (.nil)) ?_
  refine W.know (fun wz hwz => bor_of (h0 := ((none, 0) : Hd)) (q := fun h a => SlIn encAsk 3 w0 (.slice h.1 a.program.length h.2) a.program) hwz (i := 0) rfl (fun _ _ => .head _)) (fun hbor4 => ?_)
  refine W.reg ?_
  refine WL.q (Y.move (.pl rfl)) rfl ?_
  refine WL.q (Y.nilCheck (.pl rfl)) rfl ?_
  refine WL.q (Y.fieldAddr0 (off := 7) (ft := 3) Try.underlying78 rfl cells3 (.pl rfl)) rfl ?_
  refine WL.q (Y.loadB (v := .int .i64 restarts14) Try.underlying3 rfl (.pl rfl) (i := 1) rfl (rfl)) rfl ?_
  obtain ⟨hk19, hF⟩ := ckh hF
  refine WL.q (Y.add (.pl rfl) (.pl rfl) (ok64_lt (hk19))) rfl ?_
  refine WL.q (Y.nilCheck (.pl rfl)) rfl ?_
  refine WL.q (Y.fieldAddr0 (off := 7) (ft := 3) Try.underlying78 rfl cells3 (.pl rfl)) rfl ?_
  refine WL.step (WO.storeB (cs' := (Value.int .i64 algo2 :: (Value.int .i64 n3 :: (Value.pointer (pt bs16 top4) :: (Value.pointer (pt bs16 head5) :: (Value.pointer (pt bs16 tail6) :: (Value.slice A7 (people9).length c8 :: (Value.slice A11 (events13).length c12 :: (Value.int .i64 (restarts14 + 1) :: []))))))))) cells3 (.pl rfl) (.pl rfl) rfl (i := 1) rfl (ltl (m := 8) (by decide) rfl) (rfl) ?_)
  refine WL.nil ?_
  obtain rfl := Option.some.inj hF
  refine W.endV (fn := Try.f105) (vs := []) Try.results105 trivial (fun _ _ h => h) (fun wz hw => ?_)
  exact hR _ _ ⟨(), (by simp), rfl, (St.cong (L := ([cBx b1 78 (Value.int .i64 algo2 :: (Value.int .i64 n3 :: (Value.pointer (pt bs16 top4) :: (Value.pointer (pt bs16 head5) :: (Value.pointer (pt bs16 tail6) :: (Value.slice A7 (people9).length c8 :: (Value.slice A11 (events13).length c12 :: (Value.int .i64 (restarts14 + 1) :: [])))))))), cHp (encStepsNode bs16) 75 bs16 nodes17, cN (encNStepsProcess bs16) (innNStepsProcess w0) 10 A7 c8 80 hd10 (people9.set ip15.toNat (StepsProcess.mk x18.program x18.pending x18.complete x18.res 1 x18.n x18.x x18.y x18.z_ x18.own)), cR encEvent 4 A11 c12 31 events13] ++ T)) (hw.pickK 4 [1, 3, 0, 2] rfl) (by simp only [List.length_set, List.nil_append, List.cons_append]))⟩

def steps_machine_counter (N : Nat) (algo2 : Int) (n3 : Int) (top4 : Int) (head5 : Int) (tail6 : Int) (people9 : (List StepsProcess)) (events13 : (List Event)) (restarts14 : Int) (ip15 : Int) (nodes17 : (List StepsNode)) : Option (Int × (List StepsProcess) × Int) :=
  bd (ix people9 ip15) fun (x18 : StepsProcess) =>
  cond (decide (x18.item = 1))
    (some (n3, ((people9.set ip15.toNat (StepsProcess.mk x18.program x18.pending x18.complete x18.res x18.item n3 x18.x x18.y x18.z_ x18.own)).set ip15.toNat (StepsProcess.mk x18.program x18.pending x18.complete x18.res 2 n3 x18.x x18.y x18.z_ x18.own)), restarts14))
    (cond ((decide (algo2 = 2)) || (decide (n3 = x18.n)))
      (ck (ok64 (x18.n + 1)) <|
      bd (steps_process_finish N people9 ip15 x18.n nodes17) fun (r20 : (List StepsProcess)) =>
      some ((x18.n + 1), r20, restarts14))
      (bd (steps_machine_restart N algo2 n3 top4 head5 tail6 people9 events13 restarts14 ip15 nodes17) fun (r22 : (List StepsProcess)) =>
      some (n3, r22, (restarts14 + 1))))

theorem steps_machine_counter_ok {N : Nat} {algo2 : Int} {n3 : Int} {top4 : Int} {head5 : Int} {tail6 : Int} {people9 : (List StepsProcess)} {events13 : (List Event)} {restarts14 : Int} {ip15 : Int} {nodes17 : (List StepsNode)} {b1 : Nat} {A7 : Option Addr} {c8 : Nat} {hd10 : List Hd} {A11 : Option Addr} {c12 : Nat} {bs16 : List Nat} {res : (Int × (List StepsProcess) × Int)} (hF : steps_machine_counter N algo2 n3 top4 head5 tail6 people9 events13 restarts14 ip15 nodes17 = some res) {w0 w : World} {T : List Chunk} (hw : St w0.heap.size w0 ([cBx b1 78 (Value.int .i64 algo2 :: (Value.int .i64 n3 :: (Value.pointer (pt bs16 top4) :: (Value.pointer (pt bs16 head5) :: (Value.pointer (pt bs16 tail6) :: (Value.slice A7 (people9).length c8 :: (Value.slice A11 (events13).length c12 :: (Value.int .i64 restarts14 :: [])))))))), cN (encNStepsProcess bs16) (innNStepsProcess w0) 10 A7 c8 80 hd10 people9, cR encEvent 4 A11 c12 31 events13, cHp (encStepsNode bs16) 75 bs16 nodes17] ++ T) w) :
    Calls Try.prog 84 (List.toArray [.pointer (some ⟨b1, 0, none⟩), .pointer (some (elA A7 (ip15.toNat * (9 + 1))))]) w (fun e w' => ∃ g : Unit, ((res.2.1).length = (people9).length) ∧ e = .returned (.tuple #[]) ∧ St w0.heap.size w0 ([cBx b1 78 (Value.int .i64 algo2 :: (Value.int .i64 res.1 :: (Value.pointer (pt bs16 top4) :: (Value.pointer (pt bs16 head5) :: (Value.pointer (pt bs16 tail6) :: (Value.slice A7 (res.2.1).length c8 :: (Value.slice A11 (events13).length c12 :: (Value.int .i64 res.2.2 :: [])))))))), cHp (encStepsNode bs16) 75 bs16 nodes17, cN (encNStepsProcess bs16) (innNStepsProcess w0) 10 A7 c8 80 hd10 res.2.1, cR encEvent 4 A11 c12 31 events13] ++ T) w') := by
  refine W.enter (n := 54) Try.func84 rfl rfl Sub.refl (by simp) hw fun R hR => ?_
  unfold steps_machine_counter at hF
  obtain ⟨x18, hx18, hF⟩ := bnd hF
  refine W.block ?_
  refine W.know (fun wz hwz => bor_of (h0 := ((none, 0) : Hd)) (q := fun h a => SlIn encAsk 3 w0 (.slice h.1 a.program.length h.2) a.program) hwz (i := 1) rfl (fun _ _ => .head _)) (fun hbor2 => ?_)
  refine W.seqR fun Q1 hQ1 => ?_
  refine WL.q (Y.move (.pl rfl)) rfl ?_
  refine WL.q (Y.nilCheck (.pl rfl)) rfl ?_
  refine WL.q (Y.nField (off := 4) (ft := 3) Try.underlying80 rfl cells3 (i' := 1) rfl (ix_lt (hx18)) (.pl rfl)) rfl ?_
  refine WL.q (Y.loadN (enc := (encNStepsProcess bs16)) (h0 := ((none, 0) : Hd)) (v := .int .i64 x18.item) (a := (StepsProcess.mk x18.program x18.pending x18.complete x18.res x18.item x18.n x18.x x18.y x18.z_ x18.own)) (idx := ip15) (j := 4) Try.underlying3 rfl (lenNStepsProcess bs16) (i := 1) rfl (.pl rfl) (ix_get (hx18)) rfl rfl) rfl ?_
  refine WL.q (Y.eql (.pl rfl) (.pl rfl)) rfl ?_
  refine WL.q (Y.assign (.pl rfl)) rfl ?_
  refine WL.next hQ1 (.cons (i := 0) rfl (.cons (i := 1) rfl (.cons (i := 7) rfl (.nil)))) ?_
  refine W.cond (.pl rfl) (fun hC3 => ?_) (fun hC3 => ?_)
  · replace hF := cpos hC3 hF
    refine W.reg ?_
    refine WL.q (Y.move (.pl rfl)) rfl ?_
    refine WL.q (Y.move (.pl rfl)) rfl ?_
    refine WL.q (Y.move (.pl rfl)) rfl ?_
    refine WL.q (Y.nilCheck (.pl rfl)) rfl ?_
    refine WL.q (Y.fieldAddr0 (off := 1) (ft := 3) Try.underlying78 rfl cells3 (.pl rfl)) rfl ?_
    refine WL.q (Y.loadB (v := .int .i64 n3) Try.underlying3 rfl (.pl rfl) (i := 0) rfl (rfl)) rfl ?_
    refine WL.q (Y.nilCheck (.pl rfl)) rfl ?_
    refine WL.q (Y.nField (off := 5) (ft := 3) Try.underlying80 rfl cells3 (i' := 1) rfl (ix_lt (hx18)) (.pl rfl)) rfl ?_
    refine WL.step (WO.storeN0 (enc := (encNStepsProcess bs16)) (inn := (innNStepsProcess w0)) (h0 := ((none, 0) : Hd)) (a := (StepsProcess.mk x18.program x18.pending x18.complete x18.res x18.item x18.n x18.x x18.y x18.z_ x18.own)) (a' := (StepsProcess.mk x18.program x18.pending x18.complete x18.res x18.item n3 x18.x x18.y x18.z_ x18.own)) (idx := ip15) (j := 5) cells3 (.pl rfl) (.pl rfl) rfl (lenNStepsProcess bs16) (i := 1) rfl (ix_get (hx18)) rfl (by decide) rfl rfl ?_)
    refine WL.q (Y.nilCheck (.pl rfl)) rfl ?_
    refine WL.q (Y.nField (off := 4) (ft := 3) Try.underlying80 rfl cells3 (i' := 0) rfl (⟨(ix_lt (hx18)).1, by simpa only [List.length_set] using (ix_lt (hx18)).2⟩) (.pl rfl)) rfl ?_
    refine WL.step (WO.storeN0 (enc := (encNStepsProcess bs16)) (inn := (innNStepsProcess w0)) (h0 := ((none, 0) : Hd)) (a := (StepsProcess.mk x18.program x18.pending x18.complete x18.res x18.item n3 x18.x x18.y x18.z_ x18.own)) (a' := (StepsProcess.mk x18.program x18.pending x18.complete x18.res 2 n3 x18.x x18.y x18.z_ x18.own)) (idx := ip15) (j := 4) cells3 (.pl rfl) (.pl rfl) rfl (lenNStepsProcess bs16) (i := 0) rfl (setget (ix_lt (hx18))) rfl (by decide) rfl rfl ?_)
    refine WL.nil ?_
    obtain rfl := Option.some.inj hF
    refine W.endV (fn := Try.f84) (vs := []) Try.results84 trivial (fun _ _ h => h) (fun wz hw => ?_)
    exact hR _ _ ⟨(), (by simp), rfl, (St.cong (L := ([cBx b1 78 (Value.int .i64 algo2 :: (Value.int .i64 n3 :: (Value.pointer (pt bs16 top4) :: (Value.pointer (pt bs16 head5) :: (Value.pointer (pt bs16 tail6) :: (Value.slice A7 (people9).length c8 :: (Value.slice A11 (events13).length c12 :: (Value.int .i64 restarts14 :: [])))))))), cHp (encStepsNode bs16) 75 bs16 nodes17, cN (encNStepsProcess bs16) (innNStepsProcess w0) 10 A7 c8 80 hd10 ((people9.set ip15.toNat (StepsProcess.mk x18.program x18.pending x18.complete x18.res x18.item n3 x18.x x18.y x18.z_ x18.own)).set ip15.toNat (StepsProcess.mk x18.program x18.pending x18.complete x18.res 2 n3 x18.x x18.y x18.z_ x18.own)), cR encEvent 4 A11 c12 31 events13] ++ T)) (hw.pickK 4 [1, 3, 0, 2] rfl) (by simp only [List.length_set, List.nil_append, List.cons_append]))⟩
  · replace hF := cneg hC3 hF
    refine W.seqD (by kernel_rfl) (by kernel_rfl) fun R5 hR5 => ?_
    refine WD.q (Y.move (.pl rfl)) rfl ?_
    refine WD.q (Y.nilCheck (.pl rfl)) rfl ?_
    refine WD.q (Y.fieldAddr0 (off := 0) (ft := 3) Try.underlying78 rfl cells3 (.pl rfl)) rfl ?_
    refine WD.q (Y.loadB (v := .int .i64 algo2) Try.underlying3 rfl (.pl rfl) (i := 0) rfl (rfl)) rfl ?_
    refine WD.q (Y.eql (.pl rfl) (.pl rfl)) rfl ?_
    refine WD.q (Y.move (.pl rfl)) rfl ?_
    refine WD.g (.pl rfl rfl rfl) (fun hg => Y.move (.pl rfl)) rfl ?_
    refine WD.g (.pl rfl rfl rfl) (fun hg => Y.nilCheck (.gd (hg) rfl)) rfl ?_
    refine WD.g (.pl rfl rfl rfl) (fun hg => Y.fieldAddr0 (off := 1) (ft := 3) Try.underlying78 rfl cells3 (.gd (hg) rfl)) rfl ?_
    refine WD.g (.pl rfl rfl rfl) (fun hg => Y.loadB (v := .int .i64 n3) Try.underlying3 rfl (.gd (hg) rfl) (i := 0) rfl (rfl)) rfl ?_
    refine WD.g (.pl rfl rfl rfl) (fun hg => Y.move (.pl rfl)) rfl ?_
    refine WD.g (.pl rfl rfl rfl) (fun hg => Y.nilCheck (.gd (hg) rfl)) rfl ?_
    refine WD.g (.pl rfl rfl rfl) (fun hg => Y.nField (off := 5) (ft := 3) Try.underlying80 rfl cells3 (i' := 1) rfl (ix_lt (hx18)) (.gd (hg) rfl)) rfl ?_
    refine WD.g (.pl rfl rfl rfl) (fun hg => Y.loadN (enc := (encNStepsProcess bs16)) (h0 := ((none, 0) : Hd)) (v := .int .i64 x18.n) (a := (StepsProcess.mk x18.program x18.pending x18.complete x18.res x18.item x18.n x18.x x18.y x18.z_ x18.own)) (idx := ip15) (j := 5) Try.underlying3 rfl (lenNStepsProcess bs16) (i := 1) rfl (.gd (hg) rfl) (ix_get (hx18)) rfl rfl) rfl ?_
    refine WD.g (.pl rfl rfl rfl) (fun hg => Y.eql (.gd (hg) rfl) (.gd (hg) rfl)) rfl ?_
    refine WD.q (Y.or (.pl rfl) (fun h2 => .gd (eqf h2) rfl)) rfl ?_
    refine WD.q (Y.assign (.pl rfl)) rfl ?_
    refine WD.next hR5 (.cons (i := 0) rfl (.cons (i := 1) rfl (.cons (i := 23) rfl (.nil)))) ?_
    refine W.cond (.pl rfl) (fun hC6 => ?_) (fun hC6 => ?_)
    · replace hF := cpos hC6 hF
      refine W.seqR fun Q7 hQ7 => ?_
      refine WL.q (Y.move (.pl rfl)) rfl ?_
      refine WL.q (Y.move (.pl rfl)) rfl ?_
      refine WL.q (Y.nilCheck (.pl rfl)) rfl ?_
      refine WL.q (Y.nField (off := 5) (ft := 3) Try.underlying80 rfl cells3 (i' := 1) rfl (ix_lt (hx18)) (.pl rfl)) rfl ?_
      refine WL.q (Y.loadN (enc := (encNStepsProcess bs16)) (h0 := ((none, 0) : Hd)) (v := .int .i64 x18.n) (a := (StepsProcess.mk x18.program x18.pending x18.complete x18.res x18.item x18.n x18.x x18.y x18.z_ x18.own)) (idx := ip15) (j := 5) Try.underlying3 rfl (lenNStepsProcess bs16) (i := 1) rfl (.pl rfl) (ix_get (hx18)) rfl rfl) rfl ?_
      obtain ⟨hk19, hF⟩ := ckh hF
      refine WL.q (Y.add (.pl rfl) (.pl rfl) (ok64_lt (hk19))) rfl ?_
      refine WL.q (Y.nilCheck (.pl rfl)) rfl ?_
      refine WL.q (Y.fieldAddr0 (off := 1) (ft := 3) Try.underlying78 rfl cells3 (.pl rfl)) rfl ?_
      refine WL.step (WO.storeB (cs' := (Value.int .i64 algo2 :: (Value.int .i64 (x18.n + 1) :: (Value.pointer (pt bs16 top4) :: (Value.pointer (pt bs16 head5) :: (Value.pointer (pt bs16 tail6) :: (Value.slice A7 (people9).length c8 :: (Value.slice A11 (events13).length c12 :: (Value.int .i64 restarts14 :: []))))))))) cells3 (.pl rfl) (.pl rfl) rfl (i := 0) rfl (ltl (m := 8) (by decide) rfl) (rfl) ?_)
      refine WL.next hQ7 (.cons (i := 1) rfl (.nil)) ?_
      refine W.reg ?_
      refine WL.q (Y.move (.pl rfl)) rfl ?_
      refine WL.q (Y.move (.pl rfl)) rfl ?_
      refine WL.q (Y.nilCheck (.pl rfl)) rfl ?_
      refine WL.q (Y.nField (off := 5) (ft := 3) Try.underlying80 rfl cells3 (i' := 1) rfl (ix_lt (hx18)) (.pl rfl)) rfl ?_
      refine WL.q (Y.loadN (enc := (encNStepsProcess bs16)) (h0 := ((none, 0) : Hd)) (v := .int .i64 x18.n) (a := (StepsProcess.mk x18.program x18.pending x18.complete x18.res x18.item x18.n x18.x x18.y x18.z_ x18.own)) (idx := ip15) (j := 5) Try.underlying3 rfl (lenNStepsProcess bs16) (i := 1) rfl (.pl rfl) (ix_get (hx18)) rfl rfl) rfl ?_
      obtain ⟨r20, hr20, hF⟩ := bnd hF
      refine WL.step (WO.call (γ := Unit) (fun g => .tuple #[]) (fun g => ([cN (encNStepsProcess bs16) (innNStepsProcess w0) 10 A7 c8 80 hd10 r20, cHp (encStepsNode bs16) 75 bs16 nodes17, cBx b1 78 (Value.int .i64 algo2 :: (Value.int .i64 (x18.n + 1) :: (Value.pointer (pt bs16 top4) :: (Value.pointer (pt bs16 head5) :: (Value.pointer (pt bs16 tail6) :: (Value.slice A7 (people9).length c8 :: (Value.slice A11 (events13).length c12 :: (Value.int .i64 restarts14 :: [])))))))), cR encEvent 4 A11 c12 31 events13] ++ T)) (fun g => (r20).length = (people9).length) isGo104 (.cons (.pl rfl) (.cons (.pl rfl) (.nil))) rfl (fun wz hw => steps_process_finish_ok (T := ([cBx b1 78 (Value.int .i64 algo2 :: (Value.int .i64 (x18.n + 1) :: (Value.pointer (pt bs16 top4) :: (Value.pointer (pt bs16 head5) :: (Value.pointer (pt bs16 tail6) :: (Value.slice A7 (people9).length c8 :: (Value.slice A11 (events13).length c12 :: (Value.int .i64 restarts14 :: [])))))))), cR encEvent 4 A11 c12 31 events13] ++ T)) (hr20) (hw.pickK 4 [1, 3, 0, 2] rfl) ) ?_)
      rintro _ hl21
      refine WL.nil ?_
      obtain rfl := Option.some.inj hF
      refine W.endV (fn := Try.f84) (vs := []) Try.results84 trivial (fun _ _ h => h) (fun wz hw => ?_)
      exact hR _ _ ⟨(), (by simp [hl21]), rfl, (St.cong (L := ([cBx b1 78 (Value.int .i64 algo2 :: (Value.int .i64 (x18.n + 1) :: (Value.pointer (pt bs16 top4) :: (Value.pointer (pt bs16 head5) :: (Value.pointer (pt bs16 tail6) :: (Value.slice A7 (people9).length c8 :: (Value.slice A11 (events13).length c12 :: (Value.int .i64 restarts14 :: [])))))))), cHp (encStepsNode bs16) 75 bs16 nodes17, cN (encNStepsProcess bs16) (innNStepsProcess w0) 10 A7 c8 80 hd10 r20, cR encEvent 4 A11 c12 31 events13] ++ T)) (hw.pickK 4 [2, 1, 0, 3] rfl) (by simp only [List.length_set, List.nil_append, List.cons_append, hl21]))⟩
    · replace hF := cneg hC6 hF
      refine W.reg ?_
      refine WL.q (Y.move (.pl rfl)) rfl ?_
      refine WL.q (Y.move (.pl rfl)) rfl ?_
      obtain ⟨r22, hr22, hF⟩ := bnd hF
      refine WL.step (WO.call (γ := Unit) (fun g => .tuple #[]) (fun g => ([cBx b1 78 (Value.int .i64 algo2 :: (Value.int .i64 n3 :: (Value.pointer (pt bs16 top4) :: (Value.pointer (pt bs16 head5) :: (Value.pointer (pt bs16 tail6) :: (Value.slice A7 (r22).length c8 :: (Value.slice A11 (events13).length c12 :: (Value.int .i64 (restarts14 + 1) :: [])))))))), cHp (encStepsNode bs16) 75 bs16 nodes17, cN (encNStepsProcess bs16) (innNStepsProcess w0) 10 A7 c8 80 hd10 r22, cR encEvent 4 A11 c12 31 events13] ++ T)) (fun g => (r22).length = (people9).length) isGo105 (.cons (.pl rfl) (.cons (.pl rfl) (.nil))) rfl (fun wz hw => steps_machine_restart_ok (T := ([] ++ T)) (hr22) (hw.pickK 4 [0, 1, 2, 3] rfl) ) ?_)
      rintro _ hl23
      refine WL.nil ?_
      obtain rfl := Option.some.inj hF
      refine W.endV (fn := Try.f84) (vs := []) Try.results84 trivial (fun _ _ h => h) (fun wz hw => ?_)
      exact hR _ _ ⟨(), (by simp [hl23]), rfl, (hw.pickK 4 [0, 1, 2, 3] rfl)⟩

def steps_machine_push (N : Nat) (algo2 : Int) (n3 : Int) (top4 : Int) (head5 : Int) (tail6 : Int) (people9 : (List StepsProcess)) (events13 : (List Event)) (restarts14 : Int) (ip15 : Int) (nodes17 : (List StepsNode)) : Option ((List StepsNode) × Int × (List StepsProcess) × Int) :=
  bd (ix people9 ip15) fun (x18 : StepsProcess) =>
  cond (decide (x18.item = 1))
    (bd (ix nodes17 x18.own) fun (x19 : StepsNode) =>
    some ((nodes17.set x18.own.toNat (StepsNode.mk x19.value top4)), top4, ((people9.set ip15.toNat (StepsProcess.mk x18.program x18.pending x18.complete x18.res x18.item x18.n top4 x18.y x18.z_ x18.own)).set ip15.toNat (StepsProcess.mk x18.program x18.pending x18.complete x18.res 2 x18.n top4 x18.y x18.z_ x18.own)), restarts14))
    (ck (vp (nodes17).length top4) <|
    ck (vp (nodes17).length x18.x) <|
    cond (decide (top4 = x18.x))
      (bd (steps_process_finish N people9 ip15 0 nodes17) fun (r22 : (List StepsProcess)) =>
      some (nodes17, x18.own, r22, restarts14))
      (bd (steps_machine_restart N algo2 n3 top4 head5 tail6 people9 events13 restarts14 ip15 nodes17) fun (r24 : (List StepsProcess)) =>
      some (nodes17, top4, r24, (restarts14 + 1))))

theorem steps_machine_push_ok {N : Nat} {algo2 : Int} {n3 : Int} {top4 : Int} {head5 : Int} {tail6 : Int} {people9 : (List StepsProcess)} {events13 : (List Event)} {restarts14 : Int} {ip15 : Int} {nodes17 : (List StepsNode)} {b1 : Nat} {A7 : Option Addr} {c8 : Nat} {hd10 : List Hd} {A11 : Option Addr} {c12 : Nat} {bs16 : List Nat} {res : ((List StepsNode) × Int × (List StepsProcess) × Int)} (hF : steps_machine_push N algo2 n3 top4 head5 tail6 people9 events13 restarts14 ip15 nodes17 = some res) {w0 w : World} {T : List Chunk} (hw : St w0.heap.size w0 ([cBx b1 78 (Value.int .i64 algo2 :: (Value.int .i64 n3 :: (Value.pointer (pt bs16 top4) :: (Value.pointer (pt bs16 head5) :: (Value.pointer (pt bs16 tail6) :: (Value.slice A7 (people9).length c8 :: (Value.slice A11 (events13).length c12 :: (Value.int .i64 restarts14 :: [])))))))), cN (encNStepsProcess bs16) (innNStepsProcess w0) 10 A7 c8 80 hd10 people9, cR encEvent 4 A11 c12 31 events13, cHp (encStepsNode bs16) 75 bs16 nodes17] ++ T) w) :
    Calls Try.prog 85 (List.toArray [.pointer (some ⟨b1, 0, none⟩), .pointer (some (elA A7 (ip15.toNat * (9 + 1))))]) w (fun e w' => ∃ g : Unit, ((res.2.2.1).length = (people9).length) ∧ e = .returned (.tuple #[]) ∧ St w0.heap.size w0 ([cBx b1 78 (Value.int .i64 algo2 :: (Value.int .i64 n3 :: (Value.pointer (pt bs16 res.2.1) :: (Value.pointer (pt bs16 head5) :: (Value.pointer (pt bs16 tail6) :: (Value.slice A7 (res.2.2.1).length c8 :: (Value.slice A11 (events13).length c12 :: (Value.int .i64 res.2.2.2 :: [])))))))), cHp (encStepsNode bs16) 75 bs16 res.1, cN (encNStepsProcess bs16) (innNStepsProcess w0) 10 A7 c8 80 hd10 res.2.2.1, cR encEvent 4 A11 c12 31 events13] ++ T) w') := by
  refine W.enter (n := 52) Try.func85 rfl rfl Sub.refl (by simp) hw fun R hR => ?_
  unfold steps_machine_push at hF
  obtain ⟨x18, hx18, hF⟩ := bnd hF
  refine W.block ?_
  refine W.know (fun wz hwz => bor_of (h0 := ((none, 0) : Hd)) (q := fun h a => SlIn encAsk 3 w0 (.slice h.1 a.program.length h.2) a.program) hwz (i := 1) rfl (fun _ _ => .head _)) (fun hbor2 => ?_)
  refine W.seqR fun Q1 hQ1 => ?_
  refine WL.q (Y.move (.pl rfl)) rfl ?_
  refine WL.q (Y.nilCheck (.pl rfl)) rfl ?_
  refine WL.q (Y.nField (off := 4) (ft := 3) Try.underlying80 rfl cells3 (i' := 1) rfl (ix_lt (hx18)) (.pl rfl)) rfl ?_
  refine WL.q (Y.loadN (enc := (encNStepsProcess bs16)) (h0 := ((none, 0) : Hd)) (v := .int .i64 x18.item) (a := (StepsProcess.mk x18.program x18.pending x18.complete x18.res x18.item x18.n x18.x x18.y x18.z_ x18.own)) (idx := ip15) (j := 4) Try.underlying3 rfl (lenNStepsProcess bs16) (i := 1) rfl (.pl rfl) (ix_get (hx18)) rfl rfl) rfl ?_
  refine WL.q (Y.eql (.pl rfl) (.pl rfl)) rfl ?_
  refine WL.q (Y.assign (.pl rfl)) rfl ?_
  refine WL.next hQ1 (.cons (i := 0) rfl (.cons (i := 1) rfl (.cons (i := 7) rfl (.nil)))) ?_
  refine W.cond (.pl rfl) (fun hC3 => ?_) (fun hC3 => ?_)
  · replace hF := cpos hC3 hF
    refine W.know (fun wz hw => n_okA0 hw (i := 1) rfl) (fun hok5 => ?_)
    refine W.regX 16 (by kernel_rfl) ?_
    refine WX.pure 0 #[true, false, false, false, false, false, false, false, false, false, false, false, false, false, false, false, false, false, false, false, false, false, false] rfl (by kernel_rfl) (fun _ _ => Y.move (.pl rfl)) rfl ?_
    refine WX.pure 1 #[true, true, false, false, false, false, false, false, false, false, false, false, false, false, false, false, false, false, false, false, false, false, false] rfl (by kernel_rfl) (fun _ _ => Y.move (.pl rfl)) rfl ?_
    refine WX.pure 2 #[true, true, true, false, false, false, false, false, false, false, false, false, false, false, false, false, false, false, false, false, false, false, false] rfl (by kernel_rfl) (fun _ _ => Y.nilCheck (.pl rfl)) rfl ?_
    refine WX.take 3 #[true, true, true, true, false, false, false, false, false, false, false, false, false, false, false, false, false, false, false, false, false, false, false] (fun wz hw => St.tail [] hw) rfl (by kernel_rfl) (Y.okField (off := 9) (ft := 73) Try.underlying80 rfl cells73 hok5 (by have := (ix_lt (hx18)); omega) (.pl rfl)) rfl ?_
    refine WX.take 4 #[true, true, true, true, true, false, false, false, false, false, false, false, false, false, false, false, false, false, false, false, false, false, false] (fun wz hw => St.tail [] hw) rfl (by kernel_rfl) (Y.loadN (enc := (encNStepsProcess bs16)) (h0 := ((none, 0) : Hd)) (v := .pointer (pt bs16 x18.own)) (a := (StepsProcess.mk x18.program x18.pending x18.complete x18.res x18.item x18.n x18.x x18.y x18.z_ x18.own)) (idx := ip15) (j := 9) Try.underlying73 rfl (lenNStepsProcess bs16) (i := 1) rfl (.pl rfl) (ix_get (hx18)) rfl rfl) rfl ?_
    refine WX.pure 5 #[true, true, true, true, true, true, false, false, false, false, false, false, false, false, false, false, false, false, false, false, false, false, false] rfl (by kernel_rfl) (fun _ _ => Y.move (.pl rfl)) rfl ?_
    refine WX.pure 6 #[true, true, true, true, true, true, true, false, false, false, false, false, false, false, false, false, false, false, false, false, false, false, false] rfl (by kernel_rfl) (fun _ _ => Y.move (.pl rfl)) rfl ?_
    refine WX.pure 7 #[true, true, true, true, true, true, true, true, false, false, false, false, false, false, false, false, false, false, false, false, false, false, false] rfl (by kernel_rfl) (fun _ _ => Y.nilCheck (.pl rfl)) rfl ?_
    refine WX.pure 8 #[true, true, true, true, true, true, true, true, true, false, false, false, false, false, false, false, false, false, false, false, false, false, false] rfl (by kernel_rfl) (fun _ _ => Y.fieldAddr0 (off := 2) (ft := 73) Try.underlying78 rfl cells73 (.pl rfl)) rfl ?_
    refine WX.take 9 #[true, true, true, true, true, true, true, true, true, true, false, false, false, false, false, false, false, false, false, false, false, false, false] (fun wz hw => St.tail [] hw) rfl (by kernel_rfl) (Y.loadB (v := .pointer (pt bs16 top4)) Try.underlying73 rfl (.pl rfl) (i := 0) rfl (rfl)) rfl ?_
    refine WX.pure 10 #[true, true, true, true, true, true, true, true, true, true, true, false, false, false, false, false, false, false, false, false, false, false, false] rfl (by kernel_rfl) (fun _ _ => Y.move (.pl rfl)) rfl ?_
    refine WX.pure 11 #[true, true, true, true, true, true, true, true, true, true, true, true, false, false, false, false, false, false, false, false, false, false, false] rfl (by kernel_rfl) (fun _ _ => Y.nilCheck (.pl rfl)) rfl ?_
    refine WX.pure 12 #[true, true, true, true, true, true, true, true, true, true, true, true, true, false, false, false, false, false, false, false, false, false, false] rfl (by kernel_rfl) (fun _ _ => Y.fieldAddr0 (off := 2) (ft := 73) Try.underlying78 rfl cells73 (.pl rfl)) rfl ?_
    refine WX.take 13 #[true, true, true, true, true, true, true, true, true, true, true, true, true, true, false, false, false, false, false, false, false, false, false] (fun wz hw => St.tail [] hw) rfl (by kernel_rfl) (Y.loadB (v := .pointer (pt bs16 top4)) Try.underlying73 rfl (.pl rfl) (i := 0) rfl (rfl)) rfl ?_
    refine WX.pure 14 #[true, true, true, true, true, true, true, true, true, true, true, true, true, true, true, false, false, false, false, false, false, false, false] rfl (by kernel_rfl) (fun _ _ => Y.nilCheck (.pl rfl)) rfl ?_
    refine WX.take 15 #[true, true, true, true, true, true, true, true, true, true, true, true, true, true, true, true, false, false, false, false, false, false, false] (fun wz hw => St.tail [] hw) rfl (by kernel_rfl) (Y.okField (off := 6) (ft := 73) Try.underlying80 rfl cells73 hok5 (by have := (ix_lt (hx18)); omega) (.pl rfl)) rfl ?_
    refine WX.stop #[true, true, true, true, true, true, true, true, true, true, true, true, true, true, true, true, true, false, false, false, false, false, false] (fun wz hw => St.tail [] hw) rfl (by kernel_rfl) (WO.storeN0 (enc := (encNStepsProcess bs16)) (inn := (innNStepsProcess w0)) (h0 := ((none, 0) : Hd)) (a := (StepsProcess.mk x18.program x18.pending x18.complete x18.res x18.item x18.n x18.x x18.y x18.z_ x18.own)) (a' := (StepsProcess.mk x18.program x18.pending x18.complete x18.res x18.item x18.n top4 x18.y x18.z_ x18.own)) (idx := ip15) (j := 6) cells73 (.pl rfl) (.pl rfl) rfl (lenNStepsProcess bs16) (i := 1) rfl (ix_get (hx18)) rfl (by decide) rfl rfl ?_)
    obtain ⟨x19, hx19, hF⟩ := bnd hF
    refine WA.take 17 #[true, true, true, true, true, true, true, true, true, true, true, true, true, true, true, true, true, true, false, false, false, false, false] rfl (by kernel_rfl) (fun _ _ => Y.nilCheckP (ix_lt (hx19)).1 (.pl rfl)) rfl ?_
    refine WA.take 18 #[true, true, true, true, true, true, true, true, true, true, true, true, true, true, true, true, true, true, true, false, false, false, false] rfl (by kernel_rfl) (fun _ _ => Y.fieldAddr0 (off := 1) (ft := 73) Try.underlying75 rfl cells73 (.pl rfl)) rfl ?_
    refine WA.branch [19] (by kernel_rfl) ⟨?_, trivial⟩
    refine WI.step #[true, true, true, true, true, true, true, true, true, true, true, true, true, true, true, true, true, true, true, true, false, false, false] rfl rfl (WO.storeP (enc := (encStepsNode bs16)) (bs := bs16) (p := x18.own) (v := .pointer (pt bs16 top4)) (a := x19) (a' := (StepsNode.mk x19.value top4)) cells73 (.pl rfl) (.pl rfl) rfl (i := 3) rfl (ix_get (hx19)) (by show 1 < 2; decide) rfl ?_)
    refine WA.take 20 #[true, true, true, true, true, true, true, true, true, true, true, true, true, true, true, true, true, true, true, true, true, false, false] rfl (by kernel_rfl) (fun _ _ => Y.nilCheck (.pl rfl)) rfl ?_
    refine WA.take 21 #[true, true, true, true, true, true, true, true, true, true, true, true, true, true, true, true, true, true, true, true, true, true, false] rfl (by kernel_rfl) (fun _ _ => Y.okField (off := 4) (ft := 3) Try.underlying80 rfl cells3 hok5 (by have := (ix_lt (hx18)); omega) (.pl rfl)) rfl ?_
    refine WA.branch [22] (by kernel_rfl) ⟨?_, trivial⟩
    refine WI.step #[true, true, true, true, true, true, true, true, true, true, true, true, true, true, true, true, true, true, true, true, true, true, true] rfl rfl (WO.storeN0 (enc := (encNStepsProcess bs16)) (inn := (innNStepsProcess w0)) (h0 := ((none, 0) : Hd)) (a := (StepsProcess.mk x18.program x18.pending x18.complete x18.res x18.item x18.n top4 x18.y x18.z_ x18.own)) (a' := (StepsProcess.mk x18.program x18.pending x18.complete x18.res 2 x18.n top4 x18.y x18.z_ x18.own)) (idx := ip15) (j := 4) cells3 (.pl rfl) (.pl rfl) rfl (lenNStepsProcess bs16) (i := 0) rfl (setget (ix_lt (hx18))) rfl (by decide) rfl rfl ?_)
    refine WA.done (by kernel_rfl) ?_
    obtain rfl := Option.some.inj hF
    refine W.endV (fn := Try.f85) (vs := []) Try.results85 trivial (fun _ _ h => h) (fun wz hw => ?_)
    exact hR _ _ ⟨(), (by simp), rfl, (St.cong (L := ([cBx b1 78 (Value.int .i64 algo2 :: (Value.int .i64 n3 :: (Value.pointer (pt bs16 top4) :: (Value.pointer (pt bs16 head5) :: (Value.pointer (pt bs16 tail6) :: (Value.slice A7 (people9).length c8 :: (Value.slice A11 (events13).length c12 :: (Value.int .i64 restarts14 :: [])))))))), cHp (encStepsNode bs16) 75 bs16 (nodes17.set x18.own.toNat (StepsNode.mk x19.value top4)), cN (encNStepsProcess bs16) (innNStepsProcess w0) 10 A7 c8 80 hd10 ((people9.set ip15.toNat (StepsProcess.mk x18.program x18.pending x18.complete x18.res x18.item x18.n top4 x18.y x18.z_ x18.own)).set ip15.toNat (StepsProcess.mk x18.program x18.pending x18.complete x18.res 2 x18.n top4 x18.y x18.z_ x18.own)), cR encEvent 4 A11 c12 31 events13] ++ T)) (hw.pickK 4 [1, 3, 0, 2] rfl) (by simp only [List.length_set, List.nil_append, List.cons_append]))⟩
  · replace hF := cneg hC3 hF
    refine W.seqD (by kernel_rfl) (by kernel_rfl) fun R6 hR6 => ?_
    refine WD.q (Y.move (.pl rfl)) rfl ?_
    refine WD.q (Y.nilCheck (.pl rfl)) rfl ?_
    refine WD.q (Y.fieldAddr0 (off := 2) (ft := 73) Try.underlying78 rfl cells73 (.pl rfl)) rfl ?_
    refine WD.q (Y.loadB (v := .pointer (pt bs16 top4)) Try.underlying73 rfl (.pl rfl) (i := 0) rfl (rfl)) rfl ?_
    refine WD.q (Y.move (.pl rfl)) rfl ?_
    refine WD.q (Y.nilCheck (.pl rfl)) rfl ?_
    refine WD.q (Y.nField (off := 6) (ft := 73) Try.underlying80 rfl cells73 (i' := 1) rfl (ix_lt (hx18)) (.pl rfl)) rfl ?_
    refine WD.q (Y.loadN (enc := (encNStepsProcess bs16)) (h0 := ((none, 0) : Hd)) (v := .pointer (pt bs16 x18.x)) (a := (StepsProcess.mk x18.program x18.pending x18.complete x18.res x18.item x18.n x18.x x18.y x18.z_ x18.own)) (idx := ip15) (j := 6) Try.underlying73 rfl (lenNStepsProcess bs16) (i := 1) rfl (.pl rfl) (ix_get (hx18)) rfl rfl) rfl ?_
    obtain ⟨hk20, hF⟩ := ckh hF
    obtain ⟨hk21, hF⟩ := ckh hF
    refine WD.q (Y.eqlP (enc := (encStepsNode bs16)) (bs := bs16) (xs := nodes17) Try.underlying73 bz75 (by decide) (.pl rfl) (.pl rfl) (hk20) (hk21) (i := 3) rfl) rfl ?_
    refine WD.q (Y.assign (.pl rfl)) rfl ?_
    refine WD.next hR6 (.cons (i := 0) rfl (.cons (i := 1) rfl (.cons (i := 33) rfl (.nil)))) ?_
    refine W.cond (.pl rfl) (fun hC7 => ?_) (fun hC7 => ?_)
    · replace hF := cpos hC7 hF
      refine W.seqR fun Q8 hQ8 => ?_
      refine WL.q (Y.move (.pl rfl)) rfl ?_
      refine WL.q (Y.move (.pl rfl)) rfl ?_
      refine WL.q (Y.nilCheck (.pl rfl)) rfl ?_
      refine WL.q (Y.nField (off := 9) (ft := 73) Try.underlying80 rfl cells73 (i' := 1) rfl (ix_lt (hx18)) (.pl rfl)) rfl ?_
      refine WL.q (Y.loadN (enc := (encNStepsProcess bs16)) (h0 := ((none, 0) : Hd)) (v := .pointer (pt bs16 x18.own)) (a := (StepsProcess.mk x18.program x18.pending x18.complete x18.res x18.item x18.n x18.x x18.y x18.z_ x18.own)) (idx := ip15) (j := 9) Try.underlying73 rfl (lenNStepsProcess bs16) (i := 1) rfl (.pl rfl) (ix_get (hx18)) rfl rfl) rfl ?_
      refine WL.q (Y.nilCheck (.pl rfl)) rfl ?_
      refine WL.q (Y.fieldAddr0 (off := 2) (ft := 73) Try.underlying78 rfl cells73 (.pl rfl)) rfl ?_
      refine WL.step (WO.storeB (cs' := (Value.int .i64 algo2 :: (Value.int .i64 n3 :: (Value.pointer (pt bs16 x18.own) :: (Value.pointer (pt bs16 head5) :: (Value.pointer (pt bs16 tail6) :: (Value.slice A7 (people9).length c8 :: (Value.slice A11 (events13).length c12 :: (Value.int .i64 restarts14 :: []))))))))) cells73 (.pl rfl) (.pl rfl) rfl (i := 0) rfl (ltl (m := 8) (by decide) rfl) (rfl) ?_)
      refine WL.next hQ8 (.cons (i := 1) rfl (.nil)) ?_
      refine W.reg ?_
      refine WL.q (Y.move (.pl rfl)) rfl ?_
      obtain ⟨r22, hr22, hF⟩ := bnd hF
      refine WL.step (WO.call (γ := Unit) (fun g => .tuple #[]) (fun g => ([cN (encNStepsProcess bs16) (innNStepsProcess w0) 10 A7 c8 80 hd10 r22, cHp (encStepsNode bs16) 75 bs16 nodes17, cBx b1 78 (Value.int .i64 algo2 :: (Value.int .i64 n3 :: (Value.pointer (pt bs16 x18.own) :: (Value.pointer (pt bs16 head5) :: (Value.pointer (pt bs16 tail6) :: (Value.slice A7 (people9).length c8 :: (Value.slice A11 (events13).length c12 :: (Value.int .i64 restarts14 :: [])))))))), cR encEvent 4 A11 c12 31 events13] ++ T)) (fun g => (r22).length = (people9).length) isGo104 (.cons (.pl rfl) (.cons (.pl rfl) (.nil))) rfl (fun wz hw => steps_process_finish_ok (T := ([cBx b1 78 (Value.int .i64 algo2 :: (Value.int .i64 n3 :: (Value.pointer (pt bs16 x18.own) :: (Value.pointer (pt bs16 head5) :: (Value.pointer (pt bs16 tail6) :: (Value.slice A7 (people9).length c8 :: (Value.slice A11 (events13).length c12 :: (Value.int .i64 restarts14 :: [])))))))), cR encEvent 4 A11 c12 31 events13] ++ T)) (hr22) (hw.pickK 4 [1, 3, 0, 2] rfl) ) ?_)
      rintro _ hl23
      refine WL.nil ?_
      obtain rfl := Option.some.inj hF
      refine W.endV (fn := Try.f85) (vs := []) Try.results85 trivial (fun _ _ h => h) (fun wz hw => ?_)
      exact hR _ _ ⟨(), (by simp [hl23]), rfl, (St.cong (L := ([cBx b1 78 (Value.int .i64 algo2 :: (Value.int .i64 n3 :: (Value.pointer (pt bs16 x18.own) :: (Value.pointer (pt bs16 head5) :: (Value.pointer (pt bs16 tail6) :: (Value.slice A7 (people9).length c8 :: (Value.slice A11 (events13).length c12 :: (Value.int .i64 restarts14 :: [])))))))), cHp (encStepsNode bs16) 75 bs16 nodes17, cN (encNStepsProcess bs16) (innNStepsProcess w0) 10 A7 c8 80 hd10 r22, cR encEvent 4 A11 c12 31 events13] ++ T)) (hw.pickK 4 [2, 1, 0, 3] rfl) (by simp only [List.length_set, List.nil_append, List.cons_append, hl23]))⟩
    · replace hF := cneg hC7 hF
      refine W.reg ?_
      refine WL.q (Y.move (.pl rfl)) rfl ?_
      refine WL.q (Y.move (.pl rfl)) rfl ?_
      obtain ⟨r24, hr24, hF⟩ := bnd hF
      refine WL.step (WO.call (γ := Unit) (fun g => .tuple #[]) (fun g => ([cBx b1 78 (Value.int .i64 algo2 :: (Value.int .i64 n3 :: (Value.pointer (pt bs16 top4) :: (Value.pointer (pt bs16 head5) :: (Value.pointer (pt bs16 tail6) :: (Value.slice A7 (r24).length c8 :: (Value.slice A11 (events13).length c12 :: (Value.int .i64 (restarts14 + 1) :: [])))))))), cHp (encStepsNode bs16) 75 bs16 nodes17, cN (encNStepsProcess bs16) (innNStepsProcess w0) 10 A7 c8 80 hd10 r24, cR encEvent 4 A11 c12 31 events13] ++ T)) (fun g => (r24).length = (people9).length) isGo105 (.cons (.pl rfl) (.cons (.pl rfl) (.nil))) rfl (fun wz hw => steps_machine_restart_ok (T := ([] ++ T)) (hr24) (hw.pickK 4 [0, 1, 2, 3] rfl) ) ?_)
      rintro _ hl25
      refine WL.nil ?_
      obtain rfl := Option.some.inj hF
      refine W.endV (fn := Try.f85) (vs := []) Try.results85 trivial (fun _ _ h => h) (fun wz hw => ?_)
      exact hR _ _ ⟨(), (by simp [hl25]), rfl, (hw.pickK 4 [0, 1, 2, 3] rfl)⟩

def steps_machine_pop (N : Nat) (algo2 : Int) (n3 : Int) (top4 : Int) (head5 : Int) (tail6 : Int) (people9 : (List StepsProcess)) (events13 : (List Event)) (restarts14 : Int) (ip15 : Int) (nodes17 : (List StepsNode)) : Option (Int × (List StepsProcess) × Int) :=
  bd (ix people9 ip15) fun (x18 : StepsProcess) =>
  cond ((decide (x18.item = 1)) && (decide (top4 < 0)))
    (bd (steps_process_finish N people9 ip15 (-1) nodes17) fun (r19 : (List StepsProcess)) =>
    some (top4, r19, restarts14))
    (cond (decide (x18.item = 1))
      (bd (ix nodes17 top4) fun (x21 : StepsNode) =>
      some (top4, (((people9.set ip15.toNat (StepsProcess.mk x18.program x18.pending x18.complete x18.res x18.item x18.n top4 x18.y x18.z_ x18.own)).set ip15.toNat (StepsProcess.mk x18.program x18.pending x18.complete x18.res x18.item x18.n top4 x21.next x18.z_ x18.own)).set ip15.toNat (StepsProcess.mk x18.program x18.pending x18.complete x18.res 2 x18.n top4 x21.next x18.z_ x18.own)), restarts14))
      (ck (vp (nodes17).length top4) <|
      ck (vp (nodes17).length x18.x) <|
      cond (decide (top4 = x18.x))
        (bd (ix nodes17 x18.x) fun (x24 : StepsNode) =>
        bd (steps_process_finish N people9 ip15 x24.value nodes17) fun (r25 : (List StepsProcess)) =>
        some (x18.y, r25, restarts14))
        (bd (steps_machine_restart N algo2 n3 top4 head5 tail6 people9 events13 restarts14 ip15 nodes17) fun (r27 : (List StepsProcess)) =>
        some (top4, r27, (restarts14 + 1)))))

theorem steps_machine_pop_ok {N : Nat} {algo2 : Int} {n3 : Int} {top4 : Int} {head5 : Int} {tail6 : Int} {people9 : (List StepsProcess)} {events13 : (List Event)} {restarts14 : Int} {ip15 : Int} {nodes17 : (List StepsNode)} {b1 : Nat} {A7 : Option Addr} {c8 : Nat} {hd10 : List Hd} {A11 : Option Addr} {c12 : Nat} {bs16 : List Nat} {res : (Int × (List StepsProcess) × Int)} (hF : steps_machine_pop N algo2 n3 top4 head5 tail6 people9 events13 restarts14 ip15 nodes17 = some res) {w0 w : World} {T : List Chunk} (hw : St w0.heap.size w0 ([cBx b1 78 (Value.int .i64 algo2 :: (Value.int .i64 n3 :: (Value.pointer (pt bs16 top4) :: (Value.pointer (pt bs16 head5) :: (Value.pointer (pt bs16 tail6) :: (Value.slice A7 (people9).length c8 :: (Value.slice A11 (events13).length c12 :: (Value.int .i64 restarts14 :: [])))))))), cN (encNStepsProcess bs16) (innNStepsProcess w0) 10 A7 c8 80 hd10 people9, cR encEvent 4 A11 c12 31 events13, cHp (encStepsNode bs16) 75 bs16 nodes17] ++ T) w) :
    Calls Try.prog 86 (List.toArray [.pointer (some ⟨b1, 0, none⟩), .pointer (some (elA A7 (ip15.toNat * (9 + 1))))]) w (fun e w' => ∃ g : Unit, ((res.2.1).length = (people9).length) ∧ e = .returned (.tuple #[]) ∧ St w0.heap.size w0 ([cBx b1 78 (Value.int .i64 algo2 :: (Value.int .i64 n3 :: (Value.pointer (pt bs16 res.1) :: (Value.pointer (pt bs16 head5) :: (Value.pointer (pt bs16 tail6) :: (Value.slice A7 (res.2.1).length c8 :: (Value.slice A11 (events13).length c12 :: (Value.int .i64 res.2.2 :: [])))))))), cHp (encStepsNode bs16) 75 bs16 nodes17, cN (encNStepsProcess bs16) (innNStepsProcess w0) 10 A7 c8 80 hd10 res.2.1, cR encEvent 4 A11 c12 31 events13] ++ T) w') := by
  refine W.enter (n := 74) Try.func86 rfl rfl Sub.refl (by simp) hw fun R hR => ?_
  unfold steps_machine_pop at hF
  obtain ⟨x18, hx18, hF⟩ := bnd hF
  refine W.block ?_
  refine W.know (fun wz hwz => bor_of (h0 := ((none, 0) : Hd)) (q := fun h a => SlIn encAsk 3 w0 (.slice h.1 a.program.length h.2) a.program) hwz (i := 1) rfl (fun _ _ => .head _)) (fun hbor2 => ?_)
  refine W.seqR fun Q1 hQ1 => ?_
  refine WL.q (Y.move (.pl rfl)) rfl ?_
  refine WL.q (Y.nilCheck (.pl rfl)) rfl ?_
  refine WL.q (Y.nField (off := 4) (ft := 3) Try.underlying80 rfl cells3 (i' := 1) rfl (ix_lt (hx18)) (.pl rfl)) rfl ?_
  refine WL.q (Y.loadN (enc := (encNStepsProcess bs16)) (h0 := ((none, 0) : Hd)) (v := .int .i64 x18.item) (a := (StepsProcess.mk x18.program x18.pending x18.complete x18.res x18.item x18.n x18.x x18.y x18.z_ x18.own)) (idx := ip15) (j := 4) Try.underlying3 rfl (lenNStepsProcess bs16) (i := 1) rfl (.pl rfl) (ix_get (hx18)) rfl rfl) rfl ?_
  refine WL.q (Y.eql (.pl rfl) (.pl rfl)) rfl ?_
  refine WL.q (Y.move (.pl rfl)) rfl ?_
  refine WL.g (.pl rfl rfl rfl) (fun hg => Y.move (.pl rfl)) rfl ?_
  refine WL.g (.pl rfl rfl rfl) (fun hg => Y.nilCheck (.gd (hg) rfl)) rfl ?_
  refine WL.g (.pl rfl rfl rfl) (fun hg => Y.fieldAddr0 (off := 2) (ft := 73) Try.underlying78 rfl cells73 (.gd (hg) rfl)) rfl ?_
  refine WL.g (.pl rfl rfl rfl) (fun hg => Y.loadB (v := .pointer (pt bs16 top4)) Try.underlying73 rfl (.gd (hg) rfl) (i := 0) rfl (rfl)) rfl ?_
  refine WL.g (.pl rfl rfl rfl) (fun hg => Y.eqlPN (bs := bs16) Try.underlying73 (.gd (hg) rfl)) rfl ?_
  refine WL.q (Y.and (.pl rfl) (fun h2 => .gd (eqt h2) rfl)) rfl ?_
  refine WL.q (Y.assign (.pl rfl)) rfl ?_
  refine WL.next hQ1 (.cons (i := 0) rfl (.cons (i := 1) rfl (.cons (i := 7) rfl (.nil)))) ?_
  refine W.cond (.pl rfl) (fun hC3 => ?_) (fun hC3 => ?_)
  · replace hF := cpos hC3 hF
    refine W.reg ?_
    refine WL.q (Y.move (.pl rfl)) rfl ?_
    obtain ⟨r19, hr19, hF⟩ := bnd hF
    refine WL.step (WO.call (γ := Unit) (fun g => .tuple #[]) (fun g => ([cN (encNStepsProcess bs16) (innNStepsProcess w0) 10 A7 c8 80 hd10 r19, cHp (encStepsNode bs16) 75 bs16 nodes17, cBx b1 78 (Value.int .i64 algo2 :: (Value.int .i64 n3 :: (Value.pointer (pt bs16 top4) :: (Value.pointer (pt bs16 head5) :: (Value.pointer (pt bs16 tail6) :: (Value.slice A7 (people9).length c8 :: (Value.slice A11 (events13).length c12 :: (Value.int .i64 restarts14 :: [])))))))), cR encEvent 4 A11 c12 31 events13] ++ T)) (fun g => (r19).length = (people9).length) isGo104 (.cons (.pl rfl) (.cons (.pl rfl) (.nil))) rfl (fun wz hw => steps_process_finish_ok (T := ([cBx b1 78 (Value.int .i64 algo2 :: (Value.int .i64 n3 :: (Value.pointer (pt bs16 top4) :: (Value.pointer (pt bs16 head5) :: (Value.pointer (pt bs16 tail6) :: (Value.slice A7 (people9).length c8 :: (Value.slice A11 (events13).length c12 :: (Value.int .i64 restarts14 :: [])))))))), cR encEvent 4 A11 c12 31 events13] ++ T)) (hr19) (hw.pickK 4 [1, 3, 0, 2] rfl) ) ?_)
    rintro _ hl20
    refine WL.nil ?_
    obtain rfl := Option.some.inj hF
    refine W.endV (fn := Try.f86) (vs := []) Try.results86 trivial (fun _ _ h => h) (fun wz hw => ?_)
    exact hR _ _ ⟨(), (by simp [hl20]), rfl, (St.cong (L := ([cBx b1 78 (Value.int .i64 algo2 :: (Value.int .i64 n3 :: (Value.pointer (pt bs16 top4) :: (Value.pointer (pt bs16 head5) :: (Value.pointer (pt bs16 tail6) :: (Value.slice A7 (people9).length c8 :: (Value.slice A11 (events13).length c12 :: (Value.int .i64 restarts14 :: [])))))))), cHp (encStepsNode bs16) 75 bs16 nodes17, cN (encNStepsProcess bs16) (innNStepsProcess w0) 10 A7 c8 80 hd10 r19, cR encEvent 4 A11 c12 31 events13] ++ T)) (hw.pickK 4 [2, 1, 0, 3] rfl) (by simp only [List.length_set, List.nil_append, List.cons_append, hl20]))⟩
  · replace hF := cneg hC3 hF
    refine W.seqR fun Q5 hQ5 => ?_
    refine WL.q (Y.move (.pl rfl)) rfl ?_
    refine WL.q (Y.nilCheck (.pl rfl)) rfl ?_
    refine WL.q (Y.nField (off := 4) (ft := 3) Try.underlying80 rfl cells3 (i' := 1) rfl (ix_lt (hx18)) (.pl rfl)) rfl ?_
    refine WL.q (Y.loadN (enc := (encNStepsProcess bs16)) (h0 := ((none, 0) : Hd)) (v := .int .i64 x18.item) (a := (StepsProcess.mk x18.program x18.pending x18.complete x18.res x18.item x18.n x18.x x18.y x18.z_ x18.own)) (idx := ip15) (j := 4) Try.underlying3 rfl (lenNStepsProcess bs16) (i := 1) rfl (.pl rfl) (ix_get (hx18)) rfl rfl) rfl ?_
    refine WL.q (Y.eql (.pl rfl) (.pl rfl)) rfl ?_
    refine WL.q (Y.assign (.pl rfl)) rfl ?_
    refine WL.next hQ5 (.cons (i := 0) rfl (.cons (i := 1) rfl (.cons (i := 22) rfl (.nil)))) ?_
    refine W.cond (.pl rfl) (fun hC6 => ?_) (fun hC6 => ?_)
    · replace hF := cpos hC6 hF
      refine W.know (fun wz hw => n_okA0 hw (i := 1) rfl) (fun hok8 => ?_)
      refine W.regX 16 (by kernel_rfl) ?_
      refine WX.pure 0 #[true, false, false, false, false, false, false, false, false, false, false, false, false, false, false, false, false, false, false, false, false, false, false] rfl (by kernel_rfl) (fun _ _ => Y.move (.pl rfl)) rfl ?_
      refine WX.pure 1 #[true, true, false, false, false, false, false, false, false, false, false, false, false, false, false, false, false, false, false, false, false, false, false] rfl (by kernel_rfl) (fun _ _ => Y.move (.pl rfl)) rfl ?_
      refine WX.pure 2 #[true, true, true, false, false, false, false, false, false, false, false, false, false, false, false, false, false, false, false, false, false, false, false] rfl (by kernel_rfl) (fun _ _ => Y.move (.pl rfl)) rfl ?_
      refine WX.pure 3 #[true, true, true, true, false, false, false, false, false, false, false, false, false, false, false, false, false, false, false, false, false, false, false] rfl (by kernel_rfl) (fun _ _ => Y.move (.pl rfl)) rfl ?_
      refine WX.pure 4 #[true, true, true, true, true, false, false, false, false, false, false, false, false, false, false, false, false, false, false, false, false, false, false] rfl (by kernel_rfl) (fun _ _ => Y.nilCheck (.pl rfl)) rfl ?_
      refine WX.pure 5 #[true, true, true, true, true, true, false, false, false, false, false, false, false, false, false, false, false, false, false, false, false, false, false] rfl (by kernel_rfl) (fun _ _ => Y.fieldAddr0 (off := 2) (ft := 73) Try.underlying78 rfl cells73 (.pl rfl)) rfl ?_
      refine WX.take 6 #[true, true, true, true, true, true, true, false, false, false, false, false, false, false, false, false, false, false, false, false, false, false, false] (fun wz hw => St.tail [] hw) rfl (by kernel_rfl) (Y.loadB (v := .pointer (pt bs16 top4)) Try.underlying73 rfl (.pl rfl) (i := 0) rfl (rfl)) rfl ?_
      refine WX.pure 7 #[true, true, true, true, true, true, true, true, false, false, false, false, false, false, false, false, false, false, false, false, false, false, false] rfl (by kernel_rfl) (fun _ _ => Y.move (.pl rfl)) rfl ?_
      refine WX.pure 8 #[true, true, true, true, true, true, true, true, true, false, false, false, false, false, false, false, false, false, false, false, false, false, false] rfl (by kernel_rfl) (fun _ _ => Y.nilCheck (.pl rfl)) rfl ?_
      refine WX.pure 9 #[true, true, true, true, true, true, true, true, true, true, false, false, false, false, false, false, false, false, false, false, false, false, false] rfl (by kernel_rfl) (fun _ _ => Y.fieldAddr0 (off := 2) (ft := 73) Try.underlying78 rfl cells73 (.pl rfl)) rfl ?_
      refine WX.take 10 #[true, true, true, true, true, true, true, true, true, true, true, false, false, false, false, false, false, false, false, false, false, false, false] (fun wz hw => St.tail [] hw) rfl (by kernel_rfl) (Y.loadB (v := .pointer (pt bs16 top4)) Try.underlying73 rfl (.pl rfl) (i := 0) rfl (rfl)) rfl ?_
      obtain ⟨x21, hx21, hF⟩ := bnd hF
      refine WX.pure 11 #[true, true, true, true, true, true, true, true, true, true, true, true, false, false, false, false, false, false, false, false, false, false, false] rfl (by kernel_rfl) (fun _ _ => Y.nilCheckP (ix_lt (hx21)).1 (.pl rfl)) rfl ?_
      refine WX.pure 12 #[true, true, true, true, true, true, true, true, true, true, true, true, true, false, false, false, false, false, false, false, false, false, false] rfl (by kernel_rfl) (fun _ _ => Y.fieldAddr0 (off := 1) (ft := 73) Try.underlying75 rfl cells73 (.pl rfl)) rfl ?_
      refine WX.take 13 #[true, true, true, true, true, true, true, true, true, true, true, true, true, true, false, false, false, false, false, false, false, false, false] (fun wz hw => St.tail [] hw) rfl (by kernel_rfl) (Y.loadH (enc := (encStepsNode bs16)) (bs := bs16) (p := top4) (v := .pointer (pt bs16 x21.next)) (a := x21) Try.underlying73 rfl (.pl rfl) (i := 3) rfl (ix_get (hx21)) rfl) rfl ?_
      refine WX.pure 14 #[true, true, true, true, true, true, true, true, true, true, true, true, true, true, true, false, false, false, false, false, false, false, false] rfl (by kernel_rfl) (fun _ _ => Y.nilCheck (.pl rfl)) rfl ?_
      refine WX.take 15 #[true, true, true, true, true, true, true, true, true, true, true, true, true, true, true, true, false, false, false, false, false, false, false] (fun wz hw => St.tail [] hw) rfl (by kernel_rfl) (Y.okField (off := 6) (ft := 73) Try.underlying80 rfl cells73 hok8 (by have := (ix_lt (hx18)); omega) (.pl rfl)) rfl ?_
      refine WX.stop #[true, true, true, true, true, true, true, true, true, true, true, true, true, true, true, true, true, false, false, false, false, false, false] (fun wz hw => St.tail [] hw) rfl (by kernel_rfl) (WO.storeN0 (enc := (encNStepsProcess bs16)) (inn := (innNStepsProcess w0)) (h0 := ((none, 0) : Hd)) (a := (StepsProcess.mk x18.program x18.pending x18.complete x18.res x18.item x18.n x18.x x18.y x18.z_ x18.own)) (a' := (StepsProcess.mk x18.program x18.pending x18.complete x18.res x18.item x18.n top4 x18.y x18.z_ x18.own)) (idx := ip15) (j := 6) cells73 (.pl rfl) (.pl rfl) rfl (lenNStepsProcess bs16) (i := 1) rfl (ix_get (hx18)) rfl (by decide) rfl rfl ?_)
      refine WA.take 17 #[true, true, true, true, true, true, true, true, true, true, true, true, true, true, true, true, true, true, false, false, false, false, false] rfl (by kernel_rfl) (fun _ _ => Y.nilCheck (.pl rfl)) rfl ?_
      refine WA.take 18 #[true, true, true, true, true, true, true, true, true, true, true, true, true, true, true, true, true, true, true, false, false, false, false] rfl (by kernel_rfl) (fun _ _ => Y.okField (off := 7) (ft := 73) Try.underlying80 rfl cells73 hok8 (by have := (ix_lt (hx18)); omega) (.pl rfl)) rfl ?_
      refine WA.branch [19] (by kernel_rfl) ⟨?_, trivial⟩
      refine WI.step #[true, true, true, true, true, true, true, true, true, true, true, true, true, true, true, true, true, true, true, true, false, false, false] rfl rfl (WO.storeN0 (enc := (encNStepsProcess bs16)) (inn := (innNStepsProcess w0)) (h0 := ((none, 0) : Hd)) (a := (StepsProcess.mk x18.program x18.pending x18.complete x18.res x18.item x18.n top4 x18.y x18.z_ x18.own)) (a' := (StepsProcess.mk x18.program x18.pending x18.complete x18.res x18.item x18.n top4 x21.next x18.z_ x18.own)) (idx := ip15) (j := 7) cells73 (.pl rfl) (.pl rfl) rfl (lenNStepsProcess bs16) (i := 0) rfl (setget (ix_lt (hx18))) rfl (by decide) rfl rfl ?_)
      refine WA.take 20 #[true, true, true, true, true, true, true, true, true, true, true, true, true, true, true, true, true, true, true, true, true, false, false] rfl (by kernel_rfl) (fun _ _ => Y.nilCheck (.pl rfl)) rfl ?_
      refine WA.take 21 #[true, true, true, true, true, true, true, true, true, true, true, true, true, true, true, true, true, true, true, true, true, true, false] rfl (by kernel_rfl) (fun _ _ => Y.okField (off := 4) (ft := 3) Try.underlying80 rfl cells3 hok8 (by have := (ix_lt (hx18)); omega) (.pl rfl)) rfl ?_
      refine WA.branch [22] (by kernel_rfl) ⟨?_, trivial⟩
      refine WI.step #[true, true, true, true, true, true, true, true, true, true, true, true, true, true, true, true, true, true, true, true, true, true, true] rfl rfl (WO.storeN0 (enc := (encNStepsProcess bs16)) (inn := (innNStepsProcess w0)) (h0 := ((none, 0) : Hd)) (a := (StepsProcess.mk x18.program x18.pending x18.complete x18.res x18.item x18.n top4 x21.next x18.z_ x18.own)) (a' := (StepsProcess.mk x18.program x18.pending x18.complete x18.res 2 x18.n top4 x21.next x18.z_ x18.own)) (idx := ip15) (j := 4) cells3 (.pl rfl) (.pl rfl) rfl (lenNStepsProcess bs16) (i := 0) rfl (setget (⟨(ix_lt (hx18)).1, by simpa only [List.length_set] using (ix_lt (hx18)).2⟩)) rfl (by decide) rfl rfl ?_)
      refine WA.done (by kernel_rfl) ?_
      obtain rfl := Option.some.inj hF
      refine W.endV (fn := Try.f86) (vs := []) Try.results86 trivial (fun _ _ h => h) (fun wz hw => ?_)
      exact hR _ _ ⟨(), (by simp), rfl, (St.cong (L := ([cBx b1 78 (Value.int .i64 algo2 :: (Value.int .i64 n3 :: (Value.pointer (pt bs16 top4) :: (Value.pointer (pt bs16 head5) :: (Value.pointer (pt bs16 tail6) :: (Value.slice A7 (people9).length c8 :: (Value.slice A11 (events13).length c12 :: (Value.int .i64 restarts14 :: [])))))))), cHp (encStepsNode bs16) 75 bs16 nodes17, cN (encNStepsProcess bs16) (innNStepsProcess w0) 10 A7 c8 80 hd10 (((people9.set ip15.toNat (StepsProcess.mk x18.program x18.pending x18.complete x18.res x18.item x18.n top4 x18.y x18.z_ x18.own)).set ip15.toNat (StepsProcess.mk x18.program x18.pending x18.complete x18.res x18.item x18.n top4 x21.next x18.z_ x18.own)).set ip15.toNat (StepsProcess.mk x18.program x18.pending x18.complete x18.res 2 x18.n top4 x21.next x18.z_ x18.own)), cR encEvent 4 A11 c12 31 events13] ++ T)) (hw.pickK 4 [1, 3, 0, 2] rfl) (by simp only [List.length_set, List.nil_append, List.cons_append]))⟩
    · replace hF := cneg hC6 hF
      refine W.seqD (by kernel_rfl) (by kernel_rfl) fun R9 hR9 => ?_
      refine WD.q (Y.move (.pl rfl)) rfl ?_
      refine WD.q (Y.nilCheck (.pl rfl)) rfl ?_
      refine WD.q (Y.fieldAddr0 (off := 2) (ft := 73) Try.underlying78 rfl cells73 (.pl rfl)) rfl ?_
      refine WD.q (Y.loadB (v := .pointer (pt bs16 top4)) Try.underlying73 rfl (.pl rfl) (i := 0) rfl (rfl)) rfl ?_
      refine WD.q (Y.move (.pl rfl)) rfl ?_
      refine WD.q (Y.nilCheck (.pl rfl)) rfl ?_
      refine WD.q (Y.nField (off := 6) (ft := 73) Try.underlying80 rfl cells73 (i' := 1) rfl (ix_lt (hx18)) (.pl rfl)) rfl ?_
      refine WD.q (Y.loadN (enc := (encNStepsProcess bs16)) (h0 := ((none, 0) : Hd)) (v := .pointer (pt bs16 x18.x)) (a := (StepsProcess.mk x18.program x18.pending x18.complete x18.res x18.item x18.n x18.x x18.y x18.z_ x18.own)) (idx := ip15) (j := 6) Try.underlying73 rfl (lenNStepsProcess bs16) (i := 1) rfl (.pl rfl) (ix_get (hx18)) rfl rfl) rfl ?_
      obtain ⟨hk22, hF⟩ := ckh hF
      obtain ⟨hk23, hF⟩ := ckh hF
      refine WD.q (Y.eqlP (enc := (encStepsNode bs16)) (bs := bs16) (xs := nodes17) Try.underlying73 bz75 (by decide) (.pl rfl) (.pl rfl) (hk22) (hk23) (i := 3) rfl) rfl ?_
      refine WD.q (Y.assign (.pl rfl)) rfl ?_
      refine WD.next hR9 (.cons (i := 0) rfl (.cons (i := 1) rfl (.cons (i := 48) rfl (.nil)))) ?_
      refine W.cond (.pl rfl) (fun hC10 => ?_) (fun hC10 => ?_)
      · replace hF := cpos hC10 hF
        refine W.seqR fun Q11 hQ11 => ?_
        refine WL.q (Y.move (.pl rfl)) rfl ?_
        refine WL.q (Y.move (.pl rfl)) rfl ?_
        refine WL.q (Y.nilCheck (.pl rfl)) rfl ?_
        refine WL.q (Y.nField (off := 7) (ft := 73) Try.underlying80 rfl cells73 (i' := 1) rfl (ix_lt (hx18)) (.pl rfl)) rfl ?_
        refine WL.q (Y.loadN (enc := (encNStepsProcess bs16)) (h0 := ((none, 0) : Hd)) (v := .pointer (pt bs16 x18.y)) (a := (StepsProcess.mk x18.program x18.pending x18.complete x18.res x18.item x18.n x18.x x18.y x18.z_ x18.own)) (idx := ip15) (j := 7) Try.underlying73 rfl (lenNStepsProcess bs16) (i := 1) rfl (.pl rfl) (ix_get (hx18)) rfl rfl) rfl ?_
        refine WL.q (Y.nilCheck (.pl rfl)) rfl ?_
        refine WL.q (Y.fieldAddr0 (off := 2) (ft := 73) Try.underlying78 rfl cells73 (.pl rfl)) rfl ?_
        refine WL.step (WO.storeB (cs' := (Value.int .i64 algo2 :: (Value.int .i64 n3 :: (Value.pointer (pt bs16 x18.y) :: (Value.pointer (pt bs16 head5) :: (Value.pointer (pt bs16 tail6) :: (Value.slice A7 (people9).length c8 :: (Value.slice A11 (events13).length c12 :: (Value.int .i64 restarts14 :: []))))))))) cells73 (.pl rfl) (.pl rfl) rfl (i := 0) rfl (ltl (m := 8) (by decide) rfl) (rfl) ?_)
        refine WL.next hQ11 (.cons (i := 1) rfl (.nil)) ?_
        refine W.reg ?_
        refine WL.q (Y.move (.pl rfl)) rfl ?_
        refine WL.q (Y.move (.pl rfl)) rfl ?_
        refine WL.q (Y.nilCheck (.pl rfl)) rfl ?_
        refine WL.q (Y.nField (off := 6) (ft := 73) Try.underlying80 rfl cells73 (i' := 1) rfl (ix_lt (hx18)) (.pl rfl)) rfl ?_
        refine WL.q (Y.loadN (enc := (encNStepsProcess bs16)) (h0 := ((none, 0) : Hd)) (v := .pointer (pt bs16 x18.x)) (a := (StepsProcess.mk x18.program x18.pending x18.complete x18.res x18.item x18.n x18.x x18.y x18.z_ x18.own)) (idx := ip15) (j := 6) Try.underlying73 rfl (lenNStepsProcess bs16) (i := 1) rfl (.pl rfl) (ix_get (hx18)) rfl rfl) rfl ?_
        obtain ⟨x24, hx24, hF⟩ := bnd hF
        refine WL.q (Y.nilCheckP (ix_lt (hx24)).1 (.pl rfl)) rfl ?_
        refine WL.q (Y.fieldAddr0 (off := 0) (ft := 3) Try.underlying75 rfl cells3 (.pl rfl)) rfl ?_
        refine WL.q (Y.loadH (enc := (encStepsNode bs16)) (bs := bs16) (p := x18.x) (v := .int .i64 x24.value) (a := x24) Try.underlying3 rfl (.pl rfl) (i := 3) rfl (ix_get (hx24)) rfl) rfl ?_
        obtain ⟨r25, hr25, hF⟩ := bnd hF
        refine WL.step (WO.call (γ := Unit) (fun g => .tuple #[]) (fun g => ([cN (encNStepsProcess bs16) (innNStepsProcess w0) 10 A7 c8 80 hd10 r25, cHp (encStepsNode bs16) 75 bs16 nodes17, cBx b1 78 (Value.int .i64 algo2 :: (Value.int .i64 n3 :: (Value.pointer (pt bs16 x18.y) :: (Value.pointer (pt bs16 head5) :: (Value.pointer (pt bs16 tail6) :: (Value.slice A7 (people9).length c8 :: (Value.slice A11 (events13).length c12 :: (Value.int .i64 restarts14 :: [])))))))), cR encEvent 4 A11 c12 31 events13] ++ T)) (fun g => (r25).length = (people9).length) isGo104 (.cons (.pl rfl) (.cons (.pl rfl) (.nil))) rfl (fun wz hw => steps_process_finish_ok (T := ([cBx b1 78 (Value.int .i64 algo2 :: (Value.int .i64 n3 :: (Value.pointer (pt bs16 x18.y) :: (Value.pointer (pt bs16 head5) :: (Value.pointer (pt bs16 tail6) :: (Value.slice A7 (people9).length c8 :: (Value.slice A11 (events13).length c12 :: (Value.int .i64 restarts14 :: [])))))))), cR encEvent 4 A11 c12 31 events13] ++ T)) (hr25) (hw.pickK 4 [1, 3, 0, 2] rfl) ) ?_)
        rintro _ hl26
        refine WL.nil ?_
        obtain rfl := Option.some.inj hF
        refine W.endV (fn := Try.f86) (vs := []) Try.results86 trivial (fun _ _ h => h) (fun wz hw => ?_)
        exact hR _ _ ⟨(), (by simp [hl26]), rfl, (St.cong (L := ([cBx b1 78 (Value.int .i64 algo2 :: (Value.int .i64 n3 :: (Value.pointer (pt bs16 x18.y) :: (Value.pointer (pt bs16 head5) :: (Value.pointer (pt bs16 tail6) :: (Value.slice A7 (people9).length c8 :: (Value.slice A11 (events13).length c12 :: (Value.int .i64 restarts14 :: [])))))))), cHp (encStepsNode bs16) 75 bs16 nodes17, cN (encNStepsProcess bs16) (innNStepsProcess w0) 10 A7 c8 80 hd10 r25, cR encEvent 4 A11 c12 31 events13] ++ T)) (hw.pickK 4 [2, 1, 0, 3] rfl) (by simp only [List.length_set, List.nil_append, List.cons_append, hl26]))⟩
      · replace hF := cneg hC10 hF
        refine W.reg ?_
        refine WL.q (Y.move (.pl rfl)) rfl ?_
        refine WL.q (Y.move (.pl rfl)) rfl ?_
        obtain ⟨r27, hr27, hF⟩ := bnd hF
        refine WL.step (WO.call (γ := Unit) (fun g => .tuple #[]) (fun g => ([cBx b1 78 (Value.int .i64 algo2 :: (Value.int .i64 n3 :: (Value.pointer (pt bs16 top4) :: (Value.pointer (pt bs16 head5) :: (Value.pointer (pt bs16 tail6) :: (Value.slice A7 (r27).length c8 :: (Value.slice A11 (events13).length c12 :: (Value.int .i64 (restarts14 + 1) :: [])))))))), cHp (encStepsNode bs16) 75 bs16 nodes17, cN (encNStepsProcess bs16) (innNStepsProcess w0) 10 A7 c8 80 hd10 r27, cR encEvent 4 A11 c12 31 events13] ++ T)) (fun g => (r27).length = (people9).length) isGo105 (.cons (.pl rfl) (.cons (.pl rfl) (.nil))) rfl (fun wz hw => steps_machine_restart_ok (T := ([] ++ T)) (hr27) (hw.pickK 4 [0, 1, 2, 3] rfl) ) ?_)
        rintro _ hl28
        refine WL.nil ?_
        obtain rfl := Option.some.inj hF
        refine W.endV (fn := Try.f86) (vs := []) Try.results86 trivial (fun _ _ h => h) (fun wz hw => ?_)
        exact hR _ _ ⟨(), (by simp [hl28]), rfl, (hw.pickK 4 [0, 1, 2, 3] rfl)⟩

def steps_machine_enq (N : Nat) (algo2 : Int) (n3 : Int) (top4 : Int) (head5 : Int) (tail6 : Int) (people9 : (List StepsProcess)) (events13 : (List Event)) (restarts14 : Int) (ip15 : Int) (nodes17 : (List StepsNode)) : Option ((List StepsNode) × Int × (List StepsProcess) × Int) :=
  bd (ix people9 ip15) fun (x18 : StepsProcess) =>
  cond (decide (x18.item = 1))
    (bd (ix nodes17 tail6) fun (x19 : StepsNode) =>
    some (nodes17, tail6, (((people9.set ip15.toNat (StepsProcess.mk x18.program x18.pending x18.complete x18.res x18.item x18.n tail6 x18.y x18.z_ x18.own)).set ip15.toNat (StepsProcess.mk x18.program x18.pending x18.complete x18.res x18.item x18.n tail6 x19.next x18.z_ x18.own)).set ip15.toNat (StepsProcess.mk x18.program x18.pending x18.complete x18.res 2 x18.n tail6 x19.next x18.z_ x18.own)), restarts14))
    (cond (decide (x18.item = 3))
      (ck (vp (nodes17).length tail6) <|
      ck (vp (nodes17).length x18.x) <|
      cond (decide (tail6 = x18.x))
        (bd (steps_process_finish N people9 ip15 0 nodes17) fun (r22 : (List StepsProcess)) =>
        some (nodes17, x18.own, r22, restarts14))
        (bd (steps_process_finish N people9 ip15 0 nodes17) fun (r24 : (List StepsProcess)) =>
        some (nodes17, tail6, r24, restarts14)))
      (ck (vp (nodes17).length tail6) <|
      ck (vp (nodes17).length x18.x) <|
      cond (!(decide (tail6 = x18.x)))
        (bd (steps_machine_restart N algo2 n3 top4 head5 tail6 people9 events13 restarts14 ip15 nodes17) fun (r28 : (List StepsProcess)) =>
        some (nodes17, tail6, r28, (restarts14 + 1)))
        (cond (!(decide (x18.y < 0)))
          (bd (steps_machine_restart N algo2 n3 top4 head5 x18.y people9 events13 restarts14 ip15 nodes17) fun (r30 : (List StepsProcess)) =>
          some (nodes17, x18.y, r30, (restarts14 + 1)))
          (bd (ix nodes17 x18.x) fun (x32 : StepsNode) =>
          cond (decide (x32.next < 0))
            (bd (ix nodes17 x18.x) fun (x33 : StepsNode) =>
            some ((nodes17.set x18.x.toNat (StepsNode.mk x33.value x18.own)), tail6, (people9.set ip15.toNat (StepsProcess.mk x18.program x18.pending x18.complete x18.res 3 x18.n x18.x x18.y x18.z_ x18.own)), restarts14))
            (bd (steps_machine_restart N algo2 n3 top4 head5 tail6 people9 events13 restarts14 ip15 nodes17) fun (r34 : (List StepsProcess)) =>
            some (nodes17, tail6, r34, (restarts14 + 1)))))))

theorem steps_machine_enq_ok {N : Nat} {algo2 : Int} {n3 : Int} {top4 : Int} {head5 : Int} {tail6 : Int} {people9 : (List StepsProcess)} {events13 : (List Event)} {restarts14 : Int} {ip15 : Int} {nodes17 : (List StepsNode)} {b1 : Nat} {A7 : Option Addr} {c8 : Nat} {hd10 : List Hd} {A11 : Option Addr} {c12 : Nat} {bs16 : List Nat} {res : ((List StepsNode) × Int × (List StepsProcess) × Int)} (hF : steps_machine_enq N algo2 n3 top4 head5 tail6 people9 events13 restarts14 ip15 nodes17 = some res) {w0 w : World} {T : List Chunk} (hw : St w0.heap.size w0 ([cBx b1 78 (Value.int .i64 algo2 :: (Value.int .i64 n3 :: (Value.pointer (pt bs16 top4) :: (Value.pointer (pt bs16 head5) :: (Value.pointer (pt bs16 tail6) :: (Value.slice A7 (people9).length c8 :: (Value.slice A11 (events13).length c12 :: (Value.int .i64 restarts14 :: [])))))))), cN (encNStepsProcess bs16) (innNStepsProcess w0) 10 A7 c8 80 hd10 people9, cR encEvent 4 A11 c12 31 events13, cHp (encStepsNode bs16) 75 bs16 nodes17] ++ T) w) :
    Calls Try.prog 87 (List.toArray [.pointer (some ⟨b1, 0, none⟩), .pointer (some (elA A7 (ip15.toNat * (9 + 1))))]) w (fun e w' => ∃ g : Unit, ((res.2.2.1).length = (people9).length) ∧ e = .returned (.tuple #[]) ∧ St w0.heap.size w0 ([cBx b1 78 (Value.int .i64 algo2 :: (Value.int .i64 n3 :: (Value.pointer (pt bs16 top4) :: (Value.pointer (pt bs16 head5) :: (Value.pointer (pt bs16 res.2.1) :: (Value.slice A7 (res.2.2.1).length c8 :: (Value.slice A11 (events13).length c12 :: (Value.int .i64 res.2.2.2 :: [])))))))), cHp (encStepsNode bs16) 75 bs16 res.1, cN (encNStepsProcess bs16) (innNStepsProcess w0) 10 A7 c8 80 hd10 res.2.2.1, cR encEvent 4 A11 c12 31 events13] ++ T) w') := by
  refine W.enter (n := 108) Try.func87 rfl rfl Sub.refl (by simp) hw fun R hR => ?_
  unfold steps_machine_enq at hF
  obtain ⟨x18, hx18, hF⟩ := bnd hF
  refine W.block ?_
  refine W.know (fun wz hwz => bor_of (h0 := ((none, 0) : Hd)) (q := fun h a => SlIn encAsk 3 w0 (.slice h.1 a.program.length h.2) a.program) hwz (i := 1) rfl (fun _ _ => .head _)) (fun hbor2 => ?_)
  refine W.seqR fun Q1 hQ1 => ?_
  refine WL.q (Y.move (.pl rfl)) rfl ?_
  refine WL.q (Y.nilCheck (.pl rfl)) rfl ?_
  refine WL.q (Y.nField (off := 4) (ft := 3) Try.underlying80 rfl cells3 (i' := 1) rfl (ix_lt (hx18)) (.pl rfl)) rfl ?_
  refine WL.q (Y.loadN (enc := (encNStepsProcess bs16)) (h0 := ((none, 0) : Hd)) (v := .int .i64 x18.item) (a := (StepsProcess.mk x18.program x18.pending x18.complete x18.res x18.item x18.n x18.x x18.y x18.z_ x18.own)) (idx := ip15) (j := 4) Try.underlying3 rfl (lenNStepsProcess bs16) (i := 1) rfl (.pl rfl) (ix_get (hx18)) rfl rfl) rfl ?_
  refine WL.q (Y.eql (.pl rfl) (.pl rfl)) rfl ?_
  refine WL.q (Y.assign (.pl rfl)) rfl ?_
  refine WL.next hQ1 (.cons (i := 0) rfl (.cons (i := 1) rfl (.cons (i := 7) rfl (.nil)))) ?_
  refine W.cond (.pl rfl) (fun hC3 => ?_) (fun hC3 => ?_)
  · replace hF := cpos hC3 hF
    refine W.know (fun wz hw => n_okA0 hw (i := 1) rfl) (fun hok5 => ?_)
    refine W.regX 16 (by kernel_rfl) ?_
    refine WX.pure 0 #[true, false, false, false, false, false, false, false, false, false, false, false, false, false, false, false, false, false, false, false, false, false, false] rfl (by kernel_rfl) (fun _ _ => Y.move (.pl rfl)) rfl ?_
    refine WX.pure 1 #[true, true, false, false, false, false, false, false, false, false, false, false, false, false, false, false, false, false, false, false, false, false, false] rfl (by kernel_rfl) (fun _ _ => Y.move (.pl rfl)) rfl ?_
    refine WX.pure 2 #[true, true, true, false, false, false, false, false, false, false, false, false, false, false, false, false, false, false, false, false, false, false, false] rfl (by kernel_rfl) (fun _ _ => Y.move (.pl rfl)) rfl ?_
    refine WX.pure 3 #[true, true, true, true, false, false, false, false, false, false, false, false, false, false, false, false, false, false, false, false, false, false, false] rfl (by kernel_rfl) (fun _ _ => Y.move (.pl rfl)) rfl ?_
    refine WX.pure 4 #[true, true, true, true, true, false, false, false, false, false, false, false, false, false, false, false, false, false, false, false, false, false, false] rfl (by kernel_rfl) (fun _ _ => Y.nilCheck (.pl rfl)) rfl ?_
    refine WX.pure 5 #[true, true, true, true, true, true, false, false, false, false, false, false, false, false, false, false, false, false, false, false, false, false, false] rfl (by kernel_rfl) (fun _ _ => Y.fieldAddr0 (off := 4) (ft := 73) Try.underlying78 rfl cells73 (.pl rfl)) rfl ?_
    refine WX.take 6 #[true, true, true, true, true, true, true, false, false, false, false, false, false, false, false, false, false, false, false, false, false, false, false] (fun wz hw => St.tail [] hw) rfl (by kernel_rfl) (Y.loadB (v := .pointer (pt bs16 tail6)) Try.underlying73 rfl (.pl rfl) (i := 0) rfl (rfl)) rfl ?_
    refine WX.pure 7 #[true, true, true, true, true, true, true, true, false, false, false, false, false, false, false, false, false, false, false, false, false, false, false] rfl (by kernel_rfl) (fun _ _ => Y.move (.pl rfl)) rfl ?_
    refine WX.pure 8 #[true, true, true, true, true, true, true, true, true, false, false, false, false, false, false, false, false, false, false, false, false, false, false] rfl (by kernel_rfl) (fun _ _ => Y.nilCheck (.pl rfl)) rfl ?_
    refine WX.pure 9 #[true, true, true, true, true, true, true, true, true, true, false, false, false, false, false, false, false, false, false, false, false, false, false] rfl (by kernel_rfl) (fun _ _ => Y.fieldAddr0 (off := 4) (ft := 73) Try.underlying78 rfl cells73 (.pl rfl)) rfl ?_
    refine WX.take 10 #[true, true, true, true, true, true, true, true, true, true, true, false, false, false, false, false, false, false, false, false, false, false, false] (fun wz hw => St.tail [] hw) rfl (by kernel_rfl) (Y.loadB (v := .pointer (pt bs16 tail6)) Try.underlying73 rfl (.pl rfl) (i := 0) rfl (rfl)) rfl ?_
    obtain ⟨x19, hx19, hF⟩ := bnd hF
    refine WX.pure 11 #[true, true, true, true, true, true, true, true, true, true, true, true, false, false, false, false, false, false, false, false, false, false, false] rfl (by kernel_rfl) (fun _ _ => Y.nilCheckP (ix_lt (hx19)).1 (.pl rfl)) rfl ?_
    refine WX.pure 12 #[true, true, true, true, true, true, true, true, true, true, true, true, true, false, false, false, false, false, false, false, false, false, false] rfl (by kernel_rfl) (fun _ _ => Y.fieldAddr0 (off := 1) (ft := 73) Try.underlying75 rfl cells73 (.pl rfl)) rfl ?_
    refine WX.take 13 #[true, true, true, true, true, true, true, true, true, true, true, true, true, true, false, false, false, false, false, false, false, false, false] (fun wz hw => St.tail [] hw) rfl (by kernel_rfl) (Y.loadH (enc := (encStepsNode bs16)) (bs := bs16) (p := tail6) (v := .pointer (pt bs16 x19.next)) (a := x19) Try.underlying73 rfl (.pl rfl) (i := 3) rfl (ix_get (hx19)) rfl) rfl ?_
    refine WX.pure 14 #[true, true, true, true, true, true, true, true, true, true, true, true, true, true, true, false, false, false, false, false, false, false, false] rfl (by kernel_rfl) (fun _ _ => Y.nilCheck (.pl rfl)) rfl ?_
    refine WX.take 15 #[true, true, true, true, true, true, true, true, true, true, true, true, true, true, true, true, false, false, false, false, false, false, false] (fun wz hw => St.tail [] hw) rfl (by kernel_rfl) (Y.okField (off := 6) (ft := 73) Try.underlying80 rfl cells73 hok5 (by have := (ix_lt (hx18)); omega) (.pl rfl)) rfl ?_
    refine WX.stop #[true, true, true, true, true, true, true, true, true, true, true, true, true, true, true, true, true, false, false, false, false, false, false] (fun wz hw => St.tail [] hw) rfl (by kernel_rfl) (WO.storeN0 (enc := (encNStepsProcess bs16)) (inn := (innNStepsProcess w0)) (h0 := ((none, 0) : Hd)) (a := (StepsProcess.mk x18.program x18.pending x18.complete x18.res x18.item x18.n x18.x x18.y x18.z_ x18.own)) (a' := (StepsProcess.mk x18.program x18.pending x18.complete x18.res x18.item x18.n tail6 x18.y x18.z_ x18.own)) (idx := ip15) (j := 6) cells73 (.pl rfl) (.pl rfl) rfl (lenNStepsProcess bs16) (i := 1) rfl (ix_get (hx18)) rfl (by decide) rfl rfl ?_)
    refine WA.take 17 #[true, true, true, true, true, true, true, true, true, true, true, true, true, true, true, true, true, true, false, false, false, false, false] rfl (by kernel_rfl) (fun _ _ => Y.nilCheck (.pl rfl)) rfl ?_
    refine WA.take 18 #[true, true, true, true, true, true, true, true, true, true, true, true, true, true, true, true, true, true, true, false, false, false, false] rfl (by kernel_rfl) (fun _ _ => Y.okField (off := 7) (ft := 73) Try.underlying80 rfl cells73 hok5 (by have := (ix_lt (hx18)); omega) (.pl rfl)) rfl ?_
    refine WA.branch [19] (by kernel_rfl) ⟨?_, trivial⟩
    refine WI.step #[true, true, true, true, true, true, true, true, true, true, true, true, true, true, true, true, true, true, true, true, false, false, false] rfl rfl (WO.storeN0 (enc := (encNStepsProcess bs16)) (inn := (innNStepsProcess w0)) (h0 := ((none, 0) : Hd)) (a := (StepsProcess.mk x18.program x18.pending x18.complete x18.res x18.item x18.n tail6 x18.y x18.z_ x18.own)) (a' := (StepsProcess.mk x18.program x18.pending x18.complete x18.res x18.item x18.n tail6 x19.next x18.z_ x18.own)) (idx := ip15) (j := 7) cells73 (.pl rfl) (.pl rfl) rfl (lenNStepsProcess bs16) (i := 0) rfl (setget (ix_lt (hx18))) rfl (by decide) rfl rfl ?_)
    refine WA.take 20 #[true, true, true, true, true, true, true, true, true, true, true, true, true, true, true, true, true, true, true, true, true, false, false] rfl (by kernel_rfl) (fun _ _ => Y.nilCheck (.pl rfl)) rfl ?_
    refine WA.take 21 #[true, true, true, true, true, true, true, true, true, true, true, true, true, true, true, true, true, true, true, true, true, true, false] rfl (by kernel_rfl) (fun _ _ => Y.okField (off := 4) (ft := 3) Try.underlying80 rfl cells3 hok5 (by have := (ix_lt (hx18)); omega) (.pl rfl)) rfl ?_
    refine WA.branch [22] (by kernel_rfl) ⟨?_, trivial⟩
    refine WI.step #[true, true, true, true, true, true, true, true, true, true, true, true, true, true, true, true, true, true, true, true, true, true, true] rfl rfl (WO.storeN0 (enc := (encNStepsProcess bs16)) (inn := (innNStepsProcess w0)) (h0 := ((none, 0) : Hd)) (a := (StepsProcess.mk x18.program x18.pending x18.complete x18.res x18.item x18.n tail6 x19.next x18.z_ x18.own)) (a' := (StepsProcess.mk x18.program x18.pending x18.complete x18.res 2 x18.n tail6 x19.next x18.z_ x18.own)) (idx := ip15) (j := 4) cells3 (.pl rfl) (.pl rfl) rfl (lenNStepsProcess bs16) (i := 0) rfl (setget (⟨(ix_lt (hx18)).1, by simpa only [List.length_set] using (ix_lt (hx18)).2⟩)) rfl (by decide) rfl rfl ?_)
    refine WA.done (by kernel_rfl) ?_
    obtain rfl := Option.some.inj hF
    refine W.endV (fn := Try.f87) (vs := []) Try.results87 trivial (fun _ _ h => h) (fun wz hw => ?_)
    exact hR _ _ ⟨(), (by simp), rfl, (St.cong (L := ([cBx b1 78 (Value.int .i64 algo2 :: (Value.int .i64 n3 :: (Value.pointer (pt bs16 top4) :: (Value.pointer (pt bs16 head5) :: (Value.pointer (pt bs16 tail6) :: (Value.slice A7 (people9).length c8 :: (Value.slice A11 (events13).length c12 :: (Value.int .i64 restarts14 :: [])))))))), cHp (encStepsNode bs16) 75 bs16 nodes17, cN (encNStepsProcess bs16) (innNStepsProcess w0) 10 A7 c8 80 hd10 (((people9.set ip15.toNat (StepsProcess.mk x18.program x18.pending x18.complete x18.res x18.item x18.n tail6 x18.y x18.z_ x18.own)).set ip15.toNat (StepsProcess.mk x18.program x18.pending x18.complete x18.res x18.item x18.n tail6 x19.next x18.z_ x18.own)).set ip15.toNat (StepsProcess.mk x18.program x18.pending x18.complete x18.res 2 x18.n tail6 x19.next x18.z_ x18.own)), cR encEvent 4 A11 c12 31 events13] ++ T)) (hw.pickK 4 [1, 3, 0, 2] rfl) (by simp only [List.length_set, List.nil_append, List.cons_append]))⟩
  · replace hF := cneg hC3 hF
    refine W.seqR fun Q6 hQ6 => ?_
    refine WL.q (Y.move (.pl rfl)) rfl ?_
    refine WL.q (Y.nilCheck (.pl rfl)) rfl ?_
    refine WL.q (Y.nField (off := 4) (ft := 3) Try.underlying80 rfl cells3 (i' := 1) rfl (ix_lt (hx18)) (.pl rfl)) rfl ?_
    refine WL.q (Y.loadN (enc := (encNStepsProcess bs16)) (h0 := ((none, 0) : Hd)) (v := .int .i64 x18.item) (a := (StepsProcess.mk x18.program x18.pending x18.complete x18.res x18.item x18.n x18.x x18.y x18.z_ x18.own)) (idx := ip15) (j := 4) Try.underlying3 rfl (lenNStepsProcess bs16) (i := 1) rfl (.pl rfl) (ix_get (hx18)) rfl rfl) rfl ?_
    refine WL.q (Y.eql (.pl rfl) (.pl rfl)) rfl ?_
    refine WL.q (Y.assign (.pl rfl)) rfl ?_
    refine WL.next hQ6 (.cons (i := 0) rfl (.cons (i := 1) rfl (.cons (i := 33) rfl (.nil)))) ?_
    refine W.cond (.pl rfl) (fun hC7 => ?_) (fun hC7 => ?_)
    · replace hF := cpos hC7 hF
      refine W.seq fun K8 hK8 => ?_
      refine W.seqD (by kernel_rfl) (by kernel_rfl) fun R9 hR9 => ?_
      refine WD.q (Y.move (.pl rfl)) rfl ?_
      refine WD.q (Y.nilCheck (.pl rfl)) rfl ?_
      refine WD.q (Y.fieldAddr0 (off := 4) (ft := 73) Try.underlying78 rfl cells73 (.pl rfl)) rfl ?_
      refine WD.q (Y.loadB (v := .pointer (pt bs16 tail6)) Try.underlying73 rfl (.pl rfl) (i := 0) rfl (rfl)) rfl ?_
      refine WD.q (Y.move (.pl rfl)) rfl ?_
      refine WD.q (Y.nilCheck (.pl rfl)) rfl ?_
      refine WD.q (Y.nField (off := 6) (ft := 73) Try.underlying80 rfl cells73 (i' := 1) rfl (ix_lt (hx18)) (.pl rfl)) rfl ?_
      refine WD.q (Y.loadN (enc := (encNStepsProcess bs16)) (h0 := ((none, 0) : Hd)) (v := .pointer (pt bs16 x18.x)) (a := (StepsProcess.mk x18.program x18.pending x18.complete x18.res x18.item x18.n x18.x x18.y x18.z_ x18.own)) (idx := ip15) (j := 6) Try.underlying73 rfl (lenNStepsProcess bs16) (i := 1) rfl (.pl rfl) (ix_get (hx18)) rfl rfl) rfl ?_
      obtain ⟨hk20, hF⟩ := ckh hF
      obtain ⟨hk21, hF⟩ := ckh hF
      refine WD.q (Y.eqlP (enc := (encStepsNode bs16)) (bs := bs16) (xs := nodes17) Try.underlying73 bz75 (by decide) (.pl rfl) (.pl rfl) (hk20) (hk21) (i := 3) rfl) rfl ?_
      refine WD.next hR9 (.cons (i := 0) rfl (.cons (i := 1) rfl (.cons (i := 47) rfl (.nil)))) ?_
      refine W.cond (.pl rfl) (fun hC10 => ?_) (fun hC10 => ?_)
      · replace hF := cpos hC10 hF
        refine W.reg ?_
        refine WL.q (Y.move (.pl rfl)) rfl ?_
        refine WL.q (Y.move (.pl rfl)) rfl ?_
        refine WL.q (Y.nilCheck (.pl rfl)) rfl ?_
        refine WL.q (Y.nField (off := 9) (ft := 73) Try.underlying80 rfl cells73 (i' := 1) rfl (ix_lt (hx18)) (.pl rfl)) rfl ?_
        refine WL.q (Y.loadN (enc := (encNStepsProcess bs16)) (h0 := ((none, 0) : Hd)) (v := .pointer (pt bs16 x18.own)) (a := (StepsProcess.mk x18.program x18.pending x18.complete x18.res x18.item x18.n x18.x x18.y x18.z_ x18.own)) (idx := ip15) (j := 9) Try.underlying73 rfl (lenNStepsProcess bs16) (i := 1) rfl (.pl rfl) (ix_get (hx18)) rfl rfl) rfl ?_
        refine WL.q (Y.nilCheck (.pl rfl)) rfl ?_
        refine WL.q (Y.fieldAddr0 (off := 4) (ft := 73) Try.underlying78 rfl cells73 (.pl rfl)) rfl ?_
        refine WL.step (WO.storeB (cs' := (Value.int .i64 algo2 :: (Value.int .i64 n3 :: (Value.pointer (pt bs16 top4) :: (Value.pointer (pt bs16 head5) :: (Value.pointer (pt bs16 x18.own) :: (Value.slice A7 (people9).length c8 :: (Value.slice A11 (events13).length c12 :: (Value.int .i64 restarts14 :: []))))))))) cells73 (.pl rfl) (.pl rfl) rfl (i := 0) rfl (ltl (m := 8) (by decide) rfl) (rfl) ?_)
        refine WL.nil ?_
        refine W.go hK8 (.cons (i := 1) rfl (.nil)) ?_
        refine W.reg ?_
        refine WL.q (Y.move (.pl rfl)) rfl ?_
        obtain ⟨r22, hr22, hF⟩ := bnd hF
        refine WL.step (WO.call (γ := Unit) (fun g => .tuple #[]) (fun g => ([cN (encNStepsProcess bs16) (innNStepsProcess w0) 10 A7 c8 80 hd10 r22, cHp (encStepsNode bs16) 75 bs16 nodes17, cBx b1 78 (Value.int .i64 algo2 :: (Value.int .i64 n3 :: (Value.pointer (pt bs16 top4) :: (Value.pointer (pt bs16 head5) :: (Value.pointer (pt bs16 x18.own) :: (Value.slice A7 (people9).length c8 :: (Value.slice A11 (events13).length c12 :: (Value.int .i64 restarts14 :: [])))))))), cR encEvent 4 A11 c12 31 events13] ++ T)) (fun g => (r22).length = (people9).length) isGo104 (.cons (.pl rfl) (.cons (.pl rfl) (.nil))) rfl (fun wz hw => steps_process_finish_ok (T := ([cBx b1 78 (Value.int .i64 algo2 :: (Value.int .i64 n3 :: (Value.pointer (pt bs16 top4) :: (Value.pointer (pt bs16 head5) :: (Value.pointer (pt bs16 x18.own) :: (Value.slice A7 (people9).length c8 :: (Value.slice A11 (events13).length c12 :: (Value.int .i64 restarts14 :: [])))))))), cR encEvent 4 A11 c12 31 events13] ++ T)) (hr22) (hw.pickK 4 [1, 3, 0, 2] rfl) ) ?_)
        rintro _ hl23
        refine WL.nil ?_
        obtain rfl := Option.some.inj hF
        refine W.endV (fn := Try.f87) (vs := []) Try.results87 trivial (fun _ _ h => h) (fun wz hw => ?_)
        exact hR _ _ ⟨(), (by simp [hl23]), rfl, (St.cong (L := ([cBx b1 78 (Value.int .i64 algo2 :: (Value.int .i64 n3 :: (Value.pointer (pt bs16 top4) :: (Value.pointer (pt bs16 head5) :: (Value.pointer (pt bs16 x18.own) :: (Value.slice A7 (people9).length c8 :: (Value.slice A11 (events13).length c12 :: (Value.int .i64 restarts14 :: [])))))))), cHp (encStepsNode bs16) 75 bs16 nodes17, cN (encNStepsProcess bs16) (innNStepsProcess w0) 10 A7 c8 80 hd10 r22, cR encEvent 4 A11 c12 31 events13] ++ T)) (hw.pickK 4 [2, 1, 0, 3] rfl) (by simp only [List.length_set, List.nil_append, List.cons_append, hl23]))⟩
      · replace hF := cneg hC10 hF
        refine W.skip ?_
        refine W.go hK8 (.cons (i := 1) rfl (.nil)) ?_
        refine W.reg ?_
        refine WL.q (Y.move (.pl rfl)) rfl ?_
        obtain ⟨r24, hr24, hF⟩ := bnd hF
        refine WL.step (WO.call (γ := Unit) (fun g => .tuple #[]) (fun g => ([cN (encNStepsProcess bs16) (innNStepsProcess w0) 10 A7 c8 80 hd10 r24, cHp (encStepsNode bs16) 75 bs16 nodes17, cBx b1 78 (Value.int .i64 algo2 :: (Value.int .i64 n3 :: (Value.pointer (pt bs16 top4) :: (Value.pointer (pt bs16 head5) :: (Value.pointer (pt bs16 tail6) :: (Value.slice A7 (people9).length c8 :: (Value.slice A11 (events13).length c12 :: (Value.int .i64 restarts14 :: [])))))))), cR encEvent 4 A11 c12 31 events13] ++ T)) (fun g => (r24).length = (people9).length) isGo104 (.cons (.pl rfl) (.cons (.pl rfl) (.nil))) rfl (fun wz hw => steps_process_finish_ok (T := ([cBx b1 78 (Value.int .i64 algo2 :: (Value.int .i64 n3 :: (Value.pointer (pt bs16 top4) :: (Value.pointer (pt bs16 head5) :: (Value.pointer (pt bs16 tail6) :: (Value.slice A7 (people9).length c8 :: (Value.slice A11 (events13).length c12 :: (Value.int .i64 restarts14 :: [])))))))), cR encEvent 4 A11 c12 31 events13] ++ T)) (hr24) (hw.pickK 4 [1, 3, 0, 2] rfl) ) ?_)
        rintro _ hl25
        refine WL.nil ?_
        obtain rfl := Option.some.inj hF
        refine W.endV (fn := Try.f87) (vs := []) Try.results87 trivial (fun _ _ h => h) (fun wz hw => ?_)
        exact hR _ _ ⟨(), (by simp [hl25]), rfl, (St.cong (L := ([cBx b1 78 (Value.int .i64 algo2 :: (Value.int .i64 n3 :: (Value.pointer (pt bs16 top4) :: (Value.pointer (pt bs16 head5) :: (Value.pointer (pt bs16 tail6) :: (Value.slice A7 (people9).length c8 :: (Value.slice A11 (events13).length c12 :: (Value.int .i64 restarts14 :: [])))))))), cHp (encStepsNode bs16) 75 bs16 nodes17, cN (encNStepsProcess bs16) (innNStepsProcess w0) 10 A7 c8 80 hd10 r24, cR encEvent 4 A11 c12 31 events13] ++ T)) (hw.pickK 4 [2, 1, 0, 3] rfl) (by simp only [List.length_set, List.nil_append, List.cons_append, hl25]))⟩
    · replace hF := cneg hC7 hF
      refine W.seqD (by kernel_rfl) (by kernel_rfl) fun R14 hR14 => ?_
      refine WD.q (Y.move (.pl rfl)) rfl ?_
      refine WD.q (Y.nilCheck (.pl rfl)) rfl ?_
      refine WD.q (Y.fieldAddr0 (off := 4) (ft := 73) Try.underlying78 rfl cells73 (.pl rfl)) rfl ?_
      refine WD.q (Y.loadB (v := .pointer (pt bs16 tail6)) Try.underlying73 rfl (.pl rfl) (i := 0) rfl (rfl)) rfl ?_
      refine WD.q (Y.move (.pl rfl)) rfl ?_
      refine WD.q (Y.nilCheck (.pl rfl)) rfl ?_
      refine WD.q (Y.nField (off := 6) (ft := 73) Try.underlying80 rfl cells73 (i' := 1) rfl (ix_lt (hx18)) (.pl rfl)) rfl ?_
      refine WD.q (Y.loadN (enc := (encNStepsProcess bs16)) (h0 := ((none, 0) : Hd)) (v := .pointer (pt bs16 x18.x)) (a := (StepsProcess.mk x18.program x18.pending x18.complete x18.res x18.item x18.n x18.x x18.y x18.z_ x18.own)) (idx := ip15) (j := 6) Try.underlying73 rfl (lenNStepsProcess bs16) (i := 1) rfl (.pl rfl) (ix_get (hx18)) rfl rfl) rfl ?_
      obtain ⟨hk26, hF⟩ := ckh hF
      obtain ⟨hk27, hF⟩ := ckh hF
      refine WD.q (Y.neqP (enc := (encStepsNode bs16)) (bs := bs16) (xs := nodes17) Try.underlying73 bz75 (by decide) (.pl rfl) (.pl rfl) (hk26) (hk27) (i := 3) rfl) rfl ?_
      refine WD.q (Y.assign (.pl rfl)) rfl ?_
      refine WD.next hR14 (.cons (i := 0) rfl (.cons (i := 1) rfl (.cons (i := 57) rfl (.nil)))) ?_
      refine W.cond (.pl rfl) (fun hC15 => ?_) (fun hC15 => ?_)
      · replace hF := cpos hC15 hF
        refine W.reg ?_
        refine WL.q (Y.move (.pl rfl)) rfl ?_
        refine WL.q (Y.move (.pl rfl)) rfl ?_
        obtain ⟨r28, hr28, hF⟩ := bnd hF
        refine WL.step (WO.call (γ := Unit) (fun g => .tuple #[]) (fun g => ([cBx b1 78 (Value.int .i64 algo2 :: (Value.int .i64 n3 :: (Value.pointer (pt bs16 top4) :: (Value.pointer (pt bs16 head5) :: (Value.pointer (pt bs16 tail6) :: (Value.slice A7 (r28).length c8 :: (Value.slice A11 (events13).length c12 :: (Value.int .i64 (restarts14 + 1) :: [])))))))), cHp (encStepsNode bs16) 75 bs16 nodes17, cN (encNStepsProcess bs16) (innNStepsProcess w0) 10 A7 c8 80 hd10 r28, cR encEvent 4 A11 c12 31 events13] ++ T)) (fun g => (r28).length = (people9).length) isGo105 (.cons (.pl rfl) (.cons (.pl rfl) (.nil))) rfl (fun wz hw => steps_machine_restart_ok (T := ([] ++ T)) (hr28) (hw.pickK 4 [0, 1, 2, 3] rfl) ) ?_)
        rintro _ hl29
        refine WL.nil ?_
        obtain rfl := Option.some.inj hF
        refine W.endV (fn := Try.f87) (vs := []) Try.results87 trivial (fun _ _ h => h) (fun wz hw => ?_)
        exact hR _ _ ⟨(), (by simp [hl29]), rfl, (hw.pickK 4 [0, 1, 2, 3] rfl)⟩
      · replace hF := cneg hC15 hF
        refine W.seqR fun Q17 hQ17 => ?_
        refine WL.q (Y.move (.pl rfl)) rfl ?_
        refine WL.q (Y.nilCheck (.pl rfl)) rfl ?_
        refine WL.q (Y.nField (off := 7) (ft := 73) Try.underlying80 rfl cells73 (i' := 1) rfl (ix_lt (hx18)) (.pl rfl)) rfl ?_
        refine WL.q (Y.loadN (enc := (encNStepsProcess bs16)) (h0 := ((none, 0) : Hd)) (v := .pointer (pt bs16 x18.y)) (a := (StepsProcess.mk x18.program x18.pending x18.complete x18.res x18.item x18.n x18.x x18.y x18.z_ x18.own)) (idx := ip15) (j := 7) Try.underlying73 rfl (lenNStepsProcess bs16) (i := 1) rfl (.pl rfl) (ix_get (hx18)) rfl rfl) rfl ?_
        refine WL.q (Y.neqPN (bs := bs16) Try.underlying73 (.pl rfl)) rfl ?_
        refine WL.q (Y.assign (.pl rfl)) rfl ?_
        refine WL.next hQ17 (.cons (i := 0) rfl (.cons (i := 1) rfl (.cons (i := 70) rfl (.nil)))) ?_
        refine W.cond (.pl rfl) (fun hC18 => ?_) (fun hC18 => ?_)
        · replace hF := cpos hC18 hF
          refine W.seqR fun Q19 hQ19 => ?_
          refine WL.q (Y.move (.pl rfl)) rfl ?_
          refine WL.q (Y.move (.pl rfl)) rfl ?_
          refine WL.q (Y.nilCheck (.pl rfl)) rfl ?_
          refine WL.q (Y.nField (off := 7) (ft := 73) Try.underlying80 rfl cells73 (i' := 1) rfl (ix_lt (hx18)) (.pl rfl)) rfl ?_
          refine WL.q (Y.loadN (enc := (encNStepsProcess bs16)) (h0 := ((none, 0) : Hd)) (v := .pointer (pt bs16 x18.y)) (a := (StepsProcess.mk x18.program x18.pending x18.complete x18.res x18.item x18.n x18.x x18.y x18.z_ x18.own)) (idx := ip15) (j := 7) Try.underlying73 rfl (lenNStepsProcess bs16) (i := 1) rfl (.pl rfl) (ix_get (hx18)) rfl rfl) rfl ?_
          refine WL.q (Y.nilCheck (.pl rfl)) rfl ?_
          refine WL.q (Y.fieldAddr0 (off := 4) (ft := 73) Try.underlying78 rfl cells73 (.pl rfl)) rfl ?_
          refine WL.step (WO.storeB (cs' := (Value.int .i64 algo2 :: (Value.int .i64 n3 :: (Value.pointer (pt bs16 top4) :: (Value.pointer (pt bs16 head5) :: (Value.pointer (pt bs16 x18.y) :: (Value.slice A7 (people9).length c8 :: (Value.slice A11 (events13).length c12 :: (Value.int .i64 restarts14 :: []))))))))) cells73 (.pl rfl) (.pl rfl) rfl (i := 0) rfl (ltl (m := 8) (by decide) rfl) (rfl) ?_)
          refine WL.next hQ19 (.cons (i := 0) rfl (.cons (i := 1) rfl (.nil))) ?_
          refine W.reg ?_
          refine WL.q (Y.move (.pl rfl)) rfl ?_
          refine WL.q (Y.move (.pl rfl)) rfl ?_
          obtain ⟨r30, hr30, hF⟩ := bnd hF
          refine WL.step (WO.call (γ := Unit) (fun g => .tuple #[]) (fun g => ([cBx b1 78 (Value.int .i64 algo2 :: (Value.int .i64 n3 :: (Value.pointer (pt bs16 top4) :: (Value.pointer (pt bs16 head5) :: (Value.pointer (pt bs16 x18.y) :: (Value.slice A7 (r30).length c8 :: (Value.slice A11 (events13).length c12 :: (Value.int .i64 (restarts14 + 1) :: [])))))))), cHp (encStepsNode bs16) 75 bs16 nodes17, cN (encNStepsProcess bs16) (innNStepsProcess w0) 10 A7 c8 80 hd10 r30, cR encEvent 4 A11 c12 31 events13] ++ T)) (fun g => (r30).length = (people9).length) isGo105 (.cons (.pl rfl) (.cons (.pl rfl) (.nil))) rfl (fun wz hw => steps_machine_restart_ok (T := ([] ++ T)) (hr30) (hw.pickK 4 [0, 1, 2, 3] rfl) ) ?_)
          rintro _ hl31
          refine WL.nil ?_
          obtain rfl := Option.some.inj hF
          refine W.endV (fn := Try.f87) (vs := []) Try.results87 trivial (fun _ _ h => h) (fun wz hw => ?_)
          exact hR _ _ ⟨(), (by simp [hl31]), rfl, (hw.pickK 4 [0, 1, 2, 3] rfl)⟩
        · replace hF := cneg hC18 hF
          refine W.seqR fun Q21 hQ21 => ?_
          refine WL.q (Y.move (.pl rfl)) rfl ?_
          refine WL.q (Y.nilCheck (.pl rfl)) rfl ?_
          refine WL.q (Y.nField (off := 6) (ft := 73) Try.underlying80 rfl cells73 (i' := 1) rfl (ix_lt (hx18)) (.pl rfl)) rfl ?_
          refine WL.q (Y.loadN (enc := (encNStepsProcess bs16)) (h0 := ((none, 0) : Hd)) (v := .pointer (pt bs16 x18.x)) (a := (StepsProcess.mk x18.program x18.pending x18.complete x18.res x18.item x18.n x18.x x18.y x18.z_ x18.own)) (idx := ip15) (j := 6) Try.underlying73 rfl (lenNStepsProcess bs16) (i := 1) rfl (.pl rfl) (ix_get (hx18)) rfl rfl) rfl ?_
          obtain ⟨x32, hx32, hF⟩ := bnd hF
          refine WL.q (Y.nilCheckP (ix_lt (hx32)).1 (.pl rfl)) rfl ?_
          refine WL.q (Y.fieldAddr0 (off := 1) (ft := 73) Try.underlying75 rfl cells73 (.pl rfl)) rfl ?_
          refine WL.q (Y.loadH (enc := (encStepsNode bs16)) (bs := bs16) (p := x18.x) (v := .pointer (pt bs16 x32.next)) (a := x32) Try.underlying73 rfl (.pl rfl) (i := 3) rfl (ix_get (hx32)) rfl) rfl ?_
          refine WL.q (Y.eqlPN (bs := bs16) Try.underlying73 (.pl rfl)) rfl ?_
          refine WL.q (Y.assign (.pl rfl)) rfl ?_
          refine WL.next hQ21 (.cons (i := 0) rfl (.cons (i := 1) rfl (.cons (i := 86) rfl (.nil)))) ?_
          refine W.cond (.pl rfl) (fun hC22 => ?_) (fun hC22 => ?_)
          · replace hF := cpos hC22 hF
            refine W.know (fun wz hw => n_okA0 hw (i := 1) rfl) (fun hok24 => ?_)
            refine W.regX 11 (by kernel_rfl) ?_
            refine WX.pure 0 #[true, false, false, false, false, false, false, false, false, false, false, false, false, false, false] rfl (by kernel_rfl) (fun _ _ => Y.move (.pl rfl)) rfl ?_
            refine WX.pure 1 #[true, true, false, false, false, false, false, false, false, false, false, false, false, false, false] rfl (by kernel_rfl) (fun _ _ => Y.nilCheck (.pl rfl)) rfl ?_
            refine WX.take 2 #[true, true, true, false, false, false, false, false, false, false, false, false, false, false, false] (fun wz hw => St.tail [] hw) rfl (by kernel_rfl) (Y.okField (off := 6) (ft := 73) Try.underlying80 rfl cells73 hok24 (by have := (ix_lt (hx18)); omega) (.pl rfl)) rfl ?_
            refine WX.take 3 #[true, true, true, true, false, false, false, false, false, false, false, false, false, false, false] (fun wz hw => St.tail [] hw) rfl (by kernel_rfl) (Y.loadN (enc := (encNStepsProcess bs16)) (h0 := ((none, 0) : Hd)) (v := .pointer (pt bs16 x18.x)) (a := (StepsProcess.mk x18.program x18.pending x18.complete x18.res x18.item x18.n x18.x x18.y x18.z_ x18.own)) (idx := ip15) (j := 6) Try.underlying73 rfl (lenNStepsProcess bs16) (i := 1) rfl (.pl rfl) (ix_get (hx18)) rfl rfl) rfl ?_
            refine WX.pure 4 #[true, true, true, true, true, false, false, false, false, false, false, false, false, false, false] rfl (by kernel_rfl) (fun _ _ => Y.move (.pl rfl)) rfl ?_
            refine WX.pure 5 #[true, true, true, true, true, true, false, false, false, false, false, false, false, false, false] rfl (by kernel_rfl) (fun _ _ => Y.move (.pl rfl)) rfl ?_
            refine WX.pure 6 #[true, true, true, true, true, true, true, false, false, false, false, false, false, false, false] rfl (by kernel_rfl) (fun _ _ => Y.nilCheck (.pl rfl)) rfl ?_
            refine WX.take 7 #[true, true, true, true, true, true, true, true, false, false, false, false, false, false, false] (fun wz hw => St.tail [] hw) rfl (by kernel_rfl) (Y.okField (off := 9) (ft := 73) Try.underlying80 rfl cells73 hok24 (by have := (ix_lt (hx18)); omega) (.pl rfl)) rfl ?_
            refine WX.take 8 #[true, true, true, true, true, true, true, true, true, false, false, false, false, false, false] (fun wz hw => St.tail [] hw) rfl (by kernel_rfl) (Y.loadN (enc := (encNStepsProcess bs16)) (h0 := ((none, 0) : Hd)) (v := .pointer (pt bs16 x18.own)) (a := (StepsProcess.mk x18.program x18.pending x18.complete x18.res x18.item x18.n x18.x x18.y x18.z_ x18.own)) (idx := ip15) (j := 9) Try.underlying73 rfl (lenNStepsProcess bs16) (i := 1) rfl (.pl rfl) (ix_get (hx18)) rfl rfl) rfl ?_
            obtain ⟨x33, hx33, hF⟩ := bnd hF
            refine WX.pure 9 #[true, true, true, true, true, true, true, true, true, true, false, false, false, false, false] rfl (by kernel_rfl) (fun _ _ => Y.nilCheckP (ix_lt (hx33)).1 (.pl rfl)) rfl ?_
            refine WX.pure 10 #[true, true, true, true, true, true, true, true, true, true, true, false, false, false, false] rfl (by kernel_rfl) (fun _ _ => Y.fieldAddr0 (off := 1) (ft := 73) Try.underlying75 rfl cells73 (.pl rfl)) rfl ?_
            refine WX.stop #[true, true, true, true, true, true, true, true, true, true, true, true, false, false, false] (fun wz hw => St.tail [] hw) rfl (by kernel_rfl) (WO.storeP (enc := (encStepsNode bs16)) (bs := bs16) (p := x18.x) (v := .pointer (pt bs16 x18.own)) (a := x33) (a' := (StepsNode.mk x33.value x18.own)) cells73 (.pl rfl) (.pl rfl) rfl (i := 3) rfl (ix_get (hx33)) (by show 1 < 2; decide) rfl ?_)
            refine WA.take 12 #[true, true, true, true, true, true, true, true, true, true, true, true, true, false, false] rfl (by kernel_rfl) (fun _ _ => Y.nilCheck (.pl rfl)) rfl ?_
            refine WA.take 13 #[true, true, true, true, true, true, true, true, true, true, true, true, true, true, false] rfl (by kernel_rfl) (fun _ _ => Y.okField (off := 4) (ft := 3) Try.underlying80 rfl cells3 hok24 (by have := (ix_lt (hx18)); omega) (.pl rfl)) rfl ?_
            refine WA.branch [14] (by kernel_rfl) ⟨?_, trivial⟩
            refine WI.step #[true, true, true, true, true, true, true, true, true, true, true, true, true, true, true] rfl rfl (WO.storeN0 (enc := (encNStepsProcess bs16)) (inn := (innNStepsProcess w0)) (h0 := ((none, 0) : Hd)) (a := (StepsProcess.mk x18.program x18.pending x18.complete x18.res x18.item x18.n x18.x x18.y x18.z_ x18.own)) (a' := (StepsProcess.mk x18.program x18.pending x18.complete x18.res 3 x18.n x18.x x18.y x18.z_ x18.own)) (idx := ip15) (j := 4) cells3 (.pl rfl) (.pl rfl) rfl (lenNStepsProcess bs16) (i := 1) rfl (ix_get (hx18)) rfl (by decide) rfl rfl ?_)
            refine WA.done (by kernel_rfl) ?_
            obtain rfl := Option.some.inj hF
            refine W.endV (fn := Try.f87) (vs := []) Try.results87 trivial (fun _ _ h => h) (fun wz hw => ?_)
            exact hR _ _ ⟨(), (by simp), rfl, (St.cong (L := ([cBx b1 78 (Value.int .i64 algo2 :: (Value.int .i64 n3 :: (Value.pointer (pt bs16 top4) :: (Value.pointer (pt bs16 head5) :: (Value.pointer (pt bs16 tail6) :: (Value.slice A7 (people9).length c8 :: (Value.slice A11 (events13).length c12 :: (Value.int .i64 restarts14 :: [])))))))), cHp (encStepsNode bs16) 75 bs16 (nodes17.set x18.x.toNat (StepsNode.mk x33.value x18.own)), cN (encNStepsProcess bs16) (innNStepsProcess w0) 10 A7 c8 80 hd10 (people9.set ip15.toNat (StepsProcess.mk x18.program x18.pending x18.complete x18.res 3 x18.n x18.x x18.y x18.z_ x18.own)), cR encEvent 4 A11 c12 31 events13] ++ T)) (hw.pickK 4 [1, 3, 0, 2] rfl) (by simp only [List.length_set, List.nil_append, List.cons_append]))⟩
          · replace hF := cneg hC22 hF
            refine W.reg ?_
            refine WL.q (Y.move (.pl rfl)) rfl ?_
            refine WL.q (Y.move (.pl rfl)) rfl ?_
            obtain ⟨r34, hr34, hF⟩ := bnd hF
            refine WL.step (WO.call (γ := Unit) (fun g => .tuple #[]) (fun g => ([cBx b1 78 (Value.int .i64 algo2 :: (Value.int .i64 n3 :: (Value.pointer (pt bs16 top4) :: (Value.pointer (pt bs16 head5) :: (Value.pointer (pt bs16 tail6) :: (Value.slice A7 (r34).length c8 :: (Value.slice A11 (events13).length c12 :: (Value.int .i64 (restarts14 + 1) :: [])))))))), cHp (encStepsNode bs16) 75 bs16 nodes17, cN (encNStepsProcess bs16) (innNStepsProcess w0) 10 A7 c8 80 hd10 r34, cR encEvent 4 A11 c12 31 events13] ++ T)) (fun g => (r34).length = (people9).length) isGo105 (.cons (.pl rfl) (.cons (.pl rfl) (.nil))) rfl (fun wz hw => steps_machine_restart_ok (T := ([] ++ T)) (hr34) (hw.pickK 4 [0, 1, 2, 3] rfl) ) ?_)
            rintro _ hl35
            refine WL.nil ?_
            obtain rfl := Option.some.inj hF
            refine W.endV (fn := Try.f87) (vs := []) Try.results87 trivial (fun _ _ h => h) (fun wz hw => ?_)
            exact hR _ _ ⟨(), (by simp [hl35]), rfl, (hw.pickK 4 [0, 1, 2, 3] rfl)⟩

def steps_machine_deq (N : Nat) (algo2 : Int) (n3 : Int) (top4 : Int) (head5 : Int) (tail6 : Int) (people9 : (List StepsProcess)) (events13 : (List Event)) (restarts14 : Int) (ip15 : Int) (nodes17 : (List StepsNode)) : Option (Int × Int × (List StepsProcess) × Int) :=
  bd (ix people9 ip15) fun (x18 : StepsProcess) =>
  cond (decide (x18.item = 1))
    (bd (ix nodes17 head5) fun (x19 : StepsNode) =>
    some (head5, tail6, ((((people9.set ip15.toNat (StepsProcess.mk x18.program x18.pending x18.complete x18.res x18.item x18.n head5 x18.y x18.z_ x18.own)).set ip15.toNat (StepsProcess.mk x18.program x18.pending x18.complete x18.res x18.item x18.n head5 x19.next x18.z_ x18.own)).set ip15.toNat (StepsProcess.mk x18.program x18.pending x18.complete x18.res x18.item x18.n head5 x19.next tail6 x18.own)).set ip15.toNat (StepsProcess.mk x18.program x18.pending x18.complete x18.res 2 x18.n head5 x19.next tail6 x18.own)), restarts14))
    (ck (vp (nodes17).length head5) <|
    ck (vp (nodes17).length x18.x) <|
    cond (!(decide (head5 = x18.x)))
      (bd (steps_machine_restart N algo2 n3 top4 head5 tail6 people9 events13 restarts14 ip15 nodes17) fun (r22 : (List StepsProcess)) =>
      some (head5, tail6, r22, (restarts14 + 1)))
      (ck (vp (nodes17).length x18.x) <|
      ck (vp (nodes17).length x18.z_) <|
      cond ((decide (x18.x = x18.z_)) && (decide (x18.y < 0)))
        (bd (steps_process_finish N people9 ip15 (-1) nodes17) fun (r26 : (List StepsProcess)) =>
        some (head5, tail6, r26, restarts14))
        (ck (vp (nodes17).length x18.x) <|
        ck (vp (nodes17).length x18.z_) <|
        cond (decide (x18.x = x18.z_))
          (ck (vp (nodes17).length tail6) <|
          ck (vp (nodes17).length x18.z_) <|
          cond (decide (tail6 = x18.z_))
            (bd (steps_machine_restart N algo2 n3 top4 head5 x18.y people9 events13 restarts14 ip15 nodes17) fun (r32 : (List StepsProcess)) =>
            some (head5, x18.y, r32, (restarts14 + 1)))
            (bd (steps_machine_restart N algo2 n3 top4 head5 tail6 people9 events13 restarts14 ip15 nodes17) fun (r34 : (List StepsProcess)) =>
            some (head5, tail6, r34, (restarts14 + 1))))
          (bd (ix nodes17 x18.y) fun (x36 : StepsNode) =>
          bd (steps_process_finish N people9 ip15 x36.value nodes17) fun (r37 : (List StepsProcess)) =>
          some (x18.y, tail6, r37, restarts14)))))

theorem steps_machine_deq_ok {N : Nat} {algo2 : Int} {n3 : Int} {top4 : Int} {head5 : Int} {tail6 : Int} {people9 : (List StepsProcess)} {events13 : (List Event)} {restarts14 : Int} {ip15 : Int} {nodes17 : (List StepsNode)} {b1 : Nat} {A7 : Option Addr} {c8 : Nat} {hd10 : List Hd} {A11 : Option Addr} {c12 : Nat} {bs16 : List Nat} {res : (Int × Int × (List StepsProcess) × Int)} (hF : steps_machine_deq N algo2 n3 top4 head5 tail6 people9 events13 restarts14 ip15 nodes17 = some res) {w0 w : World} {T : List Chunk} (hw : St w0.heap.size w0 ([cBx b1 78 (Value.int .i64 algo2 :: (Value.int .i64 n3 :: (Value.pointer (pt bs16 top4) :: (Value.pointer (pt bs16 head5) :: (Value.pointer (pt bs16 tail6) :: (Value.slice A7 (people9).length c8 :: (Value.slice A11 (events13).length c12 :: (Value.int .i64 restarts14 :: [])))))))), cN (encNStepsProcess bs16) (innNStepsProcess w0) 10 A7 c8 80 hd10 people9, cR encEvent 4 A11 c12 31 events13, cHp (encStepsNode bs16) 75 bs16 nodes17] ++ T) w) :
    Calls Try.prog 88 (List.toArray [.pointer (some ⟨b1, 0, none⟩), .pointer (some (elA A7 (ip15.toNat * (9 + 1))))]) w (fun e w' => ∃ g : Unit, ((res.2.2.1).length = (people9).length) ∧ e = .returned (.tuple #[]) ∧ St w0.heap.size w0 ([cBx b1 78 (Value.int .i64 algo2 :: (Value.int .i64 n3 :: (Value.pointer (pt bs16 top4) :: (Value.pointer (pt bs16 res.1) :: (Value.pointer (pt bs16 res.2.1) :: (Value.slice A7 (res.2.2.1).length c8 :: (Value.slice A11 (events13).length c12 :: (Value.int .i64 res.2.2.2 :: [])))))))), cHp (encStepsNode bs16) 75 bs16 nodes17, cN (encNStepsProcess bs16) (innNStepsProcess w0) 10 A7 c8 80 hd10 res.2.2.1, cR encEvent 4 A11 c12 31 events13] ++ T) w') := by
  refine W.enter (n := 114) Try.func88 rfl rfl Sub.refl (by simp) hw fun R hR => ?_
  unfold steps_machine_deq at hF
  obtain ⟨x18, hx18, hF⟩ := bnd hF
  refine W.block ?_
  refine W.know (fun wz hwz => bor_of (h0 := ((none, 0) : Hd)) (q := fun h a => SlIn encAsk 3 w0 (.slice h.1 a.program.length h.2) a.program) hwz (i := 1) rfl (fun _ _ => .head _)) (fun hbor2 => ?_)
  refine W.seqR fun Q1 hQ1 => ?_
  refine WL.q (Y.move (.pl rfl)) rfl ?_
  refine WL.q (Y.nilCheck (.pl rfl)) rfl ?_
  refine WL.q (Y.nField (off := 4) (ft := 3) Try.underlying80 rfl cells3 (i' := 1) rfl (ix_lt (hx18)) (.pl rfl)) rfl ?_
  refine WL.q (Y.loadN (enc := (encNStepsProcess bs16)) (h0 := ((none, 0) : Hd)) (v := .int .i64 x18.item) (a := (StepsProcess.mk x18.program x18.pending x18.complete x18.res x18.item x18.n x18.x x18.y x18.z_ x18.own)) (idx := ip15) (j := 4) Try.underlying3 rfl (lenNStepsProcess bs16) (i := 1) rfl (.pl rfl) (ix_get (hx18)) rfl rfl) rfl ?_
  refine WL.q (Y.eql (.pl rfl) (.pl rfl)) rfl ?_
  refine WL.q (Y.assign (.pl rfl)) rfl ?_
  refine WL.next hQ1 (.cons (i := 0) rfl (.cons (i := 1) rfl (.cons (i := 20) rfl (.nil)))) ?_
  refine W.cond (.pl rfl) (fun hC3 => ?_) (fun hC3 => ?_)
  · replace hF := cpos hC3 hF
    refine W.know (fun wz hw => n_okA0 hw (i := 1) rfl) (fun hok5 => ?_)
    refine W.regX 21 (by kernel_rfl) ?_
    refine WX.pure 0 #[true, false, false, false, false, false, false, false, false, false, false, false, false, false, false, false, false, false, false, false, false, false, false, false, false, false, false, false, false, false, false] rfl (by kernel_rfl) (fun _ _ => Y.move (.pl rfl)) rfl ?_
    refine WX.pure 1 #[true, true, false, false, false, false, false, false, false, false, false, false, false, false, false, false, false, false, false, false, false, false, false, false, false, false, false, false, false, false, false] rfl (by kernel_rfl) (fun _ _ => Y.move (.pl rfl)) rfl ?_
    refine WX.pure 2 #[true, true, true, false, false, false, false, false, false, false, false, false, false, false, false, false, false, false, false, false, false, false, false, false, false, false, false, false, false, false, false] rfl (by kernel_rfl) (fun _ _ => Y.move (.pl rfl)) rfl ?_
    refine WX.pure 3 #[true, true, true, true, false, false, false, false, false, false, false, false, false, false, false, false, false, false, false, false, false, false, false, false, false, false, false, false, false, false, false] rfl (by kernel_rfl) (fun _ _ => Y.move (.pl rfl)) rfl ?_
    refine WX.pure 4 #[true, true, true, true, true, false, false, false, false, false, false, false, false, false, false, false, false, false, false, false, false, false, false, false, false, false, false, false, false, false, false] rfl (by kernel_rfl) (fun _ _ => Y.move (.pl rfl)) rfl ?_
    refine WX.pure 5 #[true, true, true, true, true, true, false, false, false, false, false, false, false, false, false, false, false, false, false, false, false, false, false, false, false, false, false, false, false, false, false] rfl (by kernel_rfl) (fun _ _ => Y.nilCheck (.pl rfl)) rfl ?_
    refine WX.pure 6 #[true, true, true, true, true, true, true, false, false, false, false, false, false, false, false, false, false, false, false, false, false, false, false, false, false, false, false, false, false, false, false] rfl (by kernel_rfl) (fun _ _ => Y.fieldAddr0 (off := 3) (ft := 73) Try.underlying78 rfl cells73 (.pl rfl)) rfl ?_
    refine WX.take 7 #[true, true, true, true, true, true, true, true, false, false, false, false, false, false, false, false, false, false, false, false, false, false, false, false, false, false, false, false, false, false, false] (fun wz hw => St.tail [] hw) rfl (by kernel_rfl) (Y.loadB (v := .pointer (pt bs16 head5)) Try.underlying73 rfl (.pl rfl) (i := 0) rfl (rfl)) rfl ?_
    refine WX.pure 8 #[true, true, true, true, true, true, true, true, true, false, false, false, false, false, false, false, false, false, false, false, false, false, false, false, false, false, false, false, false, false, false] rfl (by kernel_rfl) (fun _ _ => Y.move (.pl rfl)) rfl ?_
    refine WX.pure 9 #[true, true, true, true, true, true, true, true, true, true, false, false, false, false, false, false, false, false, false, false, false, false, false, false, false, false, false, false, false, false, false] rfl (by kernel_rfl) (fun _ _ => Y.nilCheck (.pl rfl)) rfl ?_
    refine WX.pure 10 #[true, true, true, true, true, true, true, true, true, true, true, false, false, false, false, false, false, false, false, false, false, false, false, false, false, false, false, false, false, false, false] rfl (by kernel_rfl) (fun _ _ => Y.fieldAddr0 (off := 3) (ft := 73) Try.underlying78 rfl cells73 (.pl rfl)) rfl ?_
    refine WX.take 11 #[true, true, true, true, true, true, true, true, true, true, true, true, false, false, false, false, false, false, false, false, false, false, false, false, false, false, false, false, false, false, false] (fun wz hw => St.tail [] hw) rfl (by kernel_rfl) (Y.loadB (v := .pointer (pt bs16 head5)) Try.underlying73 rfl (.pl rfl) (i := 0) rfl (rfl)) rfl ?_
    obtain ⟨x19, hx19, hF⟩ := bnd hF
    refine WX.pure 12 #[true, true, true, true, true, true, true, true, true, true, true, true, true, false, false, false, false, false, false, false, false, false, false, false, false, false, false, false, false, false, false] rfl (by kernel_rfl) (fun _ _ => Y.nilCheckP (ix_lt (hx19)).1 (.pl rfl)) rfl ?_
    refine WX.pure 13 #[true, true, true, true, true, true, true, true, true, true, true, true, true, true, false, false, false, false, false, false, false, false, false, false, false, false, false, false, false, false, false] rfl (by kernel_rfl) (fun _ _ => Y.fieldAddr0 (off := 1) (ft := 73) Try.underlying75 rfl cells73 (.pl rfl)) rfl ?_
    refine WX.take 14 #[true, true, true, true, true, true, true, true, true, true, true, true, true, true, true, false, false, false, false, false, false, false, false, false, false, false, false, false, false, false, false] (fun wz hw => St.tail [] hw) rfl (by kernel_rfl) (Y.loadH (enc := (encStepsNode bs16)) (bs := bs16) (p := head5) (v := .pointer (pt bs16 x19.next)) (a := x19) Try.underlying73 rfl (.pl rfl) (i := 3) rfl (ix_get (hx19)) rfl) rfl ?_
    refine WX.pure 15 #[true, true, true, true, true, true, true, true, true, true, true, true, true, true, true, true, false, false, false, false, false, false, false, false, false, false, false, false, false, false, false] rfl (by kernel_rfl) (fun _ _ => Y.move (.pl rfl)) rfl ?_
    refine WX.pure 16 #[true, true, true, true, true, true, true, true, true, true, true, true, true, true, true, true, true, false, false, false, false, false, false, false, false, false, false, false, false, false, false] rfl (by kernel_rfl) (fun _ _ => Y.nilCheck (.pl rfl)) rfl ?_
    refine WX.pure 17 #[true, true, true, true, true, true, true, true, true, true, true, true, true, true, true, true, true, true, false, false, false, false, false, false, false, false, false, false, false, false, false] rfl (by kernel_rfl) (fun _ _ => Y.fieldAddr0 (off := 4) (ft := 73) Try.underlying78 rfl cells73 (.pl rfl)) rfl ?_
    refine WX.take 18 #[true, true, true, true, true, true, true, true, true, true, true, true, true, true, true, true, true, true, true, false, false, false, false, false, false, false, false, false, false, false, false] (fun wz hw => St.tail [] hw) rfl (by kernel_rfl) (Y.loadB (v := .pointer (pt bs16 tail6)) Try.underlying73 rfl (.pl rfl) (i := 0) rfl (rfl)) rfl ?_
    refine WX.pure 19 #[true, true, true, true, true, true, true, true, true, true, true, true, true, true, true, true, true, true, true, true, false, false, false, false, false, false, false, false, false, false, false] rfl (by kernel_rfl) (fun _ _ => Y.nilCheck (.pl rfl)) rfl ?_
    refine WX.take 20 #[true, true, true, true, true, true, true, true, true, true, true, true, true, true, true, true, true, true, true, true, true, false, false, false, false, false, false, false, false, false, false] (fun wz hw => St.tail [] hw) rfl (by kernel_rfl) (Y.okField (off := 6) (ft := 73) Try.underlying80 rfl cells73 hok5 (by have := (ix_lt (hx18)); omega) (.pl rfl)) rfl ?_
    refine WX.stop #[true, true, true, true, true, true, true, true, true, true, true, true, true, true, true, true, true, true, true, true, true, true, false, false, false, false, false, false, false, false, false] (fun wz hw => St.tail [] hw) rfl (by kernel_rfl) (WO.storeN0 (enc := (encNStepsProcess bs16)) (inn := (innNStepsProcess w0)) (h0 := ((none, 0) : Hd)) (a := (StepsProcess.mk x18.program x18.pending x18.complete x18.res x18.item x18.n x18.x x18.y x18.z_ x18.own)) (a' := (StepsProcess.mk x18.program x18.pending x18.complete x18.res x18.item x18.n head5 x18.y x18.z_ x18.own)) (idx := ip15) (j := 6) cells73 (.pl rfl) (.pl rfl) rfl (lenNStepsProcess bs16) (i := 1) rfl (ix_get (hx18)) rfl (by decide) rfl rfl ?_)
    refine WA.take 22 #[true, true, true, true, true, true, true, true, true, true, true, true, true, true, true, true, true, true, true, true, true, true, true, false, false, false, false, false, false, false, false] rfl (by kernel_rfl) (fun _ _ => Y.nilCheck (.pl rfl)) rfl ?_
    refine WA.take 23 #[true, true, true, true, true, true, true, true, true, true, true, true, true, true, true, true, true, true, true, true, true, true, true, true, false, false, false, false, false, false, false] rfl (by kernel_rfl) (fun _ _ => Y.okField (off := 7) (ft := 73) Try.underlying80 rfl cells73 hok5 (by have := (ix_lt (hx18)); omega) (.pl rfl)) rfl ?_
    refine WA.branch [24] (by kernel_rfl) ⟨?_, trivial⟩
    refine WI.step #[true, true, true, true, true, true, true, true, true, true, true, true, true, true, true, true, true, true, true, true, true, true, true, true, true, false, false, false, false, false, false] rfl rfl (WO.storeN0 (enc := (encNStepsProcess bs16)) (inn := (innNStepsProcess w0)) (h0 := ((none, 0) : Hd)) (a := (StepsProcess.mk x18.program x18.pending x18.complete x18.res x18.item x18.n head5 x18.y x18.z_ x18.own)) (a' := (StepsProcess.mk x18.program x18.pending x18.complete x18.res x18.item x18.n head5 x19.next x18.z_ x18.own)) (idx := ip15) (j := 7) cells73 (.pl rfl) (.pl rfl) rfl (lenNStepsProcess bs16) (i := 0) rfl (setget (ix_lt (hx18))) rfl (by decide) rfl rfl ?_)
    refine WA.take 25 #[true, true, true, true, true, true, true, true, true, true, true, true, true, true, true, true, true, true, true, true, true, true, true, true, true, true, false, false, false, false, false] rfl (by kernel_rfl) (fun _ _ => Y.nilCheck (.pl rfl)) rfl ?_
    refine WA.take 26 #[true, true, true, true, true, true, true, true, true, true, true, true, true, true, true, true, true, true, true, true, true, true, true, true, true, true, true, false, false, false, false] rfl (by kernel_rfl) (fun _ _ => Y.okField (off := 8) (ft := 73) Try.underlying80 rfl cells73 hok5 (by have := (ix_lt (hx18)); omega) (.pl rfl)) rfl ?_
    refine WA.branch [27] (by kernel_rfl) ⟨?_, trivial⟩
    refine WI.step #[true, true, true, true, true, true, true, true, true, true, true, true, true, true, true, true, true, true, true, true, true, true, true, true, true, true, true, true, false, false, false] rfl rfl (WO.storeN0 (enc := (encNStepsProcess bs16)) (inn := (innNStepsProcess w0)) (h0 := ((none, 0) : Hd)) (a := (StepsProcess.mk x18.program x18.pending x18.complete x18.res x18.item x18.n head5 x19.next x18.z_ x18.own)) (a' := (StepsProcess.mk x18.program x18.pending x18.complete x18.res x18.item x18.n head5 x19.next tail6 x18.own)) (idx := ip15) (j := 8) cells73 (.pl rfl) (.pl rfl) rfl (lenNStepsProcess bs16) (i := 0) rfl (setget (⟨(ix_lt (hx18)).1, by simpa only [List.length_set] using (ix_lt (hx18)).2⟩)) rfl (by decide) rfl rfl ?_)
    refine WA.take 28 #[true, true, true, true, true, true, true, true, true, true, true, true, true, true, true, true, true, true, true, true, true, true, true, true, true, true, true, true, true, false, false] rfl (by kernel_rfl) (fun _ _ => Y.nilCheck (.pl rfl)) rfl ?_
    refine WA.take 29 #[true, true, true, true, true, true, true, true, true, true, true, true, true, true, true, true, true, true, true, true, true, true, true, true, true, true, true, true, true, true, false] rfl (by kernel_rfl) (fun _ _ => Y.okField (off := 4) (ft := 3) Try.underlying80 rfl cells3 hok5 (by have := (ix_lt (hx18)); omega) (.pl rfl)) rfl ?_
    refine WA.branch [30] (by kernel_rfl) ⟨?_, trivial⟩
    refine WI.step #[true, true, true, true, true, true, true, true, true, true, true, true, true, true, true, true, true, true, true, true, true, true, true, true, true, true, true, true, true, true, true] rfl rfl (WO.storeN0 (enc := (encNStepsProcess bs16)) (inn := (innNStepsProcess w0)) (h0 := ((none, 0) : Hd)) (a := (StepsProcess.mk x18.program x18.pending x18.complete x18.res x18.item x18.n head5 x19.next tail6 x18.own)) (a' := (StepsProcess.mk x18.program x18.pending x18.complete x18.res 2 x18.n head5 x19.next tail6 x18.own)) (idx := ip15) (j := 4) cells3 (.pl rfl) (.pl rfl) rfl (lenNStepsProcess bs16) (i := 0) rfl (setget (⟨(ix_lt (hx18)).1, by simpa only [List.length_set] using (ix_lt (hx18)).2⟩)) rfl (by decide) rfl rfl ?_)
    refine WA.done (by kernel_rfl) ?_
    obtain rfl := Option.some.inj hF
    refine W.endV (fn := Try.f88) (vs := []) Try.results88 trivial (fun _ _ h => h) (fun wz hw => ?_)
    exact hR _ _ ⟨(), (by simp), rfl, (St.cong (L := ([cBx b1 78 (Value.int .i64 algo2 :: (Value.int .i64 n3 :: (Value.pointer (pt bs16 top4) :: (Value.pointer (pt bs16 head5) :: (Value.pointer (pt bs16 tail6) :: (Value.slice A7 (people9).length c8 :: (Value.slice A11 (events13).length c12 :: (Value.int .i64 restarts14 :: [])))))))), cHp (encStepsNode bs16) 75 bs16 nodes17, cN (encNStepsProcess bs16) (innNStepsProcess w0) 10 A7 c8 80 hd10 ((((people9.set ip15.toNat (StepsProcess.mk x18.program x18.pending x18.complete x18.res x18.item x18.n head5 x18.y x18.z_ x18.own)).set ip15.toNat (StepsProcess.mk x18.program x18.pending x18.complete x18.res x18.item x18.n head5 x19.next x18.z_ x18.own)).set ip15.toNat (StepsProcess.mk x18.program x18.pending x18.complete x18.res x18.item x18.n head5 x19.next tail6 x18.own)).set ip15.toNat (StepsProcess.mk x18.program x18.pending x18.complete x18.res 2 x18.n head5 x19.next tail6 x18.own)), cR encEvent 4 A11 c12 31 events13] ++ T)) (hw.pickK 4 [1, 3, 0, 2] rfl) (by simp only [List.length_set, List.nil_append, List.cons_append]))⟩
  · replace hF := cneg hC3 hF
    refine W.seqD (by kernel_rfl) (by kernel_rfl) fun R6 hR6 => ?_
    refine WD.q (Y.move (.pl rfl)) rfl ?_
    refine WD.q (Y.nilCheck (.pl rfl)) rfl ?_
    refine WD.q (Y.fieldAddr0 (off := 3) (ft := 73) Try.underlying78 rfl cells73 (.pl rfl)) rfl ?_
    refine WD.q (Y.loadB (v := .pointer (pt bs16 head5)) Try.underlying73 rfl (.pl rfl) (i := 0) rfl (rfl)) rfl ?_
    refine WD.q (Y.move (.pl rfl)) rfl ?_
    refine WD.q (Y.nilCheck (.pl rfl)) rfl ?_
    refine WD.q (Y.nField (off := 6) (ft := 73) Try.underlying80 rfl cells73 (i' := 1) rfl (ix_lt (hx18)) (.pl rfl)) rfl ?_
    refine WD.q (Y.loadN (enc := (encNStepsProcess bs16)) (h0 := ((none, 0) : Hd)) (v := .pointer (pt bs16 x18.x)) (a := (StepsProcess.mk x18.program x18.pending x18.complete x18.res x18.item x18.n x18.x x18.y x18.z_ x18.own)) (idx := ip15) (j := 6) Try.underlying73 rfl (lenNStepsProcess bs16) (i := 1) rfl (.pl rfl) (ix_get (hx18)) rfl rfl) rfl ?_
    obtain ⟨hk20, hF⟩ := ckh hF
    obtain ⟨hk21, hF⟩ := ckh hF
    refine WD.q (Y.neqP (enc := (encStepsNode bs16)) (bs := bs16) (xs := nodes17) Try.underlying73 bz75 (by decide) (.pl rfl) (.pl rfl) (hk20) (hk21) (i := 3) rfl) rfl ?_
    refine WD.q (Y.assign (.pl rfl)) rfl ?_
    refine WD.next hR6 (.cons (i := 0) rfl (.cons (i := 1) rfl (.cons (i := 53) rfl (.nil)))) ?_
    refine W.cond (.pl rfl) (fun hC7 => ?_) (fun hC7 => ?_)
    · replace hF := cpos hC7 hF
      refine W.reg ?_
      refine WL.q (Y.move (.pl rfl)) rfl ?_
      refine WL.q (Y.move (.pl rfl)) rfl ?_
      obtain ⟨r22, hr22, hF⟩ := bnd hF
      refine WL.step (WO.call (γ := Unit) (fun g => .tuple #[]) (fun g => ([cBx b1 78 (Value.int .i64 algo2 :: (Value.int .i64 n3 :: (Value.pointer (pt bs16 top4) :: (Value.pointer (pt bs16 head5) :: (Value.pointer (pt bs16 tail6) :: (Value.slice A7 (r22).length c8 :: (Value.slice A11 (events13).length c12 :: (Value.int .i64 (restarts14 + 1) :: [])))))))), cHp (encStepsNode bs16) 75 bs16 nodes17, cN (encNStepsProcess bs16) (innNStepsProcess w0) 10 A7 c8 80 hd10 r22, cR encEvent 4 A11 c12 31 events13] ++ T)) (fun g => (r22).length = (people9).length) isGo105 (.cons (.pl rfl) (.cons (.pl rfl) (.nil))) rfl (fun wz hw => steps_machine_restart_ok (T := ([] ++ T)) (hr22) (hw.pickK 4 [0, 1, 2, 3] rfl) ) ?_)
      rintro _ hl23
      refine WL.nil ?_
      obtain rfl := Option.some.inj hF
      refine W.endV (fn := Try.f88) (vs := []) Try.results88 trivial (fun _ _ h => h) (fun wz hw => ?_)
      exact hR _ _ ⟨(), (by simp [hl23]), rfl, (hw.pickK 4 [0, 1, 2, 3] rfl)⟩
    · replace hF := cneg hC7 hF
      refine W.seqD (by kernel_rfl) (by kernel_rfl) fun R9 hR9 => ?_
      refine WD.q (Y.move (.pl rfl)) rfl ?_
      refine WD.q (Y.nilCheck (.pl rfl)) rfl ?_
      refine WD.q (Y.nField (off := 6) (ft := 73) Try.underlying80 rfl cells73 (i' := 1) rfl (ix_lt (hx18)) (.pl rfl)) rfl ?_
      refine WD.q (Y.loadN (enc := (encNStepsProcess bs16)) (h0 := ((none, 0) : Hd)) (v := .pointer (pt bs16 x18.x)) (a := (StepsProcess.mk x18.program x18.pending x18.complete x18.res x18.item x18.n x18.x x18.y x18.z_ x18.own)) (idx := ip15) (j := 6) Try.underlying73 rfl (lenNStepsProcess bs16) (i := 1) rfl (.pl rfl) (ix_get (hx18)) rfl rfl) rfl ?_
      refine WD.q (Y.move (.pl rfl)) rfl ?_
      refine WD.q (Y.nilCheck (.pl rfl)) rfl ?_
      refine WD.q (Y.nField (off := 8) (ft := 73) Try.underlying80 rfl cells73 (i' := 1) rfl (ix_lt (hx18)) (.pl rfl)) rfl ?_
      refine WD.q (Y.loadN (enc := (encNStepsProcess bs16)) (h0 := ((none, 0) : Hd)) (v := .pointer (pt bs16 x18.z_)) (a := (StepsProcess.mk x18.program x18.pending x18.complete x18.res x18.item x18.n x18.x x18.y x18.z_ x18.own)) (idx := ip15) (j := 8) Try.underlying73 rfl (lenNStepsProcess bs16) (i := 1) rfl (.pl rfl) (ix_get (hx18)) rfl rfl) rfl ?_
      obtain ⟨hk24, hF⟩ := ckh hF
      obtain ⟨hk25, hF⟩ := ckh hF
      refine WD.q (Y.eqlP (enc := (encStepsNode bs16)) (bs := bs16) (xs := nodes17) Try.underlying73 bz75 (by decide) (.pl rfl) (.pl rfl) (hk24) (hk25) (i := 3) rfl) rfl ?_
      refine WD.q (Y.move (.pl rfl)) rfl ?_
      refine WD.g (.pl rfl rfl rfl) (fun hg => Y.move (.pl rfl)) rfl ?_
      refine WD.g (.pl rfl rfl rfl) (fun hg => Y.nilCheck (.gd (hg) rfl)) rfl ?_
      refine WD.g (.pl rfl rfl rfl) (fun hg => Y.nField (off := 7) (ft := 73) Try.underlying80 rfl cells73 (i' := 1) rfl (ix_lt (hx18)) (.gd (hg) rfl)) rfl ?_
      refine WD.g (.pl rfl rfl rfl) (fun hg => Y.loadN (enc := (encNStepsProcess bs16)) (h0 := ((none, 0) : Hd)) (v := .pointer (pt bs16 x18.y)) (a := (StepsProcess.mk x18.program x18.pending x18.complete x18.res x18.item x18.n x18.x x18.y x18.z_ x18.own)) (idx := ip15) (j := 7) Try.underlying73 rfl (lenNStepsProcess bs16) (i := 1) rfl (.gd (hg) rfl) (ix_get (hx18)) rfl rfl) rfl ?_
      refine WD.g (.pl rfl rfl rfl) (fun hg => Y.eqlPN (bs := bs16) Try.underlying73 (.gd (hg) rfl)) rfl ?_
      refine WD.q (Y.and (.pl rfl) (fun h2 => .gd (eqt h2) rfl)) rfl ?_
      refine WD.q (Y.assign (.pl rfl)) rfl ?_
      refine WD.next hR9 (.cons (i := 0) rfl (.cons (i := 1) rfl (.cons (i := 66) rfl (.nil)))) ?_
      refine W.cond (.pl rfl) (fun hC10 => ?_) (fun hC10 => ?_)
      · replace hF := cpos hC10 hF
        refine W.reg ?_
        refine WL.q (Y.move (.pl rfl)) rfl ?_
        obtain ⟨r26, hr26, hF⟩ := bnd hF
        refine WL.step (WO.call (γ := Unit) (fun g => .tuple #[]) (fun g => ([cN (encNStepsProcess bs16) (innNStepsProcess w0) 10 A7 c8 80 hd10 r26, cHp (encStepsNode bs16) 75 bs16 nodes17, cBx b1 78 (Value.int .i64 algo2 :: (Value.int .i64 n3 :: (Value.pointer (pt bs16 top4) :: (Value.pointer (pt bs16 head5) :: (Value.pointer (pt bs16 tail6) :: (Value.slice A7 (people9).length c8 :: (Value.slice A11 (events13).length c12 :: (Value.int .i64 restarts14 :: [])))))))), cR encEvent 4 A11 c12 31 events13] ++ T)) (fun g => (r26).length = (people9).length) isGo104 (.cons (.pl rfl) (.cons (.pl rfl) (.nil))) rfl (fun wz hw => steps_process_finish_ok (T := ([cBx b1 78 (Value.int .i64 algo2 :: (Value.int .i64 n3 :: (Value.pointer (pt bs16 top4) :: (Value.pointer (pt bs16 head5) :: (Value.pointer (pt bs16 tail6) :: (Value.slice A7 (people9).length c8 :: (Value.slice A11 (events13).length c12 :: (Value.int .i64 restarts14 :: [])))))))), cR encEvent 4 A11 c12 31 events13] ++ T)) (hr26) (hw.pickK 4 [1, 3, 0, 2] rfl) ) ?_)
        rintro _ hl27
        refine WL.nil ?_
        obtain rfl := Option.some.inj hF
        refine W.endV (fn := Try.f88) (vs := []) Try.results88 trivial (fun _ _ h => h) (fun wz hw => ?_)
        exact hR _ _ ⟨(), (by simp [hl27]), rfl, (St.cong (L := ([cBx b1 78 (Value.int .i64 algo2 :: (Value.int .i64 n3 :: (Value.pointer (pt bs16 top4) :: (Value.pointer (pt bs16 head5) :: (Value.pointer (pt bs16 tail6) :: (Value.slice A7 (people9).length c8 :: (Value.slice A11 (events13).length c12 :: (Value.int .i64 restarts14 :: [])))))))), cHp (encStepsNode bs16) 75 bs16 nodes17, cN (encNStepsProcess bs16) (innNStepsProcess w0) 10 A7 c8 80 hd10 r26, cR encEvent 4 A11 c12 31 events13] ++ T)) (hw.pickK 4 [2, 1, 0, 3] rfl) (by simp only [List.length_set, List.nil_append, List.cons_append, hl27]))⟩
      · replace hF := cneg hC10 hF
        refine W.seqD (by kernel_rfl) (by kernel_rfl) fun R12 hR12 => ?_
        refine WD.q (Y.move (.pl rfl)) rfl ?_
        refine WD.q (Y.nilCheck (.pl rfl)) rfl ?_
        refine WD.q (Y.nField (off := 6) (ft := 73) Try.underlying80 rfl cells73 (i' := 1) rfl (ix_lt (hx18)) (.pl rfl)) rfl ?_
        refine WD.q (Y.loadN (enc := (encNStepsProcess bs16)) (h0 := ((none, 0) : Hd)) (v := .pointer (pt bs16 x18.x)) (a := (StepsProcess.mk x18.program x18.pending x18.complete x18.res x18.item x18.n x18.x x18.y x18.z_ x18.own)) (idx := ip15) (j := 6) Try.underlying73 rfl (lenNStepsProcess bs16) (i := 1) rfl (.pl rfl) (ix_get (hx18)) rfl rfl) rfl ?_
        refine WD.q (Y.move (.pl rfl)) rfl ?_
        refine WD.q (Y.nilCheck (.pl rfl)) rfl ?_
        refine WD.q (Y.nField (off := 8) (ft := 73) Try.underlying80 rfl cells73 (i' := 1) rfl (ix_lt (hx18)) (.pl rfl)) rfl ?_
        refine WD.q (Y.loadN (enc := (encNStepsProcess bs16)) (h0 := ((none, 0) : Hd)) (v := .pointer (pt bs16 x18.z_)) (a := (StepsProcess.mk x18.program x18.pending x18.complete x18.res x18.item x18.n x18.x x18.y x18.z_ x18.own)) (idx := ip15) (j := 8) Try.underlying73 rfl (lenNStepsProcess bs16) (i := 1) rfl (.pl rfl) (ix_get (hx18)) rfl rfl) rfl ?_
        obtain ⟨hk28, hF⟩ := ckh hF
        obtain ⟨hk29, hF⟩ := ckh hF
        refine WD.q (Y.eqlP (enc := (encStepsNode bs16)) (bs := bs16) (xs := nodes17) Try.underlying73 bz75 (by decide) (.pl rfl) (.pl rfl) (hk28) (hk29) (i := 3) rfl) rfl ?_
        refine WD.q (Y.assign (.pl rfl)) rfl ?_
        refine WD.next hR12 (.cons (i := 0) rfl (.cons (i := 1) rfl (.cons (i := 85) rfl (.nil)))) ?_
        refine W.cond (.pl rfl) (fun hC13 => ?_) (fun hC13 => ?_)
        · replace hF := cpos hC13 hF
          refine W.seq fun K14 hK14 => ?_
          refine W.seqD (by kernel_rfl) (by kernel_rfl) fun R15 hR15 => ?_
          refine WD.q (Y.move (.pl rfl)) rfl ?_
          refine WD.q (Y.nilCheck (.pl rfl)) rfl ?_
          refine WD.q (Y.fieldAddr0 (off := 4) (ft := 73) Try.underlying78 rfl cells73 (.pl rfl)) rfl ?_
          refine WD.q (Y.loadB (v := .pointer (pt bs16 tail6)) Try.underlying73 rfl (.pl rfl) (i := 0) rfl (rfl)) rfl ?_
          refine WD.q (Y.move (.pl rfl)) rfl ?_
          refine WD.q (Y.nilCheck (.pl rfl)) rfl ?_
          refine WD.q (Y.nField (off := 8) (ft := 73) Try.underlying80 rfl cells73 (i' := 1) rfl (ix_lt (hx18)) (.pl rfl)) rfl ?_
          refine WD.q (Y.loadN (enc := (encNStepsProcess bs16)) (h0 := ((none, 0) : Hd)) (v := .pointer (pt bs16 x18.z_)) (a := (StepsProcess.mk x18.program x18.pending x18.complete x18.res x18.item x18.n x18.x x18.y x18.z_ x18.own)) (idx := ip15) (j := 8) Try.underlying73 rfl (lenNStepsProcess bs16) (i := 1) rfl (.pl rfl) (ix_get (hx18)) rfl rfl) rfl ?_
          obtain ⟨hk30, hF⟩ := ckh hF
          obtain ⟨hk31, hF⟩ := ckh hF
          refine WD.q (Y.eqlP (enc := (encStepsNode bs16)) (bs := bs16) (xs := nodes17) Try.underlying73 bz75 (by decide) (.pl rfl) (.pl rfl) (hk30) (hk31) (i := 3) rfl) rfl ?_
          refine WD.next hR15 (.cons (i := 0) rfl (.cons (i := 1) rfl (.cons (i := 103) rfl (.nil)))) ?_
          refine W.cond (.pl rfl) (fun hC16 => ?_) (fun hC16 => ?_)
          · replace hF := cpos hC16 hF
            refine W.reg ?_
            refine WL.q (Y.move (.pl rfl)) rfl ?_
            refine WL.q (Y.move (.pl rfl)) rfl ?_
            refine WL.q (Y.nilCheck (.pl rfl)) rfl ?_
            refine WL.q (Y.nField (off := 7) (ft := 73) Try.underlying80 rfl cells73 (i' := 1) rfl (ix_lt (hx18)) (.pl rfl)) rfl ?_
            refine WL.q (Y.loadN (enc := (encNStepsProcess bs16)) (h0 := ((none, 0) : Hd)) (v := .pointer (pt bs16 x18.y)) (a := (StepsProcess.mk x18.program x18.pending x18.complete x18.res x18.item x18.n x18.x x18.y x18.z_ x18.own)) (idx := ip15) (j := 7) Try.underlying73 rfl (lenNStepsProcess bs16) (i := 1) rfl (.pl rfl) (ix_get (hx18)) rfl rfl) rfl ?_
            refine WL.q (Y.nilCheck (.pl rfl)) rfl ?_
            refine WL.q (Y.fieldAddr0 (off := 4) (ft := 73) Try.underlying78 rfl cells73 (.pl rfl)) rfl ?_
            refine WL.step (WO.storeB (cs' := (Value.int .i64 algo2 :: (Value.int .i64 n3 :: (Value.pointer (pt bs16 top4) :: (Value.pointer (pt bs16 head5) :: (Value.pointer (pt bs16 x18.y) :: (Value.slice A7 (people9).length c8 :: (Value.slice A11 (events13).length c12 :: (Value.int .i64 restarts14 :: []))))))))) cells73 (.pl rfl) (.pl rfl) rfl (i := 0) rfl (ltl (m := 8) (by decide) rfl) (rfl) ?_)
            refine WL.nil ?_
            refine W.go hK14 (.cons (i := 0) rfl (.cons (i := 1) rfl (.nil))) ?_
            refine W.reg ?_
            refine WL.q (Y.move (.pl rfl)) rfl ?_
            refine WL.q (Y.move (.pl rfl)) rfl ?_
            obtain ⟨r32, hr32, hF⟩ := bnd hF
            refine WL.step (WO.call (γ := Unit) (fun g => .tuple #[]) (fun g => ([cBx b1 78 (Value.int .i64 algo2 :: (Value.int .i64 n3 :: (Value.pointer (pt bs16 top4) :: (Value.pointer (pt bs16 head5) :: (Value.pointer (pt bs16 x18.y) :: (Value.slice A7 (r32).length c8 :: (Value.slice A11 (events13).length c12 :: (Value.int .i64 (restarts14 + 1) :: [])))))))), cHp (encStepsNode bs16) 75 bs16 nodes17, cN (encNStepsProcess bs16) (innNStepsProcess w0) 10 A7 c8 80 hd10 r32, cR encEvent 4 A11 c12 31 events13] ++ T)) (fun g => (r32).length = (people9).length) isGo105 (.cons (.pl rfl) (.cons (.pl rfl) (.nil))) rfl (fun wz hw => steps_machine_restart_ok (T := ([] ++ T)) (hr32) (hw.pickK 4 [0, 1, 2, 3] rfl) ) ?_)
            rintro _ hl33
            refine WL.nil ?_
            obtain rfl := Option.some.inj hF
            refine W.endV (fn := Try.f88) (vs := []) Try.results88 trivial (fun _ _ h => h) (fun wz hw => ?_)
            exact hR _ _ ⟨(), (by simp [hl33]), rfl, (hw.pickK 4 [0, 1, 2, 3] rfl)⟩
          · replace hF := cneg hC16 hF
            refine W.skip ?_
            refine W.go hK14 (.cons (i := 0) rfl (.cons (i := 1) rfl (.nil))) ?_
            refine W.reg ?_
            refine WL.q (Y.move (.pl rfl)) rfl ?_
            refine WL.q (Y.move (.pl rfl)) rfl ?_
            obtain ⟨r34, hr34, hF⟩ := bnd hF
            refine WL.step (WO.call (γ := Unit) (fun g => .tuple #[]) (fun g => ([cBx b1 78 (Value.int .i64 algo2 :: (Value.int .i64 n3 :: (Value.pointer (pt bs16 top4) :: (Value.pointer (pt bs16 head5) :: (Value.pointer (pt bs16 tail6) :: (Value.slice A7 (r34).length c8 :: (Value.slice A11 (events13).length c12 :: (Value.int .i64 (restarts14 + 1) :: [])))))))), cHp (encStepsNode bs16) 75 bs16 nodes17, cN (encNStepsProcess bs16) (innNStepsProcess w0) 10 A7 c8 80 hd10 r34, cR encEvent 4 A11 c12 31 events13] ++ T)) (fun g => (r34).length = (people9).length) isGo105 (.cons (.pl rfl) (.cons (.pl rfl) (.nil))) rfl (fun wz hw => steps_machine_restart_ok (T := ([] ++ T)) (hr34) (hw.pickK 4 [0, 1, 2, 3] rfl) ) ?_)
            rintro _ hl35
            refine WL.nil ?_
            obtain rfl := Option.some.inj hF
            refine W.endV (fn := Try.f88) (vs := []) Try.results88 trivial (fun _ _ h => h) (fun wz hw => ?_)
            exact hR _ _ ⟨(), (by simp [hl35]), rfl, (hw.pickK 4 [0, 1, 2, 3] rfl)⟩
        · replace hF := cneg hC13 hF
          refine W.seqR fun Q20 hQ20 => ?_
          refine WL.q (Y.move (.pl rfl)) rfl ?_
          refine WL.q (Y.move (.pl rfl)) rfl ?_
          refine WL.q (Y.nilCheck (.pl rfl)) rfl ?_
          refine WL.q (Y.nField (off := 7) (ft := 73) Try.underlying80 rfl cells73 (i' := 1) rfl (ix_lt (hx18)) (.pl rfl)) rfl ?_
          refine WL.q (Y.loadN (enc := (encNStepsProcess bs16)) (h0 := ((none, 0) : Hd)) (v := .pointer (pt bs16 x18.y)) (a := (StepsProcess.mk x18.program x18.pending x18.complete x18.res x18.item x18.n x18.x x18.y x18.z_ x18.own)) (idx := ip15) (j := 7) Try.underlying73 rfl (lenNStepsProcess bs16) (i := 1) rfl (.pl rfl) (ix_get (hx18)) rfl rfl) rfl ?_
          refine WL.q (Y.nilCheck (.pl rfl)) rfl ?_
          refine WL.q (Y.fieldAddr0 (off := 3) (ft := 73) Try.underlying78 rfl cells73 (.pl rfl)) rfl ?_
          refine WL.step (WO.storeB (cs' := (Value.int .i64 algo2 :: (Value.int .i64 n3 :: (Value.pointer (pt bs16 top4) :: (Value.pointer (pt bs16 x18.y) :: (Value.pointer (pt bs16 tail6) :: (Value.slice A7 (people9).length c8 :: (Value.slice A11 (events13).length c12 :: (Value.int .i64 restarts14 :: []))))))))) cells73 (.pl rfl) (.pl rfl) rfl (i := 0) rfl (ltl (m := 8) (by decide) rfl) (rfl) ?_)
          refine WL.next hQ20 (.cons (i := 1) rfl (.nil)) ?_
          refine W.reg ?_
          refine WL.q (Y.move (.pl rfl)) rfl ?_
          refine WL.q (Y.move (.pl rfl)) rfl ?_
          refine WL.q (Y.nilCheck (.pl rfl)) rfl ?_
          refine WL.q (Y.nField (off := 7) (ft := 73) Try.underlying80 rfl cells73 (i' := 1) rfl (ix_lt (hx18)) (.pl rfl)) rfl ?_
          refine WL.q (Y.loadN (enc := (encNStepsProcess bs16)) (h0 := ((none, 0) : Hd)) (v := .pointer (pt bs16 x18.y)) (a := (StepsProcess.mk x18.program x18.pending x18.complete x18.res x18.item x18.n x18.x x18.y x18.z_ x18.own)) (idx := ip15) (j := 7) Try.underlying73 rfl (lenNStepsProcess bs16) (i := 1) rfl (.pl rfl) (ix_get (hx18)) rfl rfl) rfl ?_
          obtain ⟨x36, hx36, hF⟩ := bnd hF
          refine WL.q (Y.nilCheckP (ix_lt (hx36)).1 (.pl rfl)) rfl ?_
          refine WL.q (Y.fieldAddr0 (off := 0) (ft := 3) Try.underlying75 rfl cells3 (.pl rfl)) rfl ?_
          refine WL.q (Y.loadH (enc := (encStepsNode bs16)) (bs := bs16) (p := x18.y) (v := .int .i64 x36.value) (a := x36) Try.underlying3 rfl (.pl rfl) (i := 3) rfl (ix_get (hx36)) rfl) rfl ?_
          obtain ⟨r37, hr37, hF⟩ := bnd hF
          refine WL.step (WO.call (γ := Unit) (fun g => .tuple #[]) (fun g => ([cN (encNStepsProcess bs16) (innNStepsProcess w0) 10 A7 c8 80 hd10 r37, cHp (encStepsNode bs16) 75 bs16 nodes17, cBx b1 78 (Value.int .i64 algo2 :: (Value.int .i64 n3 :: (Value.pointer (pt bs16 top4) :: (Value.pointer (pt bs16 x18.y) :: (Value.pointer (pt bs16 tail6) :: (Value.slice A7 (people9).length c8 :: (Value.slice A11 (events13).length c12 :: (Value.int .i64 restarts14 :: [])))))))), cR encEvent 4 A11 c12 31 events13] ++ T)) (fun g => (r37).length = (people9).length) isGo104 (.cons (.pl rfl) (.cons (.pl rfl) (.nil))) rfl (fun wz hw => steps_process_finish_ok (T := ([cBx b1 78 (Value.int .i64 algo2 :: (Value.int .i64 n3 :: (Value.pointer (pt bs16 top4) :: (Value.pointer (pt bs16 x18.y) :: (Value.pointer (pt bs16 tail6) :: (Value.slice A7 (people9).length c8 :: (Value.slice A11 (events13).length c12 :: (Value.int .i64 restarts14 :: [])))))))), cR encEvent 4 A11 c12 31 events13] ++ T)) (hr37) (hw.pickK 4 [1, 3, 0, 2] rfl) ) ?_)
          rintro _ hl38
          refine WL.nil ?_
          obtain rfl := Option.some.inj hF
          refine W.endV (fn := Try.f88) (vs := []) Try.results88 trivial (fun _ _ h => h) (fun wz hw => ?_)
          exact hR _ _ ⟨(), (by simp [hl38]), rfl, (St.cong (L := ([cBx b1 78 (Value.int .i64 algo2 :: (Value.int .i64 n3 :: (Value.pointer (pt bs16 top4) :: (Value.pointer (pt bs16 x18.y) :: (Value.pointer (pt bs16 tail6) :: (Value.slice A7 (people9).length c8 :: (Value.slice A11 (events13).length c12 :: (Value.int .i64 restarts14 :: [])))))))), cHp (encStepsNode bs16) 75 bs16 nodes17, cN (encNStepsProcess bs16) (innNStepsProcess w0) 10 A7 c8 80 hd10 r37, cR encEvent 4 A11 c12 31 events13] ++ T)) (hw.pickK 4 [2, 1, 0, 3] rfl) (by simp only [List.length_set, List.nil_append, List.cons_append, hl38]))⟩

def steps_machine_step (N : Nat) (algo2 : Int) (n3 : Int) (top4 : Int) (head5 : Int) (tail6 : Int) (people9 : (List StepsProcess)) (events13 : (List Event)) (restarts14 : Int) (ip15 : Int) (nodes17 : (List StepsNode)) : Option (Int × (List StepsNode) × Int × Int × Int × (List StepsProcess) × Int) :=
  bd (ix people9 ip15) fun (x18 : StepsProcess) =>
  bd (ix x18.program 0) fun (x19 : Ask) =>
  cond (decide (x19.kind = 10))
    (bd (steps_machine_counter N algo2 n3 top4 head5 tail6 people9 events13 restarts14 ip15 nodes17) fun (r20 : (Int × (List StepsProcess) × Int)) =>
    some (r20.1, nodes17, top4, head5, tail6, r20.2.1, r20.2.2))
    (cond (decide (x19.kind = 5))
      (bd (steps_machine_push N algo2 n3 top4 head5 tail6 people9 events13 restarts14 ip15 nodes17) fun (r22 : ((List StepsNode) × Int × (List StepsProcess) × Int)) =>
      some (n3, r22.1, r22.2.1, head5, tail6, r22.2.2.1, r22.2.2.2))
      (cond (decide (x19.kind = 6))
        (bd (steps_machine_pop N algo2 n3 top4 head5 tail6 people9 events13 restarts14 ip15 nodes17) fun (r24 : (Int × (List StepsProcess) × Int)) =>
        some (n3, nodes17, r24.1, head5, tail6, r24.2.1, r24.2.2))
        (cond (decide (x19.kind = 3))
          (bd (steps_machine_enq N algo2 n3 top4 head5 tail6 people9 events13 restarts14 ip15 nodes17) fun (r26 : ((List StepsNode) × Int × (List StepsProcess) × Int)) =>
          some (n3, r26.1, top4, head5, r26.2.1, r26.2.2.1, r26.2.2.2))
          (bd (steps_machine_deq N algo2 n3 top4 head5 tail6 people9 events13 restarts14 ip15 nodes17) fun (r28 : (Int × Int × (List StepsProcess) × Int)) =>
          some (n3, nodes17, top4, r28.1, r28.2.1, r28.2.2.1, r28.2.2.2)))))

theorem steps_machine_step_ok {N : Nat} {algo2 : Int} {n3 : Int} {top4 : Int} {head5 : Int} {tail6 : Int} {people9 : (List StepsProcess)} {events13 : (List Event)} {restarts14 : Int} {ip15 : Int} {nodes17 : (List StepsNode)} {b1 : Nat} {A7 : Option Addr} {c8 : Nat} {hd10 : List Hd} {A11 : Option Addr} {c12 : Nat} {bs16 : List Nat} {res : (Int × (List StepsNode) × Int × Int × Int × (List StepsProcess) × Int)} (hF : steps_machine_step N algo2 n3 top4 head5 tail6 people9 events13 restarts14 ip15 nodes17 = some res) {w0 w : World} {T : List Chunk} (hw : St w0.heap.size w0 ([cBx b1 78 (Value.int .i64 algo2 :: (Value.int .i64 n3 :: (Value.pointer (pt bs16 top4) :: (Value.pointer (pt bs16 head5) :: (Value.pointer (pt bs16 tail6) :: (Value.slice A7 (people9).length c8 :: (Value.slice A11 (events13).length c12 :: (Value.int .i64 restarts14 :: [])))))))), cN (encNStepsProcess bs16) (innNStepsProcess w0) 10 A7 c8 80 hd10 people9, cR encEvent 4 A11 c12 31 events13, cHp (encStepsNode bs16) 75 bs16 nodes17] ++ T) w) :
    Calls Try.prog 59 (List.toArray [.pointer (some ⟨b1, 0, none⟩), .pointer (some (elA A7 (ip15.toNat * (9 + 1))))]) w (fun e w' => ∃ g : Unit, ((res.2.2.2.2.2.1).length = (people9).length) ∧ e = .returned (.tuple #[]) ∧ St w0.heap.size w0 ([cBx b1 78 (Value.int .i64 algo2 :: (Value.int .i64 res.1 :: (Value.pointer (pt bs16 res.2.2.1) :: (Value.pointer (pt bs16 res.2.2.2.1) :: (Value.pointer (pt bs16 res.2.2.2.2.1) :: (Value.slice A7 (res.2.2.2.2.2.1).length c8 :: (Value.slice A11 (events13).length c12 :: (Value.int .i64 res.2.2.2.2.2.2 :: [])))))))), cHp (encStepsNode bs16) 75 bs16 res.2.1, cN (encNStepsProcess bs16) (innNStepsProcess w0) 10 A7 c8 80 hd10 res.2.2.2.2.2.1, cR encEvent 4 A11 c12 31 events13] ++ T) w') := by
  refine W.enter (n := 34) Try.func59 rfl rfl Sub.refl (by simp) hw fun R hR => ?_
  unfold steps_machine_step at hF
  obtain ⟨x18, hx18, hF⟩ := bnd hF
  refine W.know (fun wz hwz => bor_of (h0 := ((none, 0) : Hd)) (q := fun h a => SlIn encAsk 3 w0 (.slice h.1 a.program.length h.2) a.program) hwz (i := 1) rfl (fun _ _ => .head _)) (fun hbor2 => ?_)
  refine W.seqR fun Q1 hQ1 => ?_
  refine WL.q (Y.move (.pl rfl)) rfl ?_
  refine WL.q (Y.nilCheck (.pl rfl)) rfl ?_
  refine WL.q (Y.nField (off := 0) (ft := 33) Try.underlying80 rfl cells33 (i' := 1) rfl (ix_lt (hx18)) (.pl rfl)) rfl ?_
  refine WL.q (Y.loadN (enc := (encNStepsProcess bs16)) (h0 := ((none, 0) : Hd)) (v := .slice (hd10.getD ip15.toNat ((none, 0) : Hd)).1 (x18.program).length (hd10.getD ip15.toNat ((none, 0) : Hd)).2) (a := (StepsProcess.mk x18.program x18.pending x18.complete x18.res x18.item x18.n x18.x x18.y x18.z_ x18.own)) (idx := ip15) (j := 0) Try.underlying33 rfl (lenNStepsProcess bs16) (i := 1) rfl (.pl rfl) (ix_get (hx18)) rfl rfl) rfl ?_
  obtain ⟨x19, hx19, hF⟩ := bnd hF
  refine WL.q (Y.slEl Try.underlying33 cells83 (hbor2 _ _ (ix_get (hx18))) (.pl rfl) (.pl rfl) (ix_lt (hx19))) rfl ?_
  refine WL.q (Y.slField (off := 1) (ft := 3) Try.underlying83 rfl cells3 ((hbor2 _ _ (ix_get (hx18)))) (ix_lt (hx19)) (.pl rfl)) rfl ?_
  refine WL.q (Y.loadS (enc := encAsk) (v := .int .i64 x19.kind) (j := 1) Try.underlying3 rfl (hbor2 _ _ (ix_get (hx18))) (.pl rfl) (hx19) rfl rfl) rfl ?_
  refine WL.next hQ1 (.cons (i := 0) rfl (.cons (i := 1) rfl (.cons (i := 10) rfl (.nil)))) ?_
  refine W.block ?_
  refine W.seqR fun Q3 hQ3 => ?_
  refine WL.q (Y.eql (.pl rfl) (.pl rfl)) rfl ?_
  refine WL.q (Y.assign (.pl rfl)) rfl ?_
  refine WL.next hQ3 (.cons (i := 0) rfl (.cons (i := 1) rfl (.cons (i := 10) rfl (.cons (i := 14) rfl (.nil))))) ?_
  refine W.cond (.pl rfl) (fun hC4 => ?_) (fun hC4 => ?_)
  · replace hF := cpos hC4 hF
    refine W.reg ?_
    refine WL.q (Y.move (.pl rfl)) rfl ?_
    refine WL.q (Y.move (.pl rfl)) rfl ?_
    obtain ⟨r20, hr20, hF⟩ := bnd hF
    refine WL.step (WO.call (γ := Unit) (fun g => .tuple #[]) (fun g => ([cBx b1 78 (Value.int .i64 algo2 :: (Value.int .i64 r20.1 :: (Value.pointer (pt bs16 top4) :: (Value.pointer (pt bs16 head5) :: (Value.pointer (pt bs16 tail6) :: (Value.slice A7 (r20.2.1).length c8 :: (Value.slice A11 (events13).length c12 :: (Value.int .i64 r20.2.2 :: [])))))))), cHp (encStepsNode bs16) 75 bs16 nodes17, cN (encNStepsProcess bs16) (innNStepsProcess w0) 10 A7 c8 80 hd10 r20.2.1, cR encEvent 4 A11 c12 31 events13] ++ T)) (fun g => (r20.2.1).length = (people9).length) isGo84 (.cons (.pl rfl) (.cons (.pl rfl) (.nil))) rfl (fun wz hw => steps_machine_counter_ok (T := ([] ++ T)) (hr20) (hw.pickK 4 [0, 1, 2, 3] rfl) ) ?_)
    rintro _ hl21
    refine WL.nil ?_
    obtain rfl := Option.some.inj hF
    refine W.endV (fn := Try.f59) (vs := []) Try.results59 trivial (fun _ _ h => h) (fun wz hw => ?_)
    exact hR _ _ ⟨(), (by simp [hl21]), rfl, (hw.pickK 4 [0, 1, 2, 3] rfl)⟩
  · replace hF := cneg hC4 hF
    refine W.seqR fun Q6 hQ6 => ?_
    refine WL.q (Y.eql (.pl rfl) (.pl rfl)) rfl ?_
    refine WL.q (Y.assign (.pl rfl)) rfl ?_
    refine WL.next hQ6 (.cons (i := 0) rfl (.cons (i := 1) rfl (.cons (i := 10) rfl (.cons (i := 19) rfl (.nil))))) ?_
    refine W.cond (.pl rfl) (fun hC7 => ?_) (fun hC7 => ?_)
    · replace hF := cpos hC7 hF
      refine W.reg ?_
      refine WL.q (Y.move (.pl rfl)) rfl ?_
      refine WL.q (Y.move (.pl rfl)) rfl ?_
      obtain ⟨r22, hr22, hF⟩ := bnd hF
      refine WL.step (WO.call (γ := Unit) (fun g => .tuple #[]) (fun g => ([cBx b1 78 (Value.int .i64 algo2 :: (Value.int .i64 n3 :: (Value.pointer (pt bs16 r22.2.1) :: (Value.pointer (pt bs16 head5) :: (Value.pointer (pt bs16 tail6) :: (Value.slice A7 (r22.2.2.1).length c8 :: (Value.slice A11 (events13).length c12 :: (Value.int .i64 r22.2.2.2 :: [])))))))), cHp (encStepsNode bs16) 75 bs16 r22.1, cN (encNStepsProcess bs16) (innNStepsProcess w0) 10 A7 c8 80 hd10 r22.2.2.1, cR encEvent 4 A11 c12 31 events13] ++ T)) (fun g => (r22.2.2.1).length = (people9).length) isGo85 (.cons (.pl rfl) (.cons (.pl rfl) (.nil))) rfl (fun wz hw => steps_machine_push_ok (T := ([] ++ T)) (hr22) (hw.pickK 4 [0, 1, 2, 3] rfl) ) ?_)
      rintro _ hl23
      refine WL.nil ?_
      obtain rfl := Option.some.inj hF
      refine W.endV (fn := Try.f59) (vs := []) Try.results59 trivial (fun _ _ h => h) (fun wz hw => ?_)
      exact hR _ _ ⟨(), (by simp [hl23]), rfl, (hw.pickK 4 [0, 1, 2, 3] rfl)⟩
    · replace hF := cneg hC7 hF
      refine W.seqR fun Q9 hQ9 => ?_
      refine WL.q (Y.eql (.pl rfl) (.pl rfl)) rfl ?_
      refine WL.q (Y.assign (.pl rfl)) rfl ?_
      refine WL.next hQ9 (.cons (i := 0) rfl (.cons (i := 1) rfl (.cons (i := 10) rfl (.cons (i := 24) rfl (.nil))))) ?_
      refine W.cond (.pl rfl) (fun hC10 => ?_) (fun hC10 => ?_)
      · replace hF := cpos hC10 hF
        refine W.reg ?_
        refine WL.q (Y.move (.pl rfl)) rfl ?_
        refine WL.q (Y.move (.pl rfl)) rfl ?_
        obtain ⟨r24, hr24, hF⟩ := bnd hF
        refine WL.step (WO.call (γ := Unit) (fun g => .tuple #[]) (fun g => ([cBx b1 78 (Value.int .i64 algo2 :: (Value.int .i64 n3 :: (Value.pointer (pt bs16 r24.1) :: (Value.pointer (pt bs16 head5) :: (Value.pointer (pt bs16 tail6) :: (Value.slice A7 (r24.2.1).length c8 :: (Value.slice A11 (events13).length c12 :: (Value.int .i64 r24.2.2 :: [])))))))), cHp (encStepsNode bs16) 75 bs16 nodes17, cN (encNStepsProcess bs16) (innNStepsProcess w0) 10 A7 c8 80 hd10 r24.2.1, cR encEvent 4 A11 c12 31 events13] ++ T)) (fun g => (r24.2.1).length = (people9).length) isGo86 (.cons (.pl rfl) (.cons (.pl rfl) (.nil))) rfl (fun wz hw => steps_machine_pop_ok (T := ([] ++ T)) (hr24) (hw.pickK 4 [0, 1, 2, 3] rfl) ) ?_)
        rintro _ hl25
        refine WL.nil ?_
        obtain rfl := Option.some.inj hF
        refine W.endV (fn := Try.f59) (vs := []) Try.results59 trivial (fun _ _ h => h) (fun wz hw => ?_)
        exact hR _ _ ⟨(), (by simp [hl25]), rfl, (hw.pickK 4 [0, 1, 2, 3] rfl)⟩
      · replace hF := cneg hC10 hF
        refine W.seqR fun Q12 hQ12 => ?_
        refine WL.q (Y.eql (.pl rfl) (.pl rfl)) rfl ?_
        refine WL.q (Y.assign (.pl rfl)) rfl ?_
        refine WL.next hQ12 (.cons (i := 0) rfl (.cons (i := 1) rfl (.cons (i := 29) rfl (.nil)))) ?_
        refine W.cond (.pl rfl) (fun hC13 => ?_) (fun hC13 => ?_)
        · replace hF := cpos hC13 hF
          refine W.reg ?_
          refine WL.q (Y.move (.pl rfl)) rfl ?_
          refine WL.q (Y.move (.pl rfl)) rfl ?_
          obtain ⟨r26, hr26, hF⟩ := bnd hF
          refine WL.step (WO.call (γ := Unit) (fun g => .tuple #[]) (fun g => ([cBx b1 78 (Value.int .i64 algo2 :: (Value.int .i64 n3 :: (Value.pointer (pt bs16 top4) :: (Value.pointer (pt bs16 head5) :: (Value.pointer (pt bs16 r26.2.1) :: (Value.slice A7 (r26.2.2.1).length c8 :: (Value.slice A11 (events13).length c12 :: (Value.int .i64 r26.2.2.2 :: [])))))))), cHp (encStepsNode bs16) 75 bs16 r26.1, cN (encNStepsProcess bs16) (innNStepsProcess w0) 10 A7 c8 80 hd10 r26.2.2.1, cR encEvent 4 A11 c12 31 events13] ++ T)) (fun g => (r26.2.2.1).length = (people9).length) isGo87 (.cons (.pl rfl) (.cons (.pl rfl) (.nil))) rfl (fun wz hw => steps_machine_enq_ok (T := ([] ++ T)) (hr26) (hw.pickK 4 [0, 1, 2, 3] rfl) ) ?_)
          rintro _ hl27
          refine WL.nil ?_
          obtain rfl := Option.some.inj hF
          refine W.endV (fn := Try.f59) (vs := []) Try.results59 trivial (fun _ _ h => h) (fun wz hw => ?_)
          exact hR _ _ ⟨(), (by simp [hl27]), rfl, (hw.pickK 4 [0, 1, 2, 3] rfl)⟩
        · replace hF := cneg hC13 hF
          refine W.reg ?_
          refine WL.q (Y.move (.pl rfl)) rfl ?_
          refine WL.q (Y.move (.pl rfl)) rfl ?_
          obtain ⟨r28, hr28, hF⟩ := bnd hF
          refine WL.step (WO.call (γ := Unit) (fun g => .tuple #[]) (fun g => ([cBx b1 78 (Value.int .i64 algo2 :: (Value.int .i64 n3 :: (Value.pointer (pt bs16 top4) :: (Value.pointer (pt bs16 r28.1) :: (Value.pointer (pt bs16 r28.2.1) :: (Value.slice A7 (r28.2.2.1).length c8 :: (Value.slice A11 (events13).length c12 :: (Value.int .i64 r28.2.2.2 :: [])))))))), cHp (encStepsNode bs16) 75 bs16 nodes17, cN (encNStepsProcess bs16) (innNStepsProcess w0) 10 A7 c8 80 hd10 r28.2.2.1, cR encEvent 4 A11 c12 31 events13] ++ T)) (fun g => (r28.2.2.1).length = (people9).length) isGo88 (.cons (.pl rfl) (.cons (.pl rfl) (.nil))) rfl (fun wz hw => steps_machine_deq_ok (T := ([] ++ T)) (hr28) (hw.pickK 4 [0, 1, 2, 3] rfl) ) ?_)
          rintro _ hl29
          refine WL.nil ?_
          obtain rfl := Option.some.inj hF
          refine W.endV (fn := Try.f59) (vs := []) Try.results59 trivial (fun _ _ h => h) (fun wz hw => ?_)
          exact hR _ _ ⟨(), (by simp [hl29]), rfl, (hw.pickK 4 [0, 1, 2, 3] rfl)⟩

def steps_machine_turn (N : Nat) (algo2 : Int) (n3 : Int) (top4 : Int) (head5 : Int) (tail6 : Int) (people9 : (List StepsProcess)) (events13 : (List Event)) (restarts14 : Int) (who15 : Int) (nodes17 : (List StepsNode)) : Option (Int × (List StepsNode) × Int × Int × Int × (List StepsProcess) × (List Event) × Int) :=
  bd (ix people9 who15) fun (x18 : StepsProcess) =>
  cond ((!x18.pending) && (decide (((x18.program).length : Int) = 0)))
    (some (n3, nodes17, top4, head5, tail6, people9, events13, restarts14))
    (cond (!x18.pending)
      (bd (ix x18.program 0) fun (x19 : Ask) =>
      ck (limB 32 ((events13).length + (([(Event.mk who15 0 x19.kind x19.arg)] : List Event)).length)) <|
      ck (nodes17.all (vpStepsNode (nodes17).length)) <|
      ck (vp (nodes17).length top4) <|
      ck (vp (nodes17).length head5) <|
      ck (vp (nodes17).length tail6) <|
      ck (people9.all (vpStepsProcess (nodes17).length)) <|
      some (n3, (nodes17 ++ [(StepsNode.mk x19.arg (-1))]), top4, head5, tail6, (people9.set who15.toNat (StepsProcess.mk x18.program true false 0 1 0 (-1) (-1) (-1) ((nodes17).length : Int))), (events13 ++ ([(Event.mk who15 0 x19.kind x19.arg)] : List Event)), restarts14))
      (cond x18.complete
        (ck (limB 32 ((events13).length + (([(Event.mk who15 0 0 x18.res)] : List Event)).length)) <|
        ck (slB (x18.program).length 1 ((x18.program).length : Int)) <|
        some (n3, nodes17, top4, head5, tail6, ((people9.set who15.toNat (StepsProcess.mk x18.program false x18.complete x18.res x18.item x18.n x18.x x18.y x18.z_ x18.own)).set who15.toNat (StepsProcess.mk (x18.program.drop (1 : Int).toNat) false x18.complete x18.res x18.item x18.n x18.x x18.y x18.z_ x18.own)), (events13 ++ ([(Event.mk who15 0 0 x18.res)] : List Event)), restarts14))
        (bd (steps_machine_step N algo2 n3 top4 head5 tail6 people9 events13 restarts14 who15 nodes17) fun (r36 : (Int × (List StepsNode) × Int × Int × Int × (List StepsProcess) × Int)) =>
        some (r36.1, r36.2.1, r36.2.2.1, r36.2.2.2.1, r36.2.2.2.2.1, r36.2.2.2.2.2.1, events13, r36.2.2.2.2.2.2))))

theorem steps_machine_turn_ok {N : Nat} {algo2 : Int} {n3 : Int} {top4 : Int} {head5 : Int} {tail6 : Int} {people9 : (List StepsProcess)} {events13 : (List Event)} {restarts14 : Int} {who15 : Int} {nodes17 : (List StepsNode)} {b1 : Nat} {A7 : Option Addr} {c8 : Nat} {hd10 : List Hd} {A11 : Option Addr} {c12 : Nat} {bs16 : List Nat} {res : (Int × (List StepsNode) × Int × Int × Int × (List StepsProcess) × (List Event) × Int)} (hF : steps_machine_turn N algo2 n3 top4 head5 tail6 people9 events13 restarts14 who15 nodes17 = some res) {w0 w : World} {T : List Chunk} (hw : St w0.heap.size w0 ([cBx b1 78 (Value.int .i64 algo2 :: (Value.int .i64 n3 :: (Value.pointer (pt bs16 top4) :: (Value.pointer (pt bs16 head5) :: (Value.pointer (pt bs16 tail6) :: (Value.slice A7 (people9).length c8 :: (Value.slice A11 (events13).length c12 :: (Value.int .i64 restarts14 :: [])))))))), cN (encNStepsProcess bs16) (innNStepsProcess w0) 10 A7 c8 80 hd10 people9, cR encEvent 4 A11 c12 31 events13, cHp (encStepsNode bs16) 75 bs16 nodes17] ++ T) w) :
    Calls Try.prog 32 (List.toArray [.pointer (some ⟨b1, 0, none⟩), .int .i64 who15]) w (fun e w' => ∃ g : (List Nat × List Hd × Option Addr × Nat), ((res.2.2.2.2.2.1).length = (people9).length) ∧ e = .returned (.tuple #[]) ∧ St w0.heap.size w0 ([cBx b1 78 (Value.int .i64 algo2 :: (Value.int .i64 res.1 :: (Value.pointer (pt g.1 res.2.2.1) :: (Value.pointer (pt g.1 res.2.2.2.1) :: (Value.pointer (pt g.1 res.2.2.2.2.1) :: (Value.slice A7 (res.2.2.2.2.2.1).length c8 :: (Value.slice g.2.2.1 (res.2.2.2.2.2.2.1).length g.2.2.2 :: (Value.int .i64 res.2.2.2.2.2.2.2 :: [])))))))), cHp (encStepsNode g.1) 75 g.1 res.2.1, cN (encNStepsProcess g.1) (innNStepsProcess w0) 10 A7 c8 80 g.2.1 res.2.2.2.2.2.1, cR encEvent 4 g.2.2.1 g.2.2.2 31 res.2.2.2.2.2.2.1] ++ T) w') := by
  refine W.enter (n := 98) Try.func32 rfl rfl Sub.refl (by simp) hw fun R hR => ?_
  unfold steps_machine_turn at hF
  refine W.know (fun wz hwz => bor_of (h0 := ((none, 0) : Hd)) (q := fun h a => SlIn encAsk 3 w0 (.slice h.1 a.program.length h.2) a.program) hwz (i := 1) rfl (fun _ _ => .head _)) (fun hbor2 => ?_)
  refine W.seqR fun Q1 hQ1 => ?_
  refine WL.q (Y.move (.pl rfl)) rfl ?_
  refine WL.q (Y.nilCheck (.pl rfl)) rfl ?_
  refine WL.q (Y.fieldAddr0 (off := 5) (ft := 76) Try.underlying78 rfl cells76 (.pl rfl)) rfl ?_
  refine WL.q (Y.loadB (v := .slice A7 (people9).length c8) Try.underlying76 rfl (.pl rfl) (i := 0) rfl (rfl)) rfl ?_
  refine WL.q (Y.move (.pl rfl)) rfl ?_
  obtain ⟨x18, hx18, hF⟩ := bnd hF
  refine WL.q (Y.nEl Try.underlying76 cells80 (i := 1) rfl (.pl rfl) rfl (.pl rfl) (ix_lt (hx18))) rfl ?_
  refine WL.q (Y.assign (.pl rfl)) rfl ?_
  refine WL.next hQ1 (.cons (i := 0) rfl (.cons (i := 1) rfl (.cons (i := 4) rfl (.nil)))) ?_
  refine W.block ?_
  refine W.seqR fun Q3 hQ3 => ?_
  refine WL.q (Y.move (.pl rfl)) rfl ?_
  refine WL.q (Y.nilCheck (.pl rfl)) rfl ?_
  refine WL.q (Y.nField (off := 1) (ft := 4) Try.underlying80 rfl cells4 (i' := 1) rfl (ix_lt (hx18)) (.pl rfl)) rfl ?_
  refine WL.q (Y.loadN (enc := (encNStepsProcess bs16)) (h0 := ((none, 0) : Hd)) (v := .bool x18.pending) (a := (StepsProcess.mk x18.program x18.pending x18.complete x18.res x18.item x18.n x18.x x18.y x18.z_ x18.own)) (idx := who15) (j := 1) Try.underlying4 rfl (lenNStepsProcess bs16) (i := 1) rfl (.pl rfl) (ix_get (hx18)) rfl rfl) rfl ?_
  refine WL.q (Y.not (.pl rfl)) rfl ?_
  refine WL.q (Y.move (.pl rfl)) rfl ?_
  refine WL.g (.pl rfl rfl rfl) (fun hg => Y.move (.pl rfl)) rfl ?_
  refine WL.g (.pl rfl rfl rfl) (fun hg => Y.nilCheck (.gd (hg) rfl)) rfl ?_
  refine WL.g (.pl rfl rfl rfl) (fun hg => Y.nField (off := 0) (ft := 33) Try.underlying80 rfl cells33 (i' := 1) rfl (ix_lt (hx18)) (.gd (hg) rfl)) rfl ?_
  refine WL.g (.pl rfl rfl rfl) (fun hg => Y.loadN (enc := (encNStepsProcess bs16)) (h0 := ((none, 0) : Hd)) (v := .slice (hd10.getD who15.toNat ((none, 0) : Hd)).1 (x18.program).length (hd10.getD who15.toNat ((none, 0) : Hd)).2) (a := (StepsProcess.mk x18.program x18.pending x18.complete x18.res x18.item x18.n x18.x x18.y x18.z_ x18.own)) (idx := who15) (j := 0) Try.underlying33 rfl (lenNStepsProcess bs16) (i := 1) rfl (.gd (hg) rfl) (ix_get (hx18)) rfl rfl) rfl ?_
  refine WL.g (.pl rfl rfl rfl) (fun hg => Y.len Try.underlying33 (.gd (hg) rfl)) rfl ?_
  refine WL.g (.pl rfl rfl rfl) (fun hg => Y.eql (.gd (hg) rfl) (.pl rfl)) rfl ?_
  refine WL.q (Y.and (.pl rfl) (fun h2 => .gd (eqt h2) rfl)) rfl ?_
  refine WL.q (Y.assign (.pl rfl)) rfl ?_
  refine WL.next hQ3 (.cons (i := 0) rfl (.cons (i := 1) rfl (.cons (i := 4) rfl (.cons (i := 15) rfl (.nil))))) ?_
  refine W.cond (.pl rfl) (fun hC4 => ?_) (fun hC4 => ?_)
  · replace hF := cpos hC4 hF
    refine W.skip ?_
    obtain rfl := Option.some.inj hF
    refine W.endV (fn := Try.f32) (vs := []) Try.results32 trivial (fun _ _ h => h) (fun wz hw => ?_)
    exact hR _ _ ⟨(bs16, hd10, A11, c12), (by simp), rfl, (hw.pickK 4 [0, 3, 1, 2] rfl)⟩
  · replace hF := cneg hC4 hF
    refine W.seqR fun Q5 hQ5 => ?_
    refine WL.q (Y.move (.pl rfl)) rfl ?_
    refine WL.q (Y.nilCheck (.pl rfl)) rfl ?_
    refine WL.q (Y.nField (off := 1) (ft := 4) Try.underlying80 rfl cells4 (i' := 1) rfl (ix_lt (hx18)) (.pl rfl)) rfl ?_
    refine WL.q (Y.loadN (enc := (encNStepsProcess bs16)) (h0 := ((none, 0) : Hd)) (v := .bool x18.pending) (a := (StepsProcess.mk x18.program x18.pending x18.complete x18.res x18.item x18.n x18.x x18.y x18.z_ x18.own)) (idx := who15) (j := 1) Try.underlying4 rfl (lenNStepsProcess bs16) (i := 1) rfl (.pl rfl) (ix_get (hx18)) rfl rfl) rfl ?_
    refine WL.q (Y.not (.pl rfl)) rfl ?_
    refine WL.q (Y.assign (.pl rfl)) rfl ?_
    refine WL.next hQ5 (.cons (i := 0) rfl (.cons (i := 1) rfl (.cons (i := 4) rfl (.cons (i := 29) rfl (.nil))))) ?_
    refine W.cond (.pl rfl) (fun hC6 => ?_) (fun hC6 => ?_)
    · replace hF := cpos hC6 hF
      refine W.seqR fun Q7 hQ7 => ?_
      refine WL.q (Y.move (.pl rfl)) rfl ?_
      refine WL.q (Y.nilCheck (.pl rfl)) rfl ?_
      refine WL.q (Y.nField (off := 0) (ft := 33) Try.underlying80 rfl cells33 (i' := 1) rfl (ix_lt (hx18)) (.pl rfl)) rfl ?_
      refine WL.q (Y.loadN (enc := (encNStepsProcess bs16)) (h0 := ((none, 0) : Hd)) (v := .slice (hd10.getD who15.toNat ((none, 0) : Hd)).1 (x18.program).length (hd10.getD who15.toNat ((none, 0) : Hd)).2) (a := (StepsProcess.mk x18.program x18.pending x18.complete x18.res x18.item x18.n x18.x x18.y x18.z_ x18.own)) (idx := who15) (j := 0) Try.underlying33 rfl (lenNStepsProcess bs16) (i := 1) rfl (.pl rfl) (ix_get (hx18)) rfl rfl) rfl ?_
      obtain ⟨x19, hx19, hF⟩ := bnd hF
      refine WL.q (Y.slEl Try.underlying33 cells83 (hbor2 _ _ (ix_get (hx18))) (.pl rfl) (.pl rfl) (ix_lt (hx19))) rfl ?_
      refine WL.q (Y.loadSA (enc := encAsk) (ds := (encAsk x19)) (j := 0) Try.underlying83 rfl cells83 (hbor2 _ _ (ix_get (hx18))) (.pl rfl) (hx19) rfl rfl subW) rfl ?_
      refine WL.step (WO.alloc (cs := (encAsk (Ask.mk 0 0 0)).toArray) zero83 rfl rfl fun b20 => ?_)
      refine WL.step (WO.storeBA (ds := (encAsk x19)) (cs' := (encAsk x19)) cells83 (.pl rfl) (.pl rfl) rfl (oneAsk _) (i := 0) rfl (lel (o := 0) (l := 3) (m := 3) (by decide) rfl rfl) (putW rfl) ?_)
      refine WL.next hQ7 (.cons (i := 0) rfl (.cons (i := 1) rfl (.cons (i := 4) rfl (.cons (i := 5) rfl (.nil))))) ?_
      refine W.know (fun wz hw => n_okA0 hw (i := 2) rfl) (fun hok9 => ?_)
      refine W.seqX 12 (by kernel_rfl) fun K8 hK8 => ?_
      refine WX.pure 0 #[true, false, false, false, false, false, false, false, false, false, false, false, false, false, false, false] rfl (by kernel_rfl) (fun _ _ => Y.move (.pl rfl)) rfl ?_
      refine WX.pure 1 #[true, true, false, false, false, false, false, false, false, false, false, false, false, false, false, false] rfl (by kernel_rfl) (fun _ _ => Y.move (.pl rfl)) rfl ?_
      refine WX.pure 2 #[true, true, true, false, false, false, false, false, false, false, false, false, false, false, false, false] rfl (by kernel_rfl) (fun _ _ => Y.nilCheck (.pl rfl)) rfl ?_
      refine WX.pure 3 #[true, true, true, true, false, false, false, false, false, false, false, false, false, false, false, false] rfl (by kernel_rfl) (fun _ _ => Y.fieldAddr0 (off := 6) (ft := 24) Try.underlying78 rfl cells24 (.pl rfl)) rfl ?_
      refine WX.take 4 #[true, true, true, true, true, false, false, false, false, false, false, false, false, false, false, false] (fun wz hw => St.tail [] hw) rfl (by kernel_rfl) (Y.loadB (v := .slice A11 (events13).length c12) Try.underlying24 rfl (.pl rfl) (i := 1) rfl (rfl)) rfl ?_
      refine WX.pure 5 #[true, true, true, true, true, true, false, false, false, false, false, false, false, false, false, false] rfl (by kernel_rfl) (fun _ _ => Y.move (.pl rfl)) rfl ?_
      refine WX.pure 6 #[true, true, true, true, true, true, true, false, false, false, false, false, false, false, false, false] rfl (by kernel_rfl) (fun _ _ => Y.fieldAddr0 (off := 1) (ft := 3) Try.underlying83 rfl cells3 (.pl rfl)) rfl ?_
      refine WX.take 7 #[true, true, true, true, true, true, true, true, false, false, false, false, false, false, false, false] (fun wz hw => St.tail [] hw) rfl (by kernel_rfl) (Y.loadB (v := .int .i64 x19.kind) Try.underlying3 rfl (.pl rfl) (i := 0) rfl (rfl)) rfl ?_
      refine WX.pure 8 #[true, true, true, true, true, true, true, true, true, false, false, false, false, false, false, false] rfl (by kernel_rfl) (fun _ _ => Y.fieldAddr0 (off := 2) (ft := 3) Try.underlying83 rfl cells3 (.pl rfl)) rfl ?_
      refine WX.take 9 #[true, true, true, true, true, true, true, true, true, true, false, false, false, false, false, false] (fun wz hw => St.tail [] hw) rfl (by kernel_rfl) (Y.loadB (v := .int .i64 x19.arg) Try.underlying3 rfl (.pl rfl) (i := 0) rfl (rfl)) rfl ?_
      refine WX.pure 10 #[true, true, true, true, true, true, true, true, true, true, true, false, false, false, false, false] rfl (by kernel_rfl) (fun _ _ => Y.build (cs := (encEvent (Event.mk who15 0 x19.kind x19.arg)).toArray) shape31 (.cons (.pl rfl) (.cons (.pl rfl) (.cons (.pl rfl) (.nil)))) (one_parts ⟨rfl, ⟨rfl, ⟨rfl, trivial⟩⟩⟩) rfl) rfl ?_
      refine WX.one 11 #[true, true, true, true, true, true, true, true, true, true, true, true, false, false, false, false] (fun wz hw => St.tail [] hw) rfl (by kernel_rfl) (WO.bsliceC (enc := encEvent) (ys := ([(Event.mk who15 0 x19.kind x19.arg)] : List Event)) Try.underlying24 bz31 (.cons (.pl rfl) (.nil)) rfl lenEvent rfl rfl (by decide) (by decide) rfl fun b21 => ?_)
      obtain ⟨hk24, hF⟩ := ckh hF
      refine WX.stop #[true, true, true, true, true, true, true, true, true, true, true, true, true, false, false, false] (fun wz hw => St.tail [_] hw) rfl (by kernel_rfl) (WO.appendC (enc := encEvent) Try.underlying24 ap31 lenEvent oneEvent (.pl rfl) rfl (.pl rfl) (i := 4) rfl (m2 := 0) rfl (hk24) rfl fun A22 c23 => ?_)
      refine WA.take 13 #[true, true, true, true, true, true, true, true, true, true, true, true, true, true, false, false] rfl (by kernel_rfl) (fun _ _ => Y.nilCheck (.pl rfl)) rfl ?_
      refine WA.take 14 #[true, true, true, true, true, true, true, true, true, true, true, true, true, true, true, false] rfl (by kernel_rfl) (fun _ _ => Y.fieldAddr0 (off := 6) (ft := 24) Try.underlying78 rfl cells24 (.pl rfl)) rfl ?_
      refine WA.branch [15] (by kernel_rfl) ⟨?_, trivial⟩
      refine WI.step #[true, true, true, true, true, true, true, true, true, true, true, true, true, true, true, true] rfl rfl (WO.storeB (cs' := (Value.int .i64 algo2 :: (Value.int .i64 n3 :: (Value.pointer (pt bs16 top4) :: (Value.pointer (pt bs16 head5) :: (Value.pointer (pt bs16 tail6) :: (Value.slice A7 (people9).length c8 :: (Value.slice A22 ((events13 ++ ([(Event.mk who15 0 x19.kind x19.arg)] : List Event))).length c23 :: (Value.int .i64 restarts14 :: []))))))))) cells24 (.pl rfl) (.pl rfl) rfl (i := 2) rfl (ltl (m := 8) (by decide) rfl) (rfl) ?_)
      refine WA.done (by kernel_rfl) ?_
      refine KK.next hK8 (.cons (i := 4) rfl (.cons (i := 5) rfl (.nil))) ?_
      refine W.know (fun wz hw => (hp_facts hw (i := 5) rfl).1) (fun hhp11 => ?_)
      refine W.know (fun wz hw => n_okA0 hw (i := 3) rfl) (fun hok12 => ?_)
      refine W.regX 11 (by kernel_rfl) ?_
      refine WX.pure 0 #[true, false, false, false, false, false, false, false, false, false, false, false] rfl (by kernel_rfl) (fun _ _ => Y.move (.pl rfl)) rfl ?_
      refine WX.pure 1 #[true, true, false, false, false, false, false, false, false, false, false, false] rfl (by kernel_rfl) (fun _ _ => Y.move (.pl rfl)) rfl ?_
      refine WX.pure 2 #[true, true, true, false, false, false, false, false, false, false, false, false] rfl (by kernel_rfl) (fun _ _ => Y.nilCheck (.pl rfl)) rfl ?_
      refine WX.take 3 #[true, true, true, true, false, false, false, false, false, false, false, false] (fun wz hw => St.tail [] hw) rfl (by kernel_rfl) (Y.okField (off := 0) (ft := 33) Try.underlying80 rfl cells33 hok12 (by have := (ix_lt (hx18)); omega) (.pl rfl)) rfl ?_
      refine WX.take 4 #[true, true, true, true, true, false, false, false, false, false, false, false] (fun wz hw => St.tail [] hw) rfl (by kernel_rfl) (Y.loadN (enc := (encNStepsProcess bs16)) (h0 := ((none, 0) : Hd)) (v := .slice (hd10.getD who15.toNat ((none, 0) : Hd)).1 (x18.program).length (hd10.getD who15.toNat ((none, 0) : Hd)).2) (a := (StepsProcess.mk x18.program x18.pending x18.complete x18.res x18.item x18.n x18.x x18.y x18.z_ x18.own)) (idx := who15) (j := 0) Try.underlying33 rfl (lenNStepsProcess bs16) (i := 3) rfl (.pl rfl) (ix_get (hx18)) rfl rfl) rfl ?_
      refine WX.pure 5 #[true, true, true, true, true, true, false, false, false, false, false, false] rfl (by kernel_rfl) (fun _ _ => Y.fieldAddr0 (off := 2) (ft := 3) Try.underlying83 rfl cells3 (.pl rfl)) rfl ?_
      refine WX.take 6 #[true, true, true, true, true, true, true, false, false, false, false, false] (fun wz hw => St.tail [] hw) rfl (by kernel_rfl) (Y.loadB (v := .int .i64 x19.arg) Try.underlying3 rfl (.pl rfl) (i := 1) rfl (rfl)) rfl ?_
      refine WX.pure 7 #[true, true, true, true, true, true, true, true, false, false, false, false] rfl (by kernel_rfl) (fun _ _ => Y.build (cs := ((encStepsNode bs16) (StepsNode.mk x19.arg (-1))).toArray) shape75 (.cons (.pl rfl) (.nil)) (one_parts ⟨rfl, trivial⟩) rfl) rfl ?_
      refine WX.one 8 #[true, true, true, true, true, true, true, true, true, false, false, false] (fun wz hw => St.tail [] hw) rfl (by kernel_rfl) (WO.boxA (.pl rfl) rfl fun b25 => ?_)
      refine WX.pure 9 #[true, true, true, true, true, true, true, true, true, true, false, false] rfl (by kernel_rfl) (fun _ _ => Y.build (cs := (Value.slice (hd10.getD who15.toNat ((none, 0) : Hd)).1 (x18.program).length (hd10.getD who15.toNat ((none, 0) : Hd)).2 :: (Value.bool true :: (Value.bool false :: (Value.int .i64 0 :: (Value.int .i64 1 :: (Value.int .i64 0 :: (Value.pointer none :: (Value.pointer none :: (Value.pointer none :: (Value.pointer (some ⟨b25, 0, none⟩) :: [])))))))))).toArray) shape80 (.cons (.pl rfl) (.cons (.pl rfl) (.cons (.pl rfl) (.cons (.pl rfl) (.nil))))) (one_parts ⟨rfl, ⟨rfl, ⟨rfl, ⟨rfl, trivial⟩⟩⟩⟩) rfl) rfl ?_
      refine WX.pure 10 #[true, true, true, true, true, true, true, true, true, true, true, false] rfl (by kernel_rfl) (fun _ _ => Y.nilCheck (.pl rfl)) rfl ?_
      obtain ⟨hk26, hF⟩ := ckh hF
      obtain ⟨hk27, hF⟩ := ckh hF
      obtain ⟨hk28, hF⟩ := ckh hF
      obtain ⟨hk29, hF⟩ := ckh hF
      obtain ⟨hk30, hF⟩ := ckh hF
      refine WX.stop #[true, true, true, true, true, true, true, true, true, true, true, true] (fun wz hw => St.tail [_] hw) rfl (by kernel_rfl) (WO.entO (.trans (.pickN 7 [0, 6, 1, 2, 3, 4, 5] rfl) (.heapAdd (enc := (encStepsNode bs16)) (enc' := (encStepsNode (bs16 ++ [b25]))) (a := (StepsNode.mk x19.arg (-1))) (R' := ([cR encEvent 4 (some ⟨b21, 0, none⟩) (([(Event.mk who15 0 x19.kind x19.arg)] : List Event)).length 31 ([(Event.mk who15 0 x19.kind x19.arg)] : List Event), cBx b20 83 (encAsk x19), cBx b1 78 (Value.int .i64 algo2 :: (Value.int .i64 n3 :: (Value.pointer (pt (bs16 ++ [b25]) top4) :: (Value.pointer (pt (bs16 ++ [b25]) head5) :: (Value.pointer (pt (bs16 ++ [b25]) tail6) :: (Value.slice A7 (people9).length c8 :: (Value.slice A22 ((events13 ++ ([(Event.mk who15 0 x19.kind x19.arg)] : List Event))).length c23 :: (Value.int .i64 restarts14 :: [])))))))), cN (encNStepsProcess (bs16 ++ [b25])) (innNStepsProcess w0) 10 A7 c8 80 hd10 people9, cR encEvent 4 A22 c23 31 (events13 ++ ([(Event.mk who15 0 x19.kind x19.arg)] : List Event))] ++ T)) hhp11 (fun x hx => growStepsNode hhp11 b25 (vp_all (hk26) x hx)) rfl (by simp only [pt_grow hhp11 (hk27) b25, pt_grow hhp11 (hk28) b25, pt_grow hhp11 (hk29) b25, cN_cong (enc := encNStepsProcess (bs16 ++ [b25])) (enc' := (encNStepsProcess bs16)) (xs := people9) (fun h x hx => (growStepsProcess hhp11 b25 h (vp_all (hk30) x hx)).symm)]; rfl))) (WO.storeNA0 (enc := (encNStepsProcess (bs16 ++ [b25]))) (inn := (innNStepsProcess w0)) (h0 := ((none, 0) : Hd)) (ds := (Value.slice (hd10.getD who15.toNat ((none, 0) : Hd)).1 (x18.program).length (hd10.getD who15.toNat ((none, 0) : Hd)).2 :: (Value.bool true :: (Value.bool false :: (Value.int .i64 0 :: (Value.int .i64 1 :: (Value.int .i64 0 :: (Value.pointer none :: (Value.pointer none :: (Value.pointer none :: (Value.pointer (some ⟨b25, 0, none⟩) :: []))))))))))) (a := (StepsProcess.mk x18.program x18.pending x18.complete x18.res x18.item x18.n x18.x x18.y x18.z_ x18.own)) (a' := (StepsProcess.mk x18.program true false 0 1 0 (-1) (-1) (-1) ((nodes17).length : Int))) (idx := who15) (j := 0) cells80 (.pl rfl) (.pl rfl) rfl (one_cons rfl (one_cons rfl (one_cons rfl (one_cons rfl (one_cons rfl (one_cons rfl (one_cons rfl (one_cons rfl (one_cons rfl (one_cons rfl one_nil)))))))))) (lenNStepsProcess (bs16 ++ [b25])) (i := 4) rfl (ix_get (hx18)) rfl (by decide) (by simp only [encNStepsProcess, pt_last hhp11]; rfl) rfl ?_))
      refine WA.done (by kernel_rfl) ?_
      obtain rfl := Option.some.inj hF
      refine W.endV (fn := Try.f32) (vs := []) Try.results32 trivial (fun _ _ h => h) (fun wz hw => ?_)
      exact hR _ _ ⟨((bs16 ++ [b25]), hd10, A22, c23), (by simp), rfl, (St.cong (L := ([cBx b1 78 (Value.int .i64 algo2 :: (Value.int .i64 n3 :: (Value.pointer (pt (bs16 ++ [b25]) top4) :: (Value.pointer (pt (bs16 ++ [b25]) head5) :: (Value.pointer (pt (bs16 ++ [b25]) tail6) :: (Value.slice A7 (people9).length c8 :: (Value.slice A22 ((events13 ++ ([(Event.mk who15 0 x19.kind x19.arg)] : List Event))).length c23 :: (Value.int .i64 restarts14 :: [])))))))), cHp (encStepsNode (bs16 ++ [b25])) 75 (bs16 ++ [b25]) (nodes17 ++ [(StepsNode.mk x19.arg (-1))]), cN (encNStepsProcess (bs16 ++ [b25])) (innNStepsProcess w0) 10 A7 c8 80 hd10 (people9.set who15.toNat (StepsProcess.mk x18.program true false 0 1 0 (-1) (-1) (-1) ((nodes17).length : Int))), cR encEvent 4 A22 c23 31 (events13 ++ ([(Event.mk who15 0 x19.kind x19.arg)] : List Event))] ++ T)) (hw.pickK 6 [4, 1, 0, 5] rfl) (by simp only [List.length_set, List.nil_append, List.cons_append]))⟩
    · replace hF := cneg hC6 hF
      refine W.seqR fun Q13 hQ13 => ?_
      refine WL.q (Y.move (.pl rfl)) rfl ?_
      refine WL.q (Y.nilCheck (.pl rfl)) rfl ?_
      refine WL.q (Y.nField (off := 2) (ft := 4) Try.underlying80 rfl cells4 (i' := 1) rfl (ix_lt (hx18)) (.pl rfl)) rfl ?_
      refine WL.q (Y.loadN (enc := (encNStepsProcess bs16)) (h0 := ((none, 0) : Hd)) (v := .bool x18.complete) (a := (StepsProcess.mk x18.program x18.pending x18.complete x18.res x18.item x18.n x18.x x18.y x18.z_ x18.own)) (idx := who15) (j := 2) Try.underlying4 rfl (lenNStepsProcess bs16) (i := 1) rfl (.pl rfl) (ix_get (hx18)) rfl rfl) rfl ?_
      refine WL.q (Y.assign (.pl rfl)) rfl ?_
      refine WL.next hQ13 (.cons (i := 0) rfl (.cons (i := 1) rfl (.cons (i := 4) rfl (.cons (i := 67) rfl (.nil))))) ?_
      refine W.cond (.pl rfl) (fun hC14 => ?_) (fun hC14 => ?_)
      · replace hF := cpos hC14 hF
        refine W.know (fun wz hw => n_okA0 hw (i := 1) rfl) (fun hok16 => ?_)
        refine W.seqX 12 (by kernel_rfl) fun K15 hK15 => ?_
        refine WX.pure 0 #[true, false, false, false, false, false, false, false, false, false, false, false, false, false, false, false] rfl (by kernel_rfl) (fun _ _ => Y.move (.pl rfl)) rfl ?_
        refine WX.pure 1 #[true, true, false, false, false, false, false, false, false, false, false, false, false, false, false, false] rfl (by kernel_rfl) (fun _ _ => Y.move (.pl rfl)) rfl ?_
        refine WX.pure 2 #[true, true, true, false, false, false, false, false, false, false, false, false, false, false, false, false] rfl (by kernel_rfl) (fun _ _ => Y.nilCheck (.pl rfl)) rfl ?_
        refine WX.pure 3 #[true, true, true, true, false, false, false, false, false, false, false, false, false, false, false, false] rfl (by kernel_rfl) (fun _ _ => Y.fieldAddr0 (off := 6) (ft := 24) Try.underlying78 rfl cells24 (.pl rfl)) rfl ?_
        refine WX.take 4 #[true, true, true, true, true, false, false, false, false, false, false, false, false, false, false, false] (fun wz hw => St.tail [] hw) rfl (by kernel_rfl) (Y.loadB (v := .slice A11 (events13).length c12) Try.underlying24 rfl (.pl rfl) (i := 0) rfl (rfl)) rfl ?_
        refine WX.pure 5 #[true, true, true, true, true, true, false, false, false, false, false, false, false, false, false, false] rfl (by kernel_rfl) (fun _ _ => Y.move (.pl rfl)) rfl ?_
        refine WX.pure 6 #[true, true, true, true, true, true, true, false, false, false, false, false, false, false, false, false] rfl (by kernel_rfl) (fun _ _ => Y.move (.pl rfl)) rfl ?_
        refine WX.pure 7 #[true, true, true, true, true, true, true, true, false, false, false, false, false, false, false, false] rfl (by kernel_rfl) (fun _ _ => Y.nilCheck (.pl rfl)) rfl ?_
        refine WX.take 8 #[true, true, true, true, true, true, true, true, true, false, false, false, false, false, false, false] (fun wz hw => St.tail [] hw) rfl (by kernel_rfl) (Y.okField (off := 3) (ft := 3) Try.underlying80 rfl cells3 hok16 (by have := (ix_lt (hx18)); omega) (.pl rfl)) rfl ?_
        refine WX.take 9 #[true, true, true, true, true, true, true, true, true, true, false, false, false, false, false, false] (fun wz hw => St.tail [] hw) rfl (by kernel_rfl) (Y.loadN (enc := (encNStepsProcess bs16)) (h0 := ((none, 0) : Hd)) (v := .int .i64 x18.res) (a := (StepsProcess.mk x18.program x18.pending x18.complete x18.res x18.item x18.n x18.x x18.y x18.z_ x18.own)) (idx := who15) (j := 3) Try.underlying3 rfl (lenNStepsProcess bs16) (i := 1) rfl (.pl rfl) (ix_get (hx18)) rfl rfl) rfl ?_
        refine WX.pure 10 #[true, true, true, true, true, true, true, true, true, true, true, false, false, false, false, false] rfl (by kernel_rfl) (fun _ _ => Y.build (cs := (encEvent (Event.mk who15 0 0 x18.res)).toArray) shape31 (.cons (.pl rfl) (.cons (.pl rfl) (.cons (.pl rfl) (.nil)))) (one_parts ⟨rfl, ⟨rfl, ⟨rfl, trivial⟩⟩⟩) rfl) rfl ?_
        refine WX.one 11 #[true, true, true, true, true, true, true, true, true, true, true, true, false, false, false, false] (fun wz hw => St.tail [] hw) rfl (by kernel_rfl) (WO.bsliceC (enc := encEvent) (ys := ([(Event.mk who15 0 0 x18.res)] : List Event)) Try.underlying24 bz31 (.cons (.pl rfl) (.nil)) rfl lenEvent rfl rfl (by decide) (by decide) rfl fun b31 => ?_)
        obtain ⟨hk34, hF⟩ := ckh hF
        refine WX.stop #[true, true, true, true, true, true, true, true, true, true, true, true, true, false, false, false] (fun wz hw => St.tail [_] hw) rfl (by kernel_rfl) (WO.appendC (enc := encEvent) Try.underlying24 ap31 lenEvent oneEvent (.pl rfl) rfl (.pl rfl) (i := 3) rfl (m2 := 0) rfl (hk34) rfl fun A32 c33 => ?_)
        refine WA.take 13 #[true, true, true, true, true, true, true, true, true, true, true, true, true, true, false, false] rfl (by kernel_rfl) (fun _ _ => Y.nilCheck (.pl rfl)) rfl ?_
        refine WA.take 14 #[true, true, true, true, true, true, true, true, true, true, true, true, true, true, true, false] rfl (by kernel_rfl) (fun _ _ => Y.fieldAddr0 (off := 6) (ft := 24) Try.underlying78 rfl cells24 (.pl rfl)) rfl ?_
        refine WA.branch [15] (by kernel_rfl) ⟨?_, trivial⟩
        refine WI.step #[true, true, true, true, true, true, true, true, true, true, true, true, true, true, true, true] rfl rfl (WO.storeB (cs' := (Value.int .i64 algo2 :: (Value.int .i64 n3 :: (Value.pointer (pt bs16 top4) :: (Value.pointer (pt bs16 head5) :: (Value.pointer (pt bs16 tail6) :: (Value.slice A7 (people9).length c8 :: (Value.slice A32 ((events13 ++ ([(Event.mk who15 0 0 x18.res)] : List Event))).length c33 :: (Value.int .i64 restarts14 :: []))))))))) cells24 (.pl rfl) (.pl rfl) rfl (i := 1) rfl (ltl (m := 8) (by decide) rfl) (rfl) ?_)
        refine WA.done (by kernel_rfl) ?_
        refine KK.next hK15 (.cons (i := 4) rfl (.nil)) ?_
        refine W.seqR fun Q17 hQ17 => ?_
        refine WL.q (Y.move (.pl rfl)) rfl ?_
        refine WL.q (Y.nilCheck (.pl rfl)) rfl ?_
        refine WL.q (Y.nField (off := 1) (ft := 4) Try.underlying80 rfl cells4 (i' := 2) rfl (ix_lt (hx18)) (.pl rfl)) rfl ?_
        refine WL.step (WO.storeN0 (enc := (encNStepsProcess bs16)) (inn := (innNStepsProcess w0)) (h0 := ((none, 0) : Hd)) (a := (StepsProcess.mk x18.program x18.pending x18.complete x18.res x18.item x18.n x18.x x18.y x18.z_ x18.own)) (a' := (StepsProcess.mk x18.program false x18.complete x18.res x18.item x18.n x18.x x18.y x18.z_ x18.own)) (idx := who15) (j := 1) cells4 (.pl rfl) (.pl rfl) rfl (lenNStepsProcess bs16) (i := 2) rfl (ix_get (hx18)) rfl (by decide) rfl rfl ?_)
        refine WL.next hQ17 (.cons (i := 4) rfl (.nil)) ?_
        refine W.know (fun wz hwz => bor_of (h0 := ((none, 0) : Hd)) (q := fun h a => SlIn encAsk 3 w0 (.slice h.1 a.program.length h.2) a.program) hwz (i := 0) rfl (fun _ _ => .head _)) (fun hbor19 => ?_)
        refine W.reg ?_
        refine WL.q (Y.move (.pl rfl)) rfl ?_
        refine WL.q (Y.move (.pl rfl)) rfl ?_
        refine WL.q (Y.nilCheck (.pl rfl)) rfl ?_
        refine WL.q (Y.nField (off := 0) (ft := 33) Try.underlying80 rfl cells33 (i' := 0) rfl (⟨(ix_lt (hx18)).1, by simpa only [List.length_set] using (ix_lt (hx18)).2⟩) (.pl rfl)) rfl ?_
        refine WL.q (Y.loadN (enc := (encNStepsProcess bs16)) (h0 := ((none, 0) : Hd)) (v := .slice (hd10.getD who15.toNat ((none, 0) : Hd)).1 (x18.program).length (hd10.getD who15.toNat ((none, 0) : Hd)).2) (a := (StepsProcess.mk x18.program false x18.complete x18.res x18.item x18.n x18.x x18.y x18.z_ x18.own)) (idx := who15) (j := 0) Try.underlying33 rfl (lenNStepsProcess bs16) (i := 0) rfl (.pl rfl) (setget (ix_lt (hx18))) rfl rfl) rfl ?_
        obtain ⟨hk35, hF⟩ := ckh hF
        refine WL.q (Y.slice1 (xs := x18.program) Try.underlying33 cells83 (.pl rfl) rfl ((hbor2 _ _ (ix_get (hx18)))).cap_le (.pl rfl) (hk35)) rfl ?_
        refine WL.q (Y.nilCheck (.pl rfl)) rfl ?_
        refine WL.q (Y.nField (off := 0) (ft := 33) Try.underlying80 rfl cells33 (i' := 0) rfl (⟨(ix_lt (hx18)).1, by simpa only [List.length_set] using (ix_lt (hx18)).2⟩) (.pl rfl)) rfl ?_
        refine WL.step (WO.storeN (enc := (encNStepsProcess bs16)) (inn := (innNStepsProcess w0)) (h0 := ((none, 0) : Hd)) (h' := (((subA (hd10.getD who15.toNat ((none, 0) : Hd)).1 (hd10.getD who15.toNat ((none, 0) : Hd)).2 (1 : Int).toNat 3), ((hd10.getD who15.toNat ((none, 0) : Hd)).2 - (1 : Int).toNat)) : Hd)) (a := (StepsProcess.mk x18.program false x18.complete x18.res x18.item x18.n x18.x x18.y x18.z_ x18.own)) (a' := (StepsProcess.mk (x18.program.drop (1 : Int).toNat) false x18.complete x18.res x18.item x18.n x18.x x18.y x18.z_ x18.own)) (idx := who15) (j := 0) cells33 (.pl rfl) (.pl rfl) rfl (lenNStepsProcess bs16) (i := 0) rfl (setget (ix_lt (hx18))) rfl (by decide) rfl (.trans (.drop (M := (innNStepsProcess w0) _ _)) (.fact ((SlIn.sub1 (hbor2 _ _ (ix_get (hx18))) (slB_nat (hk35)).1)))) ?_)
        refine WL.nil ?_
        obtain rfl := Option.some.inj hF
        refine W.endV (fn := Try.f32) (vs := []) Try.results32 trivial (fun _ _ h => h) (fun wz hw => ?_)
        exact hR _ _ ⟨(bs16, (hd10.set who15.toNat (((subA (hd10.getD who15.toNat ((none, 0) : Hd)).1 (hd10.getD who15.toNat ((none, 0) : Hd)).2 (1 : Int).toNat 3), ((hd10.getD who15.toNat ((none, 0) : Hd)).2 - (1 : Int).toNat)) : Hd)), A32, c33), (by simp), rfl, (St.cong (L := ([cBx b1 78 (Value.int .i64 algo2 :: (Value.int .i64 n3 :: (Value.pointer (pt bs16 top4) :: (Value.pointer (pt bs16 head5) :: (Value.pointer (pt bs16 tail6) :: (Value.slice A7 (people9).length c8 :: (Value.slice A32 ((events13 ++ ([(Event.mk who15 0 0 x18.res)] : List Event))).length c33 :: (Value.int .i64 restarts14 :: [])))))))), cHp (encStepsNode bs16) 75 bs16 nodes17, cN (encNStepsProcess bs16) (innNStepsProcess w0) 10 A7 c8 80 (hd10.set who15.toNat (((subA (hd10.getD who15.toNat ((none, 0) : Hd)).1 (hd10.getD who15.toNat ((none, 0) : Hd)).2 (1 : Int).toNat 3), ((hd10.getD who15.toNat ((none, 0) : Hd)).2 - (1 : Int).toNat)) : Hd)) ((people9.set who15.toNat (StepsProcess.mk x18.program false x18.complete x18.res x18.item x18.n x18.x x18.y x18.z_ x18.own)).set who15.toNat (StepsProcess.mk (x18.program.drop (1 : Int).toNat) false x18.complete x18.res x18.item x18.n x18.x x18.y x18.z_ x18.own)), cR encEvent 4 A32 c33 31 (events13 ++ ([(Event.mk who15 0 0 x18.res)] : List Event))] ++ T)) (hw.pickK 5 [2, 4, 0, 3] rfl) (by simp only [List.length_set, List.nil_append, List.cons_append]))⟩
      · replace hF := cneg hC14 hF
        refine W.reg ?_
        refine WL.q (Y.move (.pl rfl)) rfl ?_
        refine WL.q (Y.move (.pl rfl)) rfl ?_
        obtain ⟨r36, hr36, hF⟩ := bnd hF
        refine WL.step (WO.call (γ := Unit) (fun g => .tuple #[]) (fun g => ([cBx b1 78 (Value.int .i64 algo2 :: (Value.int .i64 r36.1 :: (Value.pointer (pt bs16 r36.2.2.1) :: (Value.pointer (pt bs16 r36.2.2.2.1) :: (Value.pointer (pt bs16 r36.2.2.2.2.1) :: (Value.slice A7 (r36.2.2.2.2.2.1).length c8 :: (Value.slice A11 (events13).length c12 :: (Value.int .i64 r36.2.2.2.2.2.2 :: [])))))))), cHp (encStepsNode bs16) 75 bs16 r36.2.1, cN (encNStepsProcess bs16) (innNStepsProcess w0) 10 A7 c8 80 hd10 r36.2.2.2.2.2.1, cR encEvent 4 A11 c12 31 events13] ++ T)) (fun g => (r36.2.2.2.2.2.1).length = (people9).length) isGo59 (.cons (.pl rfl) (.cons (.pl rfl) (.nil))) rfl (fun wz hw => steps_machine_step_ok (T := ([] ++ T)) (hr36) (hw.pickK 4 [0, 1, 2, 3] rfl) ) ?_)
        rintro _ hl37
        refine WL.nil ?_
        obtain rfl := Option.some.inj hF
        refine W.endV (fn := Try.f32) (vs := []) Try.results32 trivial (fun _ _ h => h) (fun wz hw => ?_)
        exact hR _ _ ⟨(bs16, hd10, A11, c12), (by simp [hl37]), rfl, (hw.pickK 4 [0, 1, 2, 3] rfl)⟩

def steps_Play_L5 (N : Nat) (people2 : (List (List Ask))) : ((List StepsProcess) × Int) → Option (((List StepsProcess) × Int) ⊕ (List StepsProcess))
  | (people25, v27) =>
    cond (decide (v27 < ((people2).length : Int)))
      (bd (ix people2 v27) fun (x28 : (List Ask)) =>
      ck (limB 88 ((people25).length + (([(StepsProcess.mk x28 false false 0 0 0 (-1) (-1) (-1) (-1))] : List StepsProcess)).length)) <|
      ck (ok64 (v27 + 1)) <|
      some (.inl ((people25 ++ ([(StepsProcess.mk x28 false false 0 0 0 (-1) (-1) (-1) (-1))] : List StepsProcess)), (v27 + 1))))
      (some (.inr people25))

def steps_Play_L7 (N : Nat) (turns7 : (List Int)) (algo1 : Int) : (Int × (List StepsNode) × Int × Int × Int × (List StepsProcess) × (List Event) × Int × Int) → Option ((Int × (List StepsNode) × Int × Int × Int × (List StepsProcess) × (List Event) × Int × Int) ⊕ (Int × (List StepsNode) × Int × Int × Int × (List StepsProcess) × (List Event) × Int))
  | (n46, nodes48, top49, head50, tail51, people52, events56, restarts57, v58) =>
    cond (decide (v58 < ((turns7).length : Int)))
      (bd (ix turns7 v58) fun (x59 : Int) =>
      bd (steps_machine_turn N algo1 n46 top49 head50 tail51 people52 events56 restarts57 x59 nodes48) fun (r60 : (Int × (List StepsNode) × Int × Int × Int × (List StepsProcess) × (List Event) × Int)) =>
      ck (ok64 (v58 + 1)) <|
      some (.inl (r60.1, r60.2.1, r60.2.2.1, r60.2.2.2.1, r60.2.2.2.2.1, r60.2.2.2.2.2.1, r60.2.2.2.2.2.2.1, r60.2.2.2.2.2.2.2, (v58 + 1))))
      (some (.inr (n46, nodes48, top49, head50, tail51, people52, events56, restarts57)))

def steps_Play (N : Nat) (algo1 : Int) (people2 : (List (List Ask))) (turns7 : (List Int)) : Option ((List Event) × Int × Int) :=
  bd (steps_Type N algo1) fun (r12 : Int) =>
  cond (decide (r12 = 0))
    (some ([], 0, 1))
    (bd (steps_Type N algo1) fun (r13 : Int) =>
    bd (threads_Check N ([r13] : List Int) people2) fun (r15 : Int) =>
    cond (!(decide (r15 = 0)))
      (some ([], 0, r15))
      (bd (threads_Turns N ((people2).length : Int) 300 turns7) fun (r16 : Int) =>
      cond (!(decide (r16 = 0)))
        (some ([], 0, r16))
        (bd (α := (List StepsProcess)) (iter (steps_Play_L5 N people2) N ([], 0)) <|
        fun (people21 : (List StepsProcess)) => 
          bd (α := (Int × (List StepsNode) × Int × Int × Int × (List StepsProcess) × (List Event) × Int)) (iter (steps_Play_L7 N turns7 algo1) N (0, [(StepsNode.mk 0 (-1))], (-1), 0, 0, people21, [], 0, 0)) <|
          fun (n34, nodes36, top37, head38, tail39, people40, events44, restarts45) => 
            some (events44, restarts45, 0))))

theorem steps_Play_ok {N : Nat} {algo1 : Int} {people2 : (List (List Ask))} {turns7 : (List Int)} {A3 : Option Addr} {c4 : Nat} {hd5 : List Hd} {res : ((List Event) × Int × Int)} (hF : steps_Play N algo1 people2 turns7 = some res) (w : World) (hs6 : SlNN encAsk 3 w A3 c4 hd5 people2) {v11 : Value} (hs10 : SlIn (eI .i64) 1 w v11 turns7) :
    Made Try.prog 10 [.int .i64 algo1, .slice A3 (people2).length c4, v11] w (fun g : (Option Addr × Nat) => .tuple #[.slice g.1 (res.1).length g.2, .int .i64 res.2.1, .int .i64 res.2.2]) (fun g => [cR encEvent 4 g.1 g.2 31 res.1]) (fun g => True) := by
  obtain ⟨A8, c9, rfl, hcc9, hs10⟩ := hs10.form
  refine W.enter (n := 82) Try.func10 rfl rfl Sub.refl (by simp) (St.start w) fun R hR => ?_
  unfold steps_Play at hF
  refine W.seqR fun Q1 hQ1 => ?_
  refine WL.q (Y.assign (.pl rfl)) rfl ?_
  refine WL.q (Y.assign (.pl rfl)) rfl ?_
  refine WL.q (Y.assign (.pl rfl)) rfl ?_
  refine WL.next hQ1 (.cons (i := 0) rfl (.cons (i := 1) rfl (.cons (i := 2) rfl (.nil)))) ?_
  refine W.seq fun K2 hK2 => ?_
  refine W.seqR fun Q3 hQ3 => ?_
  refine WL.q (Y.move (.pl rfl)) rfl ?_
  obtain ⟨r12, hr12, hF⟩ := bnd hF
  refine WL.step (WO.callP isGo15 (.cons (.pl rfl) (.nil)) rfl (fun wz hw => steps_Type_ok (hr12) wz ) ?_)
  refine WL.q (Y.eql (.pl rfl) (.pl rfl)) rfl ?_
  refine WL.next hQ3 (.cons (i := 0) rfl (.cons (i := 1) rfl (.cons (i := 2) rfl (.cons (i := 18) rfl (.nil))))) ?_
  refine W.cond (.pl rfl) (fun hC4 => ?_) (fun hC4 => ?_)
  · replace hF := cpos hC4 hF
    refine W.seqR fun Q5 hQ5 => ?_
    refine WL.q (Y.assign (.pl rfl)) rfl ?_
    refine WL.q (Y.assign (.pl rfl)) rfl ?_
    refine WL.q (Y.assign (.pl rfl)) rfl ?_
    refine WL.next hQ5 (.cons (i := 6) rfl (.cons (i := 7) rfl (.cons (i := 8) rfl (.nil)))) ?_
    obtain rfl := Option.some.inj hF
    refine W.retV (fn := Try.f10) (vs := [.slice none 0 0, .int .i64 0, .int .i64 1]) Try.results10 ⟨.tmp rfl, ⟨.tmp rfl, ⟨.tmp rfl, trivial⟩⟩⟩ (fun _ _ h => h) (fun wz hw => ?_)
    exact hR _ _ ⟨(none, 0), trivial, rfl, ((St.nilR (hw.pick [] rfl) encEvent 4 31).pick [0] rfl)⟩
  · replace hF := cneg hC4 hF
    refine W.skip ?_
    refine W.go hK2 (.cons (i := 0) rfl (.cons (i := 1) rfl (.cons (i := 2) rfl (.nil)))) ?_
    refine W.seq fun K6 hK6 => ?_
    refine W.seqR fun Q7 hQ7 => ?_
    refine WL.q (Y.move (.pl rfl)) rfl ?_
    obtain ⟨r13, hr13, hF⟩ := bnd hF
    refine WL.step (WO.callP isGo15 (.cons (.pl rfl) (.nil)) rfl (fun wz hw => steps_Type_ok (hr13) wz ) ?_)
    refine WL.step (WO.bsliceC (enc := (eI .i64)) (ys := ([r13] : List Int)) Try.underlying23 bz3 (.cons (.pl rfl) (.nil)) rfl (fun _ => rfl) rfl rfl (by decide) (by decide) rfl fun b14 => ?_)
    refine WL.q (Y.move (.pl rfl)) rfl ?_
    obtain ⟨r15, hr15, hF⟩ := bnd hF
    refine WL.step (WO.callP isGo30 (.cons (.pl rfl) (.cons (.pl rfl) (.nil))) rfl (fun wz hw => threads_Check_ok (hr15) wz (SlIn.ofRow (fun _ => rfl) hw (i := 0) rfl) (hs6.mono hw)) ?_)
    refine WL.q (Y.assign (.pl rfl)) rfl ?_
    refine WL.next hQ7 (.cons (i := 0) rfl (.cons (i := 1) rfl (.cons (i := 2) rfl (.cons (i := 9) rfl (.nil))))) ?_
    refine W.seqR fun Q8 hQ8 => ?_
    refine WL.q (Y.move (.pl rfl)) rfl ?_
    refine WL.q (Y.neq (.pl rfl) (.pl rfl)) rfl ?_
    refine WL.next hQ8 (.cons (i := 0) rfl (.cons (i := 1) rfl (.cons (i := 2) rfl (.cons (i := 9) rfl (.cons (i := 25) rfl (.nil)))))) ?_
    refine W.cond (.pl rfl) (fun hC9 => ?_) (fun hC9 => ?_)
    · replace hF := cpos hC9 hF
      refine W.seqR fun Q10 hQ10 => ?_
      refine WL.q (Y.move (.pl rfl)) rfl ?_
      refine WL.q (Y.assign (.pl rfl)) rfl ?_
      refine WL.q (Y.assign (.pl rfl)) rfl ?_
      refine WL.q (Y.assign (.pl rfl)) rfl ?_
      refine WL.next hQ10 (.cons (i := 6) rfl (.cons (i := 7) rfl (.cons (i := 8) rfl (.nil)))) ?_
      obtain rfl := Option.some.inj hF
      refine W.retV (fn := Try.f10) (vs := [.slice none 0 0, .int .i64 0, .int .i64 r15]) Try.results10 ⟨.tmp rfl, ⟨.tmp rfl, ⟨.tmp rfl, trivial⟩⟩⟩ (fun _ _ h => h) (fun wz hw => ?_)
      exact hR _ _ ⟨(none, 0), trivial, rfl, ((St.nilR (hw.pick [] rfl) encEvent 4 31).pick [0] rfl)⟩
    · replace hF := cneg hC9 hF
      refine W.skip ?_
      refine W.go hK6 (.cons (i := 0) rfl (.cons (i := 1) rfl (.cons (i := 2) rfl (.nil)))) ?_
      refine W.seq fun K11 hK11 => ?_
      refine W.seqR fun Q12 hQ12 => ?_
      refine WL.q (Y.move (.pl rfl)) rfl ?_
      refine WL.q (Y.len Try.underlying22 (.pl rfl)) rfl ?_
      refine WL.q (Y.move (.pl rfl)) rfl ?_
      obtain ⟨r16, hr16, hF⟩ := bnd hF
      refine WL.step (WO.callP isGo31 (.cons (.pl rfl) (.cons (.pl rfl) (.cons (.pl rfl) (.nil)))) rfl (fun wz hw => threads_Turns_ok (hr16) wz (hs10.mono hw)) ?_)
      refine WL.q (Y.assign (.pl rfl)) rfl ?_
      refine WL.next hQ12 (.cons (i := 0) rfl (.cons (i := 1) rfl (.cons (i := 2) rfl (.cons (i := 10) rfl (.nil))))) ?_
      refine W.seqR fun Q13 hQ13 => ?_
      refine WL.q (Y.move (.pl rfl)) rfl ?_
      refine WL.q (Y.neq (.pl rfl) (.pl rfl)) rfl ?_
      refine WL.next hQ13 (.cons (i := 0) rfl (.cons (i := 1) rfl (.cons (i := 2) rfl (.cons (i := 10) rfl (.cons (i := 32) rfl (.nil)))))) ?_
      refine W.cond (.pl rfl) (fun hC14 => ?_) (fun hC14 => ?_)
      · replace hF := cpos hC14 hF
        refine W.seqR fun Q15 hQ15 => ?_
        refine WL.q (Y.move (.pl rfl)) rfl ?_
        refine WL.q (Y.assign (.pl rfl)) rfl ?_
        refine WL.q (Y.assign (.pl rfl)) rfl ?_
        refine WL.q (Y.assign (.pl rfl)) rfl ?_
        refine WL.next hQ15 (.cons (i := 6) rfl (.cons (i := 7) rfl (.cons (i := 8) rfl (.nil)))) ?_
        obtain rfl := Option.some.inj hF
        refine W.retV (fn := Try.f10) (vs := [.slice none 0 0, .int .i64 0, .int .i64 r16]) Try.results10 ⟨.tmp rfl, ⟨.tmp rfl, ⟨.tmp rfl, trivial⟩⟩⟩ (fun _ _ h => h) (fun wz hw => ?_)
        exact hR _ _ ⟨(none, 0), trivial, rfl, ((St.nilR (hw.pick [] rfl) encEvent 4 31).pick [0] rfl)⟩
      · replace hF := cneg hC14 hF
        refine W.skip ?_
        refine W.go hK11 (.cons (i := 0) rfl (.cons (i := 1) rfl (.cons (i := 2) rfl (.nil)))) ?_
        refine W.seqR fun Q16 hQ16 => ?_
        refine WL.q (Y.move (.pl rfl)) rfl ?_
        refine WL.q (Y.build (cs := ((encStepsNode []) (StepsNode.mk 0 (-1))).toArray) shape75 (.nil) (one_parts trivial) rfl) rfl ?_
        refine WL.step (WO.boxA (.pl rfl) rfl fun b17 => ?_)
        refine WL.q (Y.build (cs := (Value.int .i64 algo1 :: (Value.int .i64 0 :: (Value.pointer none :: (Value.pointer (some ⟨b17, 0, none⟩) :: (Value.pointer none :: (Value.slice none 0 0 :: (Value.slice none 0 0 :: (Value.int .i64 0 :: [])))))))).toArray) shape78 (.cons (.pl rfl) (.cons (.pl rfl) (.nil))) (one_parts ⟨rfl, ⟨rfl, trivial⟩⟩) rfl) rfl ?_
        refine WL.step (WO.boxA (.pl rfl) rfl fun b18 => ?_)
        refine WL.q (Y.assign (.pl rfl)) rfl ?_
        refine WL.next hQ16 (.cons (i := 1) rfl (.cons (i := 2) rfl (.cons (i := 11) rfl (.nil)))) ?_
        refine W.ent (.trans (.pick [1, 0, 2] rfl) (.heap1 (enc := (encStepsNode [b17])) (a := (StepsNode.mk 0 (-1))) rfl rfl)) ?_
        refine W.seqR fun Q17 hQ17 => ?_
        refine WL.q (Y.move (.pl rfl)) rfl ?_
        refine WL.q (Y.move (.pl rfl)) rfl ?_
        refine WL.q (Y.nilCheck (.pl rfl)) rfl ?_
        refine WL.q (Y.fieldAddr0 (off := 3) (ft := 73) Try.underlying78 rfl cells73 (.pl rfl)) rfl ?_
        refine WL.q (Y.loadB (v := .pointer (pt [b17] 0)) Try.underlying73 rfl (.pl rfl) (i := 1) rfl (rfl)) rfl ?_
        refine WL.q (Y.nilCheck (.pl rfl)) rfl ?_
        refine WL.q (Y.fieldAddr0 (off := 4) (ft := 73) Try.underlying78 rfl cells73 (.pl rfl)) rfl ?_
        refine WL.step (WO.storeB (cs' := (Value.int .i64 algo1 :: (Value.int .i64 0 :: (Value.pointer none :: (Value.pointer (pt [b17] 0) :: (Value.pointer (pt [b17] 0) :: (Value.slice none 0 0 :: (Value.slice none 0 0 :: (Value.int .i64 0 :: []))))))))) cells73 (.pl rfl) (.pl rfl) rfl (i := 1) rfl (ltl (m := 8) (by decide) rfl) (rfl) ?_)
        refine WL.next hQ17 (.cons (i := 1) rfl (.cons (i := 2) rfl (.cons (i := 11) rfl (.nil)))) ?_
        obtain ⟨o18, hF18, hF⟩ := bnd hF
        refine W.join4 (Em := fun (people21 : (List StepsProcess)) (A19 : Option Addr) (c20 : Nat) (hd22 : List Hd) => []) (M := fun people21 A19 c20 hd22 => [cBx b18 78 (Value.int .i64 algo1 :: (Value.int .i64 0 :: (Value.pointer none :: (Value.pointer (pt [b17] 0) :: (Value.pointer (pt [b17] 0) :: (Value.slice A19 (people21).length c20 :: (Value.slice none 0 0 :: (Value.int .i64 0 :: [])))))))), cHp (encStepsNode [b17]) 75 [b17] [(StepsNode.mk 0 (-1))], cN (encNStepsProcess [b17]) (innNStepsProcess w) 10 A19 c20 80 hd22 people21]) (I := fun people21 A19 c20 hd22 => people21 = o18) (.cons (i := 2) rfl (.cons (i := 11) rfl (.nil))) (fun K19 hK19 => ?_) ?_
        · -- up to
          refine W.seqR fun Q20 hQ20 => ?_
          refine WL.q (Y.move (.pl rfl)) rfl ?_
          refine WL.q (Y.len Try.underlying22 (.pl rfl)) rfl ?_
          refine WL.q (Y.move (.pl rfl)) rfl ?_
          refine WL.next hQ20 (.cons (i := 2) rfl (.cons (i := 11) rfl (.cons (i := 46) rfl (.cons (i := 47) rfl (.cons (i := 48) rfl (.nil)))))) ?_
          refine W.block ?_
          refine W.loop5 (Em := fun (people25 : (List StepsProcess)) (v27 : Int) (A23 : Option Addr) (c24 : Nat) (hd26 : List Hd) => [(48, .int .i64 v27)]) (M := fun people25 v27 A23 c24 hd26 => [cBx b18 78 (Value.int .i64 algo1 :: (Value.int .i64 0 :: (Value.pointer none :: (Value.pointer (pt [b17] 0) :: (Value.pointer (pt [b17] 0) :: (Value.slice A23 (people25).length c24 :: (Value.slice none 0 0 :: (Value.int .i64 0 :: [])))))))), cHp (encStepsNode [b17]) 75 [b17] [(StepsNode.mk 0 (-1))], cN (encNStepsProcess [b17]) (innNStepsProcess w) 10 A23 c24 80 hd26 people25]) (I := fun people25 v27 A23 c24 hd26 k21 => iter (steps_Play_L5 N people2) k21 (people25, v27) = some o18) [] 0 none 0 [] N (hF18) (.cons rfl (.nil)) (.cons (i := 2) rfl (.cons (i := 11) rfl (.cons (i := 46) rfl (.cons (i := 47) rfl (.nil))))) (fun wz hw => (St.nilN (hw.pick [1, 0] rfl) (encNStepsProcess [b17]) (innNStepsProcess w) 10 80).pick [1, 2, 0] rfl) (fun people25 v27 A23 c24 hd26 k21 hI K22 hK22 => ?_)
          obtain ⟨k21, t21, rfl, hF21, hN21⟩ := iter_step hI
          refine W.know (fun wz hwz => bor_of (h0 := ((none, 0) : Hd)) (q := fun h a => SlIn encAsk 3 w (.slice h.1 a.program.length h.2) a.program) hwz (i := 2) rfl (fun _ _ => .head _)) (fun hbor24 => ?_)
          refine W.seqR fun Q23 hQ23 => ?_
          refine WL.q (Y.lss (.pl rfl) (.pl rfl)) rfl ?_
          refine WL.next hQ23 (.cons (i := 2) rfl (.cons (i := 11) rfl (.cons (i := 46) rfl (.cons (i := 47) rfl (.cons (i := 48) rfl (.cons (i := 49) rfl (.nil))))))) ?_
          refine W.seq fun K25 hK25 => ?_
          refine W.cond (.pl rfl) (fun hC26 => ?_) (fun hC26 => ?_)
          · replace hF21 := cpos hC26 hF21
            refine W.skip ?_
            refine W.go hK25 (.cons (i := 2) rfl (.cons (i := 11) rfl (.cons (i := 46) rfl (.cons (i := 47) rfl (.cons (i := 48) rfl (.nil)))))) ?_
            refine W.seq fun K27 hK27 => ?_
            refine W.block ?_
            refine W.seqR fun Q28 hQ28 => ?_
            obtain ⟨x28, hx28, hF21⟩ := bnd hF21
            refine WL.q (Y.nnEl Try.underlying22 cells33 hs6 (.pl rfl) (.pl rfl) (ix_lt (hx28))) rfl ?_
            refine WL.q (Y.loadNN Try.underlying33 rfl hs6 (.pl rfl) (hx28) rfl) rfl ?_
            refine WL.q (Y.assign (.pl rfl)) rfl ?_
            refine WL.next hQ28 (.cons (i := 2) rfl (.cons (i := 11) rfl (.cons (i := 13) rfl (.cons (i := 46) rfl (.cons (i := 47) rfl (.cons (i := 48) rfl (.nil))))))) ?_
            refine W.reg ?_
            refine WL.q (Y.move (.pl rfl)) rfl ?_
            refine WL.q (Y.move (.pl rfl)) rfl ?_
            refine WL.q (Y.nilCheck (.pl rfl)) rfl ?_
            refine WL.q (Y.fieldAddr0 (off := 5) (ft := 76) Try.underlying78 rfl cells76 (.pl rfl)) rfl ?_
            refine WL.q (Y.loadB (v := .slice A23 (people25).length c24) Try.underlying76 rfl (.pl rfl) (i := 0) rfl (rfl)) rfl ?_
            refine WL.q (Y.move (.pl rfl)) rfl ?_
            refine WL.q (Y.build (cs := (Value.slice (hd5.getD v27.toNat (none, 0)).1 (x28).length (hd5.getD v27.toNat (none, 0)).2 :: (Value.bool false :: (Value.bool false :: (Value.int .i64 0 :: (Value.int .i64 0 :: (Value.int .i64 0 :: (Value.pointer none :: (Value.pointer none :: (Value.pointer none :: (Value.pointer none :: [])))))))))).toArray) shape80 (.cons (.pl rfl) (.nil)) (one_parts ⟨rfl, trivial⟩) rfl) rfl ?_
            refine WL.step (WO.bsliceN (enc := (encNStepsProcess [b17])) (inn := (innNStepsProcess w)) (hs := ([(((hd5.getD v27.toNat (none, 0)).1, (hd5.getD v27.toNat (none, 0)).2) : Hd)] : List Hd)) (xs := ([(StepsProcess.mk x28 false false 0 0 0 (-1) (-1) (-1) (-1))] : List StepsProcess)) Try.underlying76 bz80 (.cons (.pl rfl) (.nil)) rfl rfl rfl rfl rfl (lenNStepsProcess [b17]) (by decide) (by decide) (.trans (.fact ((hs6.at (hx28)))) (.pick [0, 1, 2, 3] rfl)) rfl fun b29 => ?_)
            obtain ⟨hk32, hF21⟩ := ckh hF21
            refine WL.step (WO.appendN (enc := (encNStepsProcess [b17])) (inn := (innNStepsProcess w)) (hs := hd26) Try.underlying76 ap80 (lenNStepsProcess [b17]) (oneNStepsProcess [b17]) (.pl rfl) rfl (.pl rfl) (i := 2) rfl (hk32) rfl fun A30 c31 => ?_)
            refine WL.q (Y.nilCheck (.pl rfl)) rfl ?_
            refine WL.q (Y.fieldAddr0 (off := 5) (ft := 76) Try.underlying78 rfl cells76 (.pl rfl)) rfl ?_
            refine WL.step (WO.storeB (cs' := (Value.int .i64 algo1 :: (Value.int .i64 0 :: (Value.pointer none :: (Value.pointer (pt [b17] 0) :: (Value.pointer (pt [b17] 0) :: (Value.slice A30 ((people25 ++ ([(StepsProcess.mk x28 false false 0 0 0 (-1) (-1) (-1) (-1))] : List StepsProcess))).length c31 :: (Value.slice none 0 0 :: (Value.int .i64 0 :: []))))))))) cells76 (.pl rfl) (.pl rfl) rfl (i := 1) rfl (ltl (m := 8) (by decide) rfl) (rfl) ?_)
            refine WL.nil ?_
            refine W.go hK27 (.cons (i := 2) rfl (.cons (i := 11) rfl (.cons (i := 46) rfl (.cons (i := 47) rfl (.cons (i := 48) rfl (.nil)))))) ?_
            refine W.know (fun wz hwz => bor_of (h0 := ((none, 0) : Hd)) (q := fun h a => SlIn encAsk 3 w (.slice h.1 a.program.length h.2) a.program) hwz (i := 0) rfl (fun _ _ => .head _)) (fun hbor31 => ?_)
            refine W.reg ?_
            obtain ⟨hk33, hF21⟩ := ckh hF21
            refine WL.q (Y.add (.pl rfl) (.pl rfl) (ok64_lt (hk33))) rfl ?_
            refine WL.q (Y.move (.pl rfl)) rfl ?_
            refine WL.nil ?_
            obtain rfl := Option.some.inj hF21
            exact W.again5 hK22 (people25 ++ ([(StepsProcess.mk x28 false false 0 0 0 (-1) (-1) (-1) (-1))] : List StepsProcess)) (v27 + 1) A30 c31 (hd26 ++ ([(((hd5.getD v27.toNat (none, 0)).1, (hd5.getD v27.toNat (none, 0)).2) : Hd)] : List Hd)) k21 hN21 (Nat.lt_succ_self _) (.cons rfl (.nil)) (.cons (i := 2) rfl (.cons (i := 11) rfl (.cons (i := 46) rfl (.cons (i := 47) rfl (.nil))))) (fun wz hw => hw.pick [1, 2, 0] rfl)
          · replace hF21 := cneg hC26 hF21
            refine W.exit ?_
            obtain rfl := Option.some.inj hF21
            exact W.joinAt4 hK19 people25 A23 c24 hd26 (einr hN21) (.nil) (.cons (i := 2) rfl (.cons (i := 11) rfl (.nil))) (fun wz hw => hw.pick [0, 1, 2] rfl)
        · -- behind
          rintro people21 A19 c20 hd22 rfl
          obtain ⟨o32, hF32, hF⟩ := bnd hF
          refine W.join12 (Em := fun (n34 : Int) (nodes36 : (List StepsNode)) (top37 : Int) (head38 : Int) (tail39 : Int) (people40 : (List StepsProcess)) (events44 : (List Event)) (restarts45 : Int) (bs35 : List Nat) (hd41 : List Hd) (A42 : Option Addr) (c43 : Nat) => []) (M := fun n34 nodes36 top37 head38 tail39 people40 events44 restarts45 bs35 hd41 A42 c43 => [cBx b18 78 (Value.int .i64 algo1 :: (Value.int .i64 n34 :: (Value.pointer (pt bs35 top37) :: (Value.pointer (pt bs35 head38) :: (Value.pointer (pt bs35 tail39) :: (Value.slice A19 (people40).length c20 :: (Value.slice A42 (events44).length c43 :: (Value.int .i64 restarts45 :: [])))))))), cHp (encStepsNode bs35) 75 bs35 nodes36, cN (encNStepsProcess bs35) (innNStepsProcess w) 10 A19 c20 80 hd41 people40, cR encEvent 4 A42 c43 31 events44]) (I := fun n34 nodes36 top37 head38 tail39 people40 events44 restarts45 bs35 hd41 A42 c43 => (n34, nodes36, top37, head38, tail39, people40, events44, restarts45) = o32) (.cons (i := 11) rfl (.nil)) (fun K33 hK33 => ?_) ?_
          · -- up to
            refine W.know (fun wz hwz => bor_of (h0 := ((none, 0) : Hd)) (q := fun h a => SlIn encAsk 3 w (.slice h.1 a.program.length h.2) a.program) hwz (i := 2) rfl (fun _ _ => .head _)) (fun hbor35 => ?_)
            refine W.seqR fun Q34 hQ34 => ?_
            refine WL.q (Y.move (.pl rfl)) rfl ?_
            refine WL.q (Y.len Try.underlying23 (.pl rfl)) rfl ?_
            refine WL.q (Y.move (.pl rfl)) rfl ?_
            refine WL.next hQ34 (.cons (i := 11) rfl (.cons (i := 64) rfl (.cons (i := 65) rfl (.cons (i := 66) rfl (.nil))))) ?_
            refine W.block ?_
            refine W.loop13 (Em := fun (n46 : Int) (nodes48 : (List StepsNode)) (top49 : Int) (head50 : Int) (tail51 : Int) (people52 : (List StepsProcess)) (events56 : (List Event)) (restarts57 : Int) (v58 : Int) (bs47 : List Nat) (hd53 : List Hd) (A54 : Option Addr) (c55 : Nat) => [(66, .int .i64 v58)]) (M := fun n46 nodes48 top49 head50 tail51 people52 events56 restarts57 v58 bs47 hd53 A54 c55 => [cBx b18 78 (Value.int .i64 algo1 :: (Value.int .i64 n46 :: (Value.pointer (pt bs47 top49) :: (Value.pointer (pt bs47 head50) :: (Value.pointer (pt bs47 tail51) :: (Value.slice A19 (people52).length c20 :: (Value.slice A54 (events56).length c55 :: (Value.int .i64 restarts57 :: [])))))))), cHp (encStepsNode bs47) 75 bs47 nodes48, cN (encNStepsProcess bs47) (innNStepsProcess w) 10 A19 c20 80 hd53 people52, cR encEvent 4 A54 c55 31 events56]) (I := fun n46 nodes48 top49 head50 tail51 people52 events56 restarts57 v58 bs47 hd53 A54 c55 k36 => iter (steps_Play_L7 N turns7 algo1) k36 (n46, nodes48, top49, head50, tail51, people52, events56, restarts57, v58) = some o32) 0 [(StepsNode.mk 0 (-1))] (-1) 0 0 people21 [] 0 0 [b17] hd22 none 0 N (hF32) (.cons rfl (.nil)) (.cons (i := 11) rfl (.cons (i := 64) rfl (.cons (i := 65) rfl (.nil)))) (fun wz hw => (St.nilR (hw.pick [0, 1, 2] rfl) encEvent 4 31).pick [1, 2, 3, 0] rfl) (fun n46 nodes48 top49 head50 tail51 people52 events56 restarts57 v58 bs47 hd53 A54 c55 k36 hI K37 hK37 => ?_)
            obtain ⟨k36, t36, rfl, hF36, hN36⟩ := iter_step hI
            refine W.know (fun wz hwz => bor_of (h0 := ((none, 0) : Hd)) (q := fun h a => SlIn encAsk 3 w (.slice h.1 a.program.length h.2) a.program) hwz (i := 2) rfl (fun _ _ => .head _)) (fun hbor39 => ?_)
            refine W.seqR fun Q38 hQ38 => ?_
            refine WL.q (Y.lss (.pl rfl) (.pl rfl)) rfl ?_
            refine WL.next hQ38 (.cons (i := 11) rfl (.cons (i := 64) rfl (.cons (i := 65) rfl (.cons (i := 66) rfl (.cons (i := 67) rfl (.nil)))))) ?_
            refine W.seq fun K40 hK40 => ?_
            refine W.cond (.pl rfl) (fun hC41 => ?_) (fun hC41 => ?_)
            · replace hF36 := cpos hC41 hF36
              refine W.skip ?_
              refine W.go hK40 (.cons (i := 11) rfl (.cons (i := 64) rfl (.cons (i := 65) rfl (.cons (i := 66) rfl (.nil))))) ?_
              refine W.seq fun K42 hK42 => ?_
              refine W.block ?_
              refine W.seqR fun Q43 hQ43 => ?_
              obtain ⟨x59, hx59, hF36⟩ := bnd hF36
              refine WL.q (Y.slEl Try.underlying23 cells3 hs10 (.pl rfl) (.pl rfl) (ix_lt (hx59))) rfl ?_
              refine WL.q (Y.loadS (enc := (eI .i64)) (v := .int .i64 x59) (j := 0) Try.underlying3 rfl hs10 (.pl rfl) (hx59) rfl rfl) rfl ?_
              refine WL.q (Y.assign (.pl rfl)) rfl ?_
              refine WL.next hQ43 (.cons (i := 11) rfl (.cons (i := 15) rfl (.cons (i := 64) rfl (.cons (i := 65) rfl (.cons (i := 66) rfl (.nil)))))) ?_
              refine W.reg ?_
              refine WL.q (Y.move (.pl rfl)) rfl ?_
              refine WL.q (Y.move (.pl rfl)) rfl ?_
              obtain ⟨r60, hr60, hF36⟩ := bnd hF36
              refine WL.step (WO.call (γ := (List Nat × List Hd × Option Addr × Nat)) (fun g => .tuple #[]) (fun g => [cBx b18 78 (Value.int .i64 algo1 :: (Value.int .i64 r60.1 :: (Value.pointer (pt g.1 r60.2.2.1) :: (Value.pointer (pt g.1 r60.2.2.2.1) :: (Value.pointer (pt g.1 r60.2.2.2.2.1) :: (Value.slice A19 (r60.2.2.2.2.2.1).length c20 :: (Value.slice g.2.2.1 (r60.2.2.2.2.2.2.1).length g.2.2.2 :: (Value.int .i64 r60.2.2.2.2.2.2.2 :: [])))))))), cHp (encStepsNode g.1) 75 g.1 r60.2.1, cN (encNStepsProcess g.1) (innNStepsProcess w) 10 A19 c20 80 g.2.1 r60.2.2.2.2.2.1, cR encEvent 4 g.2.2.1 g.2.2.2 31 r60.2.2.2.2.2.2.1]) (fun g => (r60.2.2.2.2.2.1).length = (people52).length) isGo32 (.cons (.pl rfl) (.cons (.pl rfl) (.nil))) rfl (fun wz hw => steps_machine_turn_ok (T := []) (hr60) (hw.pick [0, 2, 3, 1] rfl) ) ?_)
              rintro ⟨bs61, hd62, A63, c64⟩ hl65
              refine WL.nil ?_
              refine W.go hK42 (.cons (i := 11) rfl (.cons (i := 64) rfl (.cons (i := 65) rfl (.cons (i := 66) rfl (.nil))))) ?_
              refine W.know (fun wz hwz => bor_of (h0 := ((none, 0) : Hd)) (q := fun h a => SlIn encAsk 3 w (.slice h.1 a.program.length h.2) a.program) hwz (i := 2) rfl (fun _ _ => .head _)) (fun hbor46 => ?_)
              refine W.reg ?_
              obtain ⟨hk66, hF36⟩ := ckh hF36
              refine WL.q (Y.add (.pl rfl) (.pl rfl) (ok64_lt (hk66))) rfl ?_
              refine WL.q (Y.move (.pl rfl)) rfl ?_
              refine WL.nil ?_
              obtain rfl := Option.some.inj hF36
              exact W.again13 hK37 r60.1 r60.2.1 r60.2.2.1 r60.2.2.2.1 r60.2.2.2.2.1 r60.2.2.2.2.2.1 r60.2.2.2.2.2.2.1 r60.2.2.2.2.2.2.2 (v58 + 1) bs61 hd62 A63 c64 k36 hN36 (Nat.lt_succ_self _) (.cons rfl (.nil)) (.cons (i := 11) rfl (.cons (i := 64) rfl (.cons (i := 65) rfl (.nil)))) (fun wz hw => hw.pick [0, 1, 2, 3] rfl)
            · replace hF36 := cneg hC41 hF36
              refine W.exit ?_
              obtain rfl := Option.some.inj hF36
              exact W.joinAt12 hK33 n46 nodes48 top49 head50 tail51 people52 events56 restarts57 bs47 hd53 A54 c55 (einr hN36) (.nil) (.cons (i := 11) rfl (.nil)) (fun wz hw => hw.pick [0, 1, 2, 3] rfl)
          · -- behind
            rintro n34 nodes36 top37 head38 tail39 people40 events44 restarts45 bs35 hd41 A42 c43 rfl
            refine W.know (fun wz hwz => bor_of (h0 := ((none, 0) : Hd)) (q := fun h a => SlIn encAsk 3 w (.slice h.1 a.program.length h.2) a.program) hwz (i := 2) rfl (fun _ _ => .head _)) (fun hbor48 => ?_)
            refine W.seqD (by kernel_rfl) (by kernel_rfl) fun R47 hR47 => ?_
            refine WD.q (Y.move (.pl rfl)) rfl ?_
            refine WD.q (Y.nilCheck (.pl rfl)) rfl ?_
            refine WD.q (Y.fieldAddr0 (off := 6) (ft := 24) Try.underlying78 rfl cells24 (.pl rfl)) rfl ?_
            refine WD.q (Y.loadB (v := .slice A42 (events44).length c43) Try.underlying24 rfl (.pl rfl) (i := 0) rfl (rfl)) rfl ?_
            refine WD.q (Y.move (.pl rfl)) rfl ?_
            refine WD.q (Y.nilCheck (.pl rfl)) rfl ?_
            refine WD.q (Y.fieldAddr0 (off := 7) (ft := 3) Try.underlying78 rfl cells3 (.pl rfl)) rfl ?_
            refine WD.q (Y.loadB (v := .int .i64 restarts45) Try.underlying3 rfl (.pl rfl) (i := 0) rfl (rfl)) rfl ?_
            refine WD.q (Y.assign (.pl rfl)) rfl ?_
            refine WD.q (Y.assign (.pl rfl)) rfl ?_
            refine WD.q (Y.assign (.pl rfl)) rfl ?_
            refine WD.next hR47 (.cons (i := 6) rfl (.cons (i := 7) rfl (.cons (i := 8) rfl (.nil)))) ?_
            obtain rfl := Option.some.inj hF
            refine W.retV (fn := Try.f10) (vs := [.slice A42 (events44).length c43, .int .i64 restarts45, .int .i64 0]) Try.results10 ⟨.tmp rfl, ⟨.tmp rfl, ⟨.tmp rfl, trivial⟩⟩⟩ (fun _ _ h => h) (fun wz hw => ?_)
            exact hR _ _ ⟨(A42, c43), trivial, rfl, (hw.pick [3] rfl)⟩

def alibkeep_twoTake (N : Nat) : Option Unit :=
  some ()

theorem alibkeep_twoTake_ok {N : Nat} {res : Unit} (hF : alibkeep_twoTake N = some res) (w : World) :
    Made Try.prog 27 [] w (fun g : (Option Addr × List Hd) => .slice g.1 (([([(Ask.mk 0 10 0)] : List Ask), ([(Ask.mk 0 10 0)] : List Ask)] : List (List Ask))).length (([([(Ask.mk 0 10 0)] : List Ask), ([(Ask.mk 0 10 0)] : List Ask)] : List (List Ask))).length) (fun g => [cN encSl (innSl encAsk 3 83) 1 g.1 (([([(Ask.mk 0 10 0)] : List Ask), ([(Ask.mk 0 10 0)] : List Ask)] : List (List Ask))).length 33 g.2 ([([(Ask.mk 0 10 0)] : List Ask), ([(Ask.mk 0 10 0)] : List Ask)] : List (List Ask))]) (fun g => True) := by
  refine W.enter (n := 6) Try.func27 rfl rfl Sub.refl (by simp) (St.start w) fun R hR => ?_
  unfold alibkeep_twoTake at hF
  refine W.seqR fun Q1 hQ1 => ?_
  refine WL.q (Y.assign (.pl rfl)) rfl ?_
  refine WL.next hQ1 (.nil) ?_
  refine W.seqR fun Q2 hQ2 => ?_
  refine WL.q (Y.build (cs := (encAsk (Ask.mk 0 10 0)).toArray) shape83 (.cons (.pl rfl) (.nil)) (one_parts ⟨rfl, trivial⟩) rfl) rfl ?_
  refine WL.step (WO.bsliceC (enc := encAsk) (ys := ([(Ask.mk 0 10 0)] : List Ask)) Try.underlying33 bz83 (.cons (.pl rfl) (.nil)) rfl lenAsk rfl rfl (by decide) (by decide) rfl fun b1 => ?_)
  refine WL.q (Y.build (cs := (encAsk (Ask.mk 0 10 0)).toArray) shape83 (.cons (.pl rfl) (.nil)) (one_parts ⟨rfl, trivial⟩) rfl) rfl ?_
  refine WL.step (WO.bsliceC (enc := encAsk) (ys := ([(Ask.mk 0 10 0)] : List Ask)) Try.underlying33 bz83 (.cons (.pl rfl) (.nil)) rfl lenAsk rfl rfl (by decide) (by decide) rfl fun b2 => ?_)
  refine WL.step (WO.bsliceN (enc := encSl) (inn := (innSl encAsk 3 83)) (hs := ([(((some ⟨b1, 0, none⟩), (([(Ask.mk 0 10 0)] : List Ask)).length) : Hd), (((some ⟨b2, 0, none⟩), (([(Ask.mk 0 10 0)] : List Ask)).length) : Hd)] : List Hd)) (xs := ([([(Ask.mk 0 10 0)] : List Ask), ([(Ask.mk 0 10 0)] : List Ask)] : List (List Ask))) Try.underlying22 bz33 (.cons (.pl rfl) (.cons (.pl rfl) (.nil))) rfl rfl rfl rfl rfl lenSl (by decide) (by decide) (.pick [1, 0] rfl) rfl fun b3 => ?_)
  refine WL.q (Y.assign (.pl rfl)) rfl ?_
  refine WL.next hQ2 (.cons (i := 0) rfl (.nil)) ?_
  obtain rfl := Option.some.inj hF
  refine W.retV (fn := Try.f27) (vs := [.slice (some ⟨b3, 0, none⟩) (([([(Ask.mk 0 10 0)] : List Ask), ([(Ask.mk 0 10 0)] : List Ask)] : List (List Ask))).length (([([(Ask.mk 0 10 0)] : List Ask), ([(Ask.mk 0 10 0)] : List Ask)] : List (List Ask))).length]) Try.results27 ⟨.tmp rfl, trivial⟩ (fun _ _ h => h) (fun wz hw => ?_)
  exact hR _ _ ⟨((some ⟨b3, 0, none⟩), ([(((some ⟨b1, 0, none⟩), (([(Ask.mk 0 10 0)] : List Ask)).length) : Hd), (((some ⟨b2, 0, none⟩), (([(Ask.mk 0 10 0)] : List Ask)).length) : Hd)] : List Hd)), trivial, rfl, (hw.pick [0] rfl)⟩

def alibkeep_ok_L3 (N : Nat) (l1 : (List Int)) : Int → Option (Int ⊕ (Unit ⊕ Bool))
  | v6 =>
    cond (decide (v6 < ((l1).length : Int)))
      (bd (ix l1 v6) fun (x7 : Int) =>
      cond (!(decide (x7 = 0)))
        (some (.inr (.inr false)))
        (ck (ok64 (v6 + 1)) <|
        some (.inl (v6 + 1))))
      (some (.inr (.inl ())))

def alibkeep_ok (N : Nat) (l1 : (List Int)) : Option Bool :=
  bd (α := (Unit ⊕ Bool)) (iter (alibkeep_ok_L3 N l1) N 0) <|
  Sum.elim (fun _ => 
    some true) (fun p => some p)

theorem alibkeep_ok_ok {N : Nat} {l1 : (List Int)} {res : Bool} (hF : alibkeep_ok N l1 = some res) (w : World) {v5 : Value} (hs4 : SlIn (eI .i64) 1 w v5 l1) :
    Pure Try.prog 20 [v5] w (.bool res) := by
  obtain ⟨A2, c3, rfl, hcc3, hs4⟩ := hs4.form
  refine W.enter (n := 14) Try.func20 rfl rfl Sub.refl (by simp) (St.start w) fun R hR => ?_
  unfold alibkeep_ok at hF
  refine W.seqR fun Q1 hQ1 => ?_
  refine WL.q (Y.assign (.pl rfl)) rfl ?_
  refine WL.next hQ1 (.cons (i := 0) rfl (.nil)) ?_
  obtain ⟨o2, hF2, hF⟩ := bnd hF
  refine W.join0 (Em := []) (M := []) (I := (.inl ()) = o2) (.nil) (fun K3 hK3 => ?_) ?_
  · -- up to
    refine W.seqR fun Q4 hQ4 => ?_
    refine WL.q (Y.move (.pl rfl)) rfl ?_
    refine WL.q (Y.len Try.underlying99 (.pl rfl)) rfl ?_
    refine WL.q (Y.move (.pl rfl)) rfl ?_
    refine WL.next hQ4 (.cons (i := 5) rfl (.cons (i := 6) rfl (.cons (i := 7) rfl (.nil)))) ?_
    refine W.block ?_
    refine W.loop1 (Em := fun (v6 : Int) => [(7, .int .i64 v6)]) (M := fun v6 => []) (I := fun v6 k5 => iter (alibkeep_ok_L3 N l1) k5 v6 = some o2) 0 N (hF2) (.cons rfl (.nil)) (.cons (i := 5) rfl (.cons (i := 6) rfl (.nil))) (fun wz hw => hw.pick [] rfl) (fun v6 k5 hI K6 hK6 => ?_)
    obtain ⟨k5, t5, rfl, hF5, hN5⟩ := iter_step hI
    refine W.seqR fun Q7 hQ7 => ?_
    refine WL.q (Y.lss (.pl rfl) (.pl rfl)) rfl ?_
    refine WL.next hQ7 (.cons (i := 5) rfl (.cons (i := 6) rfl (.cons (i := 7) rfl (.cons (i := 8) rfl (.nil))))) ?_
    refine W.seq fun K8 hK8 => ?_
    refine W.cond (.pl rfl) (fun hC9 => ?_) (fun hC9 => ?_)
    · replace hF5 := cpos hC9 hF5
      refine W.skip ?_
      refine W.go hK8 (.cons (i := 5) rfl (.cons (i := 6) rfl (.cons (i := 7) rfl (.nil)))) ?_
      refine W.seq fun K10 hK10 => ?_
      refine W.block ?_
      refine W.seqR fun Q11 hQ11 => ?_
      obtain ⟨x7, hx7, hF5⟩ := bnd hF5
      refine WL.q (Y.slEl Try.underlying99 cells25 hs4 (.pl rfl) (.pl rfl) (ix_lt (hx7))) rfl ?_
      refine WL.q (Y.loadS (enc := (eI .i64)) (v := .int .i64 x7) (j := 0) Try.underlying25 rfl hs4 (.pl rfl) (hx7) rfl rfl) rfl ?_
      refine WL.q (Y.assign (.pl rfl)) rfl ?_
      refine WL.next hQ11 (.cons (i := 4) rfl (.cons (i := 5) rfl (.cons (i := 6) rfl (.cons (i := 7) rfl (.nil))))) ?_
      refine W.seqR fun Q12 hQ12 => ?_
      refine WL.q (Y.move (.pl rfl)) rfl ?_
      refine WL.q (Y.neq (.pl rfl) (.pl rfl)) rfl ?_
      refine WL.next hQ12 (.cons (i := 5) rfl (.cons (i := 6) rfl (.cons (i := 7) rfl (.cons (i := 12) rfl (.nil))))) ?_
      refine W.cond (.pl rfl) (fun hC13 => ?_) (fun hC13 => ?_)
      · replace hF5 := cpos hC13 hF5
        refine W.seqR fun Q14 hQ14 => ?_
        refine WL.q (Y.assign (.pl rfl)) rfl ?_
        refine WL.next hQ14 (.cons (i := 2) rfl (.nil)) ?_
        obtain rfl := Option.some.inj hF5
        obtain rfl := einr hN5
        obtain rfl := Option.some.inj hF
        refine W.retV (fn := Try.f20) (vs := [.bool false]) Try.results20 ⟨.tmp rfl, trivial⟩ (fun _ _ h => h) (fun wz hw => ?_)
        exact hR _ _ ⟨rfl, (hw.pick [] rfl)⟩
      · replace hF5 := cneg hC13 hF5
        refine W.skip ?_
        refine W.go hK10 (.cons (i := 5) rfl (.cons (i := 6) rfl (.cons (i := 7) rfl (.nil)))) ?_
        refine W.reg ?_
        obtain ⟨hk8, hF5⟩ := ckh hF5
        refine WL.q (Y.add (.pl rfl) (.pl rfl) (ok64_lt (hk8))) rfl ?_
        refine WL.q (Y.move (.pl rfl)) rfl ?_
        refine WL.nil ?_
        obtain rfl := Option.some.inj hF5
        exact W.again1 hK6 (v6 + 1) k5 hN5 (Nat.lt_succ_self _) (.cons rfl (.nil)) (.cons (i := 5) rfl (.cons (i := 6) rfl (.nil))) (fun wz hw => hw.pick [] rfl)
    · replace hF5 := cneg hC9 hF5
      refine W.exit ?_
      obtain rfl := Option.some.inj hF5
      exact W.joinAt0 hK3  (einr hN5) (.nil) (.nil) (fun wz hw => hw.pick [] rfl)
  · -- behind
    rintro  rfl
    refine W.seqR fun Q16 hQ16 => ?_
    refine WL.q (Y.assign (.pl rfl)) rfl ?_
    refine WL.next hQ16 (.cons (i := 2) rfl (.nil)) ?_
    obtain rfl := Option.some.inj hF
    refine W.retV (fn := Try.f20) (vs := [.bool true]) Try.results20 ⟨.tmp rfl, trivial⟩ (fun _ _ h => h) (fun wz hw => ?_)
    exact hR _ _ ⟨rfl, (hw.pick [] rfl)⟩

def alibkeep_stepsLives (N : Nat) : Option Bool :=
  bd (alibkeep_twoTake N) fun (r1 : Unit) =>
  bd (steps_Play N 1 ([([(Ask.mk 0 10 0)] : List Ask), ([(Ask.mk 0 10 0)] : List Ask)] : List (List Ask)) ([0, 1, 0, 1, 0, 1, 0, 1, 1, 1] : List Int)) fun (r5 : ((List Event) × Int × Int)) =>
  bd (steps_Play N 4 ([([(Ask.mk 0 3 7), (Ask.mk 0 4 0)] : List Ask)] : List (List Ask)) ([0, 0, 0, 0, 0, 0, 0, 0, 0] : List Int)) fun (r11 : ((List Event) × Int × Int)) =>
  bd (alibkeep_ok N ([r5.2.2, r11.2.2] : List Int)) fun (r15 : Bool) =>
  bd ((cond (((r15 && (decide (r5.2.1 = 1))) && (decide (((r5.1).length : Int) = 4))) == true) (ix r5.1 3) (some Event.z))) fun (x16 : Event) =>
  bd ((cond ((((((r15 && (decide (r5.2.1 = 1))) && (decide (((r5.1).length : Int) = 4))) && (decide (x16 = (Event.mk 1 0 0 1)))) && (decide (r11.2.1 = 0))) && (decide (((r11.1).length : Int) = 4))) == true) (ix r11.1 3) (some Event.z))) fun (x17 : Event) =>
  some ((((((r15 && (decide (r5.2.1 = 1))) && (decide (((r5.1).length : Int) = 4))) && (decide (x16 = (Event.mk 1 0 0 1)))) && (decide (r11.2.1 = 0))) && (decide (((r11.1).length : Int) = 4))) && (decide (x17 = (Event.mk 0 0 0 7))))

theorem alibkeep_stepsLives_ok {N : Nat} {res : Bool} (hF : alibkeep_stepsLives N = some res) (w : World) :
    Pure Try.prog 11 [] w (.bool res) := by
  refine W.enter (n := 60) Try.func11 rfl rfl Sub.refl (by simp) (St.start w) fun R hR => ?_
  unfold alibkeep_stepsLives at hF
  refine W.seqR fun Q1 hQ1 => ?_
  refine WL.q (Y.assign (.pl rfl)) rfl ?_
  refine WL.next hQ1 (.nil) ?_
  refine W.seqR fun Q2 hQ2 => ?_
  obtain ⟨r1, hr1, hF⟩ := bnd hF
  refine WL.step (WO.callM isGo27 (.nil) rfl (fun wz hw => alibkeep_twoTake_ok (hr1) wz ) ?_)
  rintro ⟨A2, hd3⟩ -
  refine WL.step (WO.bsliceC (enc := (eI .i64)) (ys := ([0, 1, 0, 1, 0, 1, 0, 1, 1, 1] : List Int)) Try.underlying23 bz3 (.cons (.pl rfl) (.cons (.pl rfl) (.cons (.pl rfl) (.cons (.pl rfl) (.cons (.pl rfl) (.cons (.pl rfl) (.cons (.pl rfl) (.cons (.pl rfl) (.cons (.pl rfl) (.cons (.pl rfl) (.nil))))))))))) rfl (fun _ => rfl) rfl rfl (by decide) (by decide) rfl fun b4 => ?_)
  obtain ⟨r5, hr5, hF⟩ := bnd hF
  refine WL.step (WO.callM isGo10 (.cons (.pl rfl) (.cons (.pl rfl) (.cons (.pl rfl) (.nil)))) rfl (fun wz hw => steps_Play_ok (hr5) wz (SlNN.ofN lenAsk hw (i := 1) rfl) (SlIn.ofRow (fun _ => rfl) hw (i := 0) rfl)) ?_)
  rintro ⟨A6, c7⟩ -
  refine WL.q (Y.move (.pl rfl)) rfl ?_
  refine WL.q (Y.extract (.pl rfl) rfl) rfl ?_
  refine WL.q (Y.extract (.pl rfl) rfl) rfl ?_
  refine WL.q (Y.extract (.pl rfl) rfl) rfl ?_
  refine WL.q (Y.assign (.pl rfl)) rfl ?_
  refine WL.q (Y.assign (.pl rfl)) rfl ?_
  refine WL.q (Y.assign (.pl rfl)) rfl ?_
  refine WL.next hQ2 (.cons (i := 1) rfl (.cons (i := 2) rfl (.cons (i := 3) rfl (.nil)))) ?_
  refine W.seqR fun Q3 hQ3 => ?_
  refine WL.q (Y.build (cs := (encAsk (Ask.mk 0 3 7)).toArray) shape83 (.cons (.pl rfl) (.cons (.pl rfl) (.nil))) (one_parts ⟨rfl, ⟨rfl, trivial⟩⟩) rfl) rfl ?_
  refine WL.q (Y.build (cs := (encAsk (Ask.mk 0 4 0)).toArray) shape83 (.cons (.pl rfl) (.nil)) (one_parts ⟨rfl, trivial⟩) rfl) rfl ?_
  refine WL.step (WO.bsliceC (enc := encAsk) (ys := ([(Ask.mk 0 3 7), (Ask.mk 0 4 0)] : List Ask)) Try.underlying33 bz83 (.cons (.pl rfl) (.cons (.pl rfl) (.nil))) rfl lenAsk rfl rfl (by decide) (by decide) rfl fun b8 => ?_)
  refine WL.step (WO.bsliceN (enc := encSl) (inn := (innSl encAsk 3 83)) (hs := ([(((some ⟨b8, 0, none⟩), (([(Ask.mk 0 3 7), (Ask.mk 0 4 0)] : List Ask)).length) : Hd)] : List Hd)) (xs := ([([(Ask.mk 0 3 7), (Ask.mk 0 4 0)] : List Ask)] : List (List Ask))) Try.underlying22 bz33 (.cons (.pl rfl) (.nil)) rfl rfl rfl rfl rfl lenSl (by decide) (by decide) (.pick [0, 1, 2, 3] rfl) rfl fun b9 => ?_)
  refine WL.step (WO.bsliceC (enc := (eI .i64)) (ys := ([0, 0, 0, 0, 0, 0, 0, 0, 0] : List Int)) Try.underlying23 bz3 (.cons (.pl rfl) (.cons (.pl rfl) (.cons (.pl rfl) (.cons (.pl rfl) (.cons (.pl rfl) (.cons (.pl rfl) (.cons (.pl rfl) (.cons (.pl rfl) (.cons (.pl rfl) (.nil)))))))))) rfl (fun _ => rfl) rfl rfl (by decide) (by decide) rfl fun b10 => ?_)
  obtain ⟨r11, hr11, hF⟩ := bnd hF
  refine WL.step (WO.callM isGo10 (.cons (.pl rfl) (.cons (.pl rfl) (.cons (.pl rfl) (.nil)))) rfl (fun wz hw => steps_Play_ok (hr11) wz (SlNN.ofN lenAsk hw (i := 1) rfl) (SlIn.ofRow (fun _ => rfl) hw (i := 0) rfl)) ?_)
  rintro ⟨A12, c13⟩ -
  refine WL.q (Y.move (.pl rfl)) rfl ?_
  refine WL.q (Y.extract (.pl rfl) rfl) rfl ?_
  refine WL.q (Y.extract (.pl rfl) rfl) rfl ?_
  refine WL.q (Y.extract (.pl rfl) rfl) rfl ?_
  refine WL.q (Y.assign (.pl rfl)) rfl ?_
  refine WL.q (Y.assign (.pl rfl)) rfl ?_
  refine WL.q (Y.assign (.pl rfl)) rfl ?_
  refine WL.next hQ3 (.cons (i := 1) rfl (.cons (i := 2) rfl (.cons (i := 3) rfl (.cons (i := 4) rfl (.cons (i := 5) rfl (.cons (i := 6) rfl (.nil))))))) ?_
  refine W.seqR fun Q4 hQ4 => ?_
  refine WL.q (Y.move (.pl rfl)) rfl ?_
  refine WL.q (Y.move (.pl rfl)) rfl ?_
  refine WL.step (WO.bsliceC (enc := (eI .i64)) (ys := ([r5.2.2, r11.2.2] : List Int)) Try.underlying99 bz25 (.cons (.pl rfl) (.cons (.pl rfl) (.nil))) rfl (fun _ => rfl) rfl rfl (by decide) (by decide) rfl fun b14 => ?_)
  obtain ⟨r15, hr15, hF⟩ := bnd hF
  refine WL.step (WO.callP isGo20 (.cons (.pl rfl) (.nil)) rfl (fun wz hw => alibkeep_ok_ok (hr15) wz (SlIn.ofRow (fun _ => rfl) hw (i := 0) rfl)) ?_)
  refine WL.q (Y.move (.pl rfl)) rfl ?_
  refine WL.g (.pl rfl rfl rfl) (fun hg => Y.move (.pl rfl)) rfl ?_
  refine WL.g (.pl rfl rfl rfl) (fun hg => Y.eql (.gd (hg) rfl) (.pl rfl)) rfl ?_
  refine WL.q (Y.and (.pl rfl) (fun h2 => .gd (eqt h2) rfl)) rfl ?_
  refine WL.q (Y.move (.pl rfl)) rfl ?_
  refine WL.g (.pl rfl rfl rfl) (fun hg => Y.move (.pl rfl)) rfl ?_
  refine WL.g (.pl rfl rfl rfl) (fun hg => Y.len Try.underlying24 (.gd (hg) rfl)) rfl ?_
  refine WL.g (.pl rfl rfl rfl) (fun hg => Y.eql (.gd (hg) rfl) (.pl rfl)) rfl ?_
  refine WL.q (Y.and (.pl rfl) (fun h2 => .gd (eqt h2) rfl)) rfl ?_
  refine WL.q (Y.move (.pl rfl)) rfl ?_
  refine WL.g (.pl rfl rfl rfl) (fun hg => Y.move (.pl rfl)) rfl ?_
  obtain ⟨x16, hx16, hF⟩ := bnd hF
  refine WL.g (.pl rfl rfl rfl) (fun hg => Y.rowEl Try.underlying24 cells31 (i := 4) rfl (.gd (hg) rfl) rfl (.pl rfl) (ix_lt (gpos hg hx16))) rfl ?_
  refine WL.g (.pl rfl rfl rfl) (fun hg => Y.loadRA (enc := encEvent) (ds := (encEvent x16)) (a := x16) (idx := 3) (j := 0) Try.underlying31 rfl cells31 lenEvent (i := 4) rfl (.gd (hg) rfl) (ix_get (gpos hg hx16)) rfl rfl subW) rfl ?_
  refine WL.g (.pl rfl rfl rfl) (fun hg => Y.build (cs := (encEvent (Event.mk 1 0 0 1)).toArray) shape31 (.cons (.pl rfl) (.cons (.pl rfl) (.nil))) (one_parts ⟨rfl, ⟨rfl, trivial⟩⟩) rfl) rfl ?_
  refine WL.g (.pl rfl rfl rfl) (fun hg => Y.eqlS eqs31 (.gd (hg) rfl) (.gd (hg) rfl) (eqEvent x16 (Event.mk 1 0 0 1))) rfl ?_
  refine WL.q (Y.and (.pl rfl) (fun h2 => .gd (eqt h2) rfl)) rfl ?_
  refine WL.q (Y.move (.pl rfl)) rfl ?_
  refine WL.g (.pl rfl rfl rfl) (fun hg => Y.move (.pl rfl)) rfl ?_
  refine WL.g (.pl rfl rfl rfl) (fun hg => Y.eql (.gd (hg) rfl) (.pl rfl)) rfl ?_
  refine WL.q (Y.and (.pl rfl) (fun h2 => .gd (eqt h2) rfl)) rfl ?_
  refine WL.q (Y.move (.pl rfl)) rfl ?_
  refine WL.g (.pl rfl rfl rfl) (fun hg => Y.move (.pl rfl)) rfl ?_
  refine WL.g (.pl rfl rfl rfl) (fun hg => Y.len Try.underlying24 (.gd (hg) rfl)) rfl ?_
  refine WL.g (.pl rfl rfl rfl) (fun hg => Y.eql (.gd (hg) rfl) (.pl rfl)) rfl ?_
  refine WL.q (Y.and (.pl rfl) (fun h2 => .gd (eqt h2) rfl)) rfl ?_
  refine WL.q (Y.move (.pl rfl)) rfl ?_
  refine WL.g (.pl rfl rfl rfl) (fun hg => Y.move (.pl rfl)) rfl ?_
  obtain ⟨x17, hx17, hF⟩ := bnd hF
  refine WL.g (.pl rfl rfl rfl) (fun hg => Y.rowEl Try.underlying24 cells31 (i := 1) rfl (.gd (hg) rfl) rfl (.pl rfl) (ix_lt (gpos hg hx17))) rfl ?_
  refine WL.g (.pl rfl rfl rfl) (fun hg => Y.loadRA (enc := encEvent) (ds := (encEvent x17)) (a := x17) (idx := 3) (j := 0) Try.underlying31 rfl cells31 lenEvent (i := 1) rfl (.gd (hg) rfl) (ix_get (gpos hg hx17)) rfl rfl subW) rfl ?_
  refine WL.g (.pl rfl rfl rfl) (fun hg => Y.build (cs := (encEvent (Event.mk 0 0 0 7)).toArray) shape31 (.cons (.pl rfl) (.nil)) (one_parts ⟨rfl, trivial⟩) rfl) rfl ?_
  refine WL.g (.pl rfl rfl rfl) (fun hg => Y.eqlS eqs31 (.gd (hg) rfl) (.gd (hg) rfl) (eqEvent x17 (Event.mk 0 0 0 7))) rfl ?_
  refine WL.q (Y.and (.pl rfl) (fun h2 => .gd (eqt h2) rfl)) rfl ?_
  refine WL.q (Y.assign (.pl rfl)) rfl ?_
  refine WL.next hQ4 (.cons (i := 0) rfl (.nil)) ?_
  obtain rfl := Option.some.inj hF
  refine W.retV (fn := Try.f11) (vs := [.bool ((((((r15 && (decide (r5.2.1 = 1))) && (decide (((r5.1).length : Int) = 4))) && (decide (x16 = (Event.mk 1 0 0 1)))) && (decide (r11.2.1 = 0))) && (decide (((r11.1).length : Int) = 4))) && (decide (x17 = (Event.mk 0 0 0 7))))]) Try.results11 ⟨.tmp rfl, trivial⟩ (fun _ _ h => h) (fun wz hw => ?_)
  exact hR _ _ ⟨rfl, (hw.pick [] rfl)⟩

end Go.Proofs.Ytkmmagekepoapaa
