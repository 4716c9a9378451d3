/- Zones: what their code computes, and the walks. -/
import Derived.Test.YtolneilkgjglkaaChecked
import Derived.Test.YtolneilkgjglkaaBor
import Derived.Test.YtolneilkgjglkaaSortN
set_option linter.unusedVariables false
set_option linter.unusedSimpArgs false
set_option linter.unusedSectionVars false
set_option maxRecDepth 100000
namespace Go.Proofs.Ytolneilkgjglkaa
open Go.RowKit
structure Event where
  who : Int
  thing : Int
  kind : Int
  value : Int
deriving DecidableEq
def Event.z : Event := ⟨0, 0, 0, 0⟩
def encEvent (x : Event) : List Value := (Value.int .i64 x.who :: (Value.int .i64 x.thing :: (Value.int .i64 x.kind :: (Value.int .i64 x.value :: []))))
theorem lenEvent (x : Event) : (encEvent x).length = 4 := rfl
theorem eqEvent (x y : Event) : eqCells [true, true, true, true] (encEvent x) (encEvent y) = some (decide (x = y)) := by
  cases x; cases y; simp [encEvent, eqCells, Event.mk.injEq, Bool.beq_eq_decide_eq]
theorem oneEvent : ∀ x, ∀ v ∈ encEvent x, v.oneCell' = true := fun x => (one_cons rfl (one_cons rfl (one_cons rfl (one_cons rfl one_nil))))
structure Call where
  who : Int
  thing : Int
  kind : Int
  arg : Int
  res : Int
  from_ : Int
  to_ : Int
deriving DecidableEq
def Call.z : Call := ⟨0, 0, 0, 0, 0, 0, 0⟩
def encCall (x : Call) : List Value := (Value.int .i64 x.who :: (Value.int .i64 x.thing :: (Value.int .i64 x.kind :: (Value.int .i64 x.arg :: (Value.int .i64 x.res :: (Value.int .i64 x.from_ :: (Value.int .i64 x.to_ :: [])))))))
theorem lenCall (x : Call) : (encCall x).length = 7 := rfl
theorem eqCall (x y : Call) : eqCells [true, true, true, true, true, true, true] (encCall x) (encCall y) = some (decide (x = y)) := by
  cases x; cases y; simp [encCall, eqCells, Call.mk.injEq, Bool.beq_eq_decide_eq]
theorem oneCall : ∀ x, ∀ v ∈ encCall x, v.oneCell' = true := fun x => (one_cons rfl (one_cons rfl (one_cons rfl (one_cons rfl (one_cons rfl (one_cons rfl (one_cons rfl one_nil)))))))
structure Bad where
  kind : Int
  a : Int
  b : Int
deriving DecidableEq
def Bad.z : Bad := ⟨0, 0, 0⟩
def encBad (x : Bad) : List Value := (Value.int .i64 x.kind :: (Value.int .i64 x.a :: (Value.int .i64 x.b :: [])))
theorem lenBad (x : Bad) : (encBad x).length = 3 := rfl
theorem eqBad (x y : Bad) : eqCells [true, true, true] (encBad x) (encBad y) = some (decide (x = y)) := by
  cases x; cases y; simp [encBad, eqCells, Bad.mk.injEq, Bool.beq_eq_decide_eq]
theorem oneBad : ∀ x, ∀ v ∈ encBad x, v.oneCell' = true := fun x => (one_cons rfl (one_cons rfl (one_cons rfl one_nil)))
structure Zone where
  value : Int
  first : Int
  last : Int
  forward : Bool
deriving DecidableEq
def Zone.z : Zone := ⟨0, 0, 0, false⟩
def encZone (x : Zone) : List Value := (Value.int .i64 x.value :: (Value.int .i64 x.first :: (Value.int .i64 x.last :: (Value.bool x.forward :: []))))
theorem lenZone (x : Zone) : (encZone x).length = 4 := rfl
theorem eqZone (x y : Zone) : eqCells [true, true, true, false] (encZone x) (encZone y) = some (decide (x = y)) := by
  cases x; cases y; simp [encZone, eqCells, Zone.mk.injEq, Bool.beq_eq_decide_eq]
theorem oneZone : ∀ x, ∀ v ∈ encZone x, v.oneCell' = true := fun x => (one_cons rfl (one_cons rfl (one_cons rfl (one_cons rfl one_nil))))
structure ZonesCluster where
  value : Int
  write : Int
  from_ : Int
  reads : List Int
  zone : Zone
  counts : Bool
deriving DecidableEq
def ZonesCluster.z : ZonesCluster := ⟨0, 0, 0, [], Zone.z, false⟩
def encNZonesCluster (h : Hd) (x : ZonesCluster) : List Value := (Value.int .i64 x.value :: (Value.int .i64 x.write :: (Value.int .i64 x.from_ :: (Value.slice h.1 x.reads.length h.2 :: (encZone x.zone ++ (Value.bool x.counts :: []))))))
def innNZonesCluster (h : Hd) (x : ZonesCluster) : List Chunk := [cR (eI .i64) 1 h.1 h.2 3 x.reads]
theorem lenNZonesCluster (h : Hd) (x : ZonesCluster) : (encNZonesCluster h x).length = 9 := rfl
theorem oneNZonesCluster (h : Hd) (x : ZonesCluster) : ∀ v ∈ encNZonesCluster h x, v.oneCell' = true := (one_cons rfl (one_cons rfl (one_cons rfl (one_cons rfl (one_app (oneZone _) (one_cons rfl one_nil))))))
theorem nilNZonesCluster : ∀ c ∈ innNZonesCluster ((none, 0) : Hd) ZonesCluster.z, c.own = [] ∧ ∀ f, c.ok f := by
  intro c hc
  simp only [innNZonesCluster, List.mem_cons, List.not_mem_nil, or_false] at hc
  subst hc
  exact ⟨rfl, fun f => ⟨by simp [ZonesCluster.z], .inl ⟨rfl, rfl, rfl⟩⟩⟩
theorem cells3 : Try.prog.cellsOf 3 = 0 + 1 := by kernel_rfl
theorem cells4 : Try.prog.cellsOf 4 = 0 + 1 := by kernel_rfl
theorem cells34 : Try.prog.cellsOf 34 = 2 + 1 := by kernel_rfl
theorem cells39 : Try.prog.cellsOf 39 = 3 + 1 := by kernel_rfl
theorem cells42 : Try.prog.cellsOf 42 = 0 + 1 := by kernel_rfl
theorem cells45 : Try.prog.cellsOf 45 = 0 + 1 := by kernel_rfl
theorem cells48 : Try.prog.cellsOf 48 = 6 + 1 := by kernel_rfl
theorem cells97 : Try.prog.cellsOf 97 = 7 + 1 := by kernel_rfl
theorem cells105 : Try.prog.cellsOf 105 = 3 + 1 := by kernel_rfl
theorem cells148 : Try.prog.cellsOf 148 = 8 + 1 := by kernel_rfl
theorem isGo26 : IsGo Try.prog 26 := ⟨_, Try.func26, by kernel_rfl, rfl⟩
theorem isGo59 : IsGo Try.prog 59 := ⟨_, Try.func59, by kernel_rfl, rfl⟩
theorem isGo60 : IsGo Try.prog 60 := ⟨_, Try.func60, by kernel_rfl, rfl⟩
theorem isGo61 : IsGo Try.prog 61 := ⟨_, Try.func61, by kernel_rfl, rfl⟩
theorem isGo62 : IsGo Try.prog 62 := ⟨_, Try.func62, by kernel_rfl, rfl⟩
theorem isGo63 : IsGo Try.prog 63 := ⟨_, Try.func63, by kernel_rfl, rfl⟩
theorem isGo64 : IsGo Try.prog 64 := ⟨_, Try.func64, by kernel_rfl, rfl⟩
theorem isGo65 : IsGo Try.prog 65 := ⟨_, Try.func65, by kernel_rfl, rfl⟩
theorem isGo94 : IsGo Try.prog 94 := ⟨_, Try.func94, by kernel_rfl, rfl⟩
theorem isGo97 : IsGo Try.prog 97 := ⟨_, Try.func97, by kernel_rfl, rfl⟩
theorem isGo98 : IsGo Try.prog 98 := ⟨_, Try.func98, by kernel_rfl, rfl⟩
theorem isGo99 : IsGo Try.prog 99 := ⟨_, Try.func99, by kernel_rfl, rfl⟩
theorem isGo100 : IsGo Try.prog 100 := ⟨_, Try.func100, by kernel_rfl, rfl⟩
theorem isGo101 : IsGo Try.prog 101 := ⟨_, Try.func101, by kernel_rfl, rfl⟩
theorem isGo102 : IsGo Try.prog 102 := ⟨_, Try.func102, by kernel_rfl, rfl⟩
theorem isGo103 : IsGo Try.prog 103 := ⟨_, Try.func103, by kernel_rfl, rfl⟩
theorem isGo104 : IsGo Try.prog 104 := ⟨_, Try.func104, by kernel_rfl, rfl⟩
theorem isGo129 : IsGo Try.prog 129 := ⟨_, Try.func129, by kernel_rfl, rfl⟩
theorem isGo130 : IsGo Try.prog 130 := ⟨_, Try.func130, by kernel_rfl, rfl⟩
theorem zero4 : ∃ i, Try.prog.info? 4 = some i ∧ i.zero = some (Value.bool false) := ⟨_, rfl, by kernel_rfl⟩
theorem zero34 : ∃ i, Try.prog.info? 34 = some i ∧ i.zero = some (Value.agg #[(Value.int .i64 0), (Value.int .i64 0), (Value.int .i64 0)]) := ⟨_, rfl, by kernel_rfl⟩
theorem zero39 : ∃ i, Try.prog.info? 39 = some i ∧ i.zero = some (Value.agg #[(Value.int .i64 0), (Value.int .i64 0), (Value.int .i64 0), (Value.int .i64 0)]) := ⟨_, rfl, by kernel_rfl⟩
theorem zero48 : ∃ i, Try.prog.info? 48 = some i ∧ i.zero = some (Value.agg #[(Value.int .i64 0), (Value.int .i64 0), (Value.int .i64 0), (Value.int .i64 0), (Value.int .i64 0), (Value.int .i64 0), (Value.int .i64 0)]) := ⟨_, rfl, by kernel_rfl⟩
theorem zero105 : ∃ i, Try.prog.info? 105 = some i ∧ i.zero = some (Value.agg #[(Value.int .i64 0), (Value.int .i64 0), (Value.int .i64 0), (Value.bool false)]) := ⟨_, rfl, by kernel_rfl⟩
theorem zero148 : ∃ i, Try.prog.info? 148 = some i ∧ i.zero = some (Value.agg #[(Value.int .i64 0), (Value.int .i64 0), (Value.int .i64 0), (Value.slice none 0 0), (Value.int .i64 0), (Value.int .i64 0), (Value.int .i64 0), (Value.bool false), (Value.bool false)]) := ⟨_, rfl, by kernel_rfl⟩
theorem bz3 : ∃ i, Try.prog.info? 3 = some i ∧ i.zero = some (Value.int .i64 0) ∧ i.size = 1 := ⟨_, rfl, by kernel_rfl, by kernel_rfl⟩
theorem bz48 : ∃ i, Try.prog.info? 48 = some i ∧ i.zero = some (Value.agg #[(Value.int .i64 0), (Value.int .i64 0), (Value.int .i64 0), (Value.int .i64 0), (Value.int .i64 0), (Value.int .i64 0), (Value.int .i64 0)]) ∧ i.size = 7 := ⟨_, rfl, by kernel_rfl, by kernel_rfl⟩
theorem bz105 : ∃ i, Try.prog.info? 105 = some i ∧ i.zero = some (Value.agg #[(Value.int .i64 0), (Value.int .i64 0), (Value.int .i64 0), (Value.bool false)]) ∧ i.size = 4 := ⟨_, rfl, by kernel_rfl, by kernel_rfl⟩
theorem bz148 : ∃ i, Try.prog.info? 148 = some i ∧ i.zero = some (Value.agg #[(Value.int .i64 0), (Value.int .i64 0), (Value.int .i64 0), (Value.slice none 0 0), (Value.int .i64 0), (Value.int .i64 0), (Value.int .i64 0), (Value.bool false), (Value.bool false)]) ∧ i.size = 9 := ⟨_, rfl, by kernel_rfl, by kernel_rfl⟩
theorem ap3 : ∃ i z, Try.prog.info? 3 = some i ∧ i.zero = some z ∧ i.size = 1 ∧ i.bytes = 8 ∧ z.cells.size = 1 ∧ 0 < 1 := ⟨_, (Value.int .i64 0), rfl, by kernel_rfl, by kernel_rfl, by kernel_rfl, by kernel_rfl, by decide⟩
theorem ap48 : ∃ i z, Try.prog.info? 48 = some i ∧ i.zero = some z ∧ i.size = 7 ∧ i.bytes = 56 ∧ z.cells.size = 7 ∧ 0 < 7 := ⟨_, (Value.agg #[(Value.int .i64 0), (Value.int .i64 0), (Value.int .i64 0), (Value.int .i64 0), (Value.int .i64 0), (Value.int .i64 0), (Value.int .i64 0)]), rfl, by kernel_rfl, by kernel_rfl, by kernel_rfl, by kernel_rfl, by decide⟩
theorem ap105 : ∃ i z, Try.prog.info? 105 = some i ∧ i.zero = some z ∧ i.size = 4 ∧ i.bytes = 32 ∧ z.cells.size = 4 ∧ 0 < 4 := ⟨_, (Value.agg #[(Value.int .i64 0), (Value.int .i64 0), (Value.int .i64 0), (Value.bool false)]), rfl, by kernel_rfl, by kernel_rfl, by kernel_rfl, by kernel_rfl, by decide⟩
theorem ap148 : ∃ i z, Try.prog.info? 148 = some i ∧ i.zero = some z ∧ i.size = 9 ∧ i.bytes = 88 ∧ z.cells.size = 9 ∧ 0 < 9 := ⟨_, (Value.agg #[(Value.int .i64 0), (Value.int .i64 0), (Value.int .i64 0), (Value.slice none 0 0), (Value.int .i64 0), (Value.int .i64 0), (Value.int .i64 0), (Value.bool false), (Value.bool false)]), rfl, by kernel_rfl, by kernel_rfl, by kernel_rfl, by kernel_rfl, by decide⟩
theorem shape34 : Shape Try.prog 34 [(0, 1), (1, 1), (2, 1)] #[(Value.int .i64 0), (Value.int .i64 0), (Value.int .i64 0)] := ⟨_, _, Value.agg #[(Value.int .i64 0), (Value.int .i64 0), (Value.int .i64 0)], Try.underlying34, rfl, by kernel_rfl, rfl, by kernel_rfl, by decide⟩
theorem shape48 : Shape Try.prog 48 [(0, 1), (1, 1), (2, 1), (3, 1), (4, 1), (5, 1), (6, 1)] #[(Value.int .i64 0), (Value.int .i64 0), (Value.int .i64 0), (Value.int .i64 0), (Value.int .i64 0), (Value.int .i64 0), (Value.int .i64 0)] := ⟨_, _, Value.agg #[(Value.int .i64 0), (Value.int .i64 0), (Value.int .i64 0), (Value.int .i64 0), (Value.int .i64 0), (Value.int .i64 0), (Value.int .i64 0)], Try.underlying48, rfl, by kernel_rfl, rfl, by kernel_rfl, by decide⟩
theorem shape99 : Shape Try.prog 99 [(0, 1), (1, 1), (2, 8)] #[(Value.slice none 0 0), (Value.slice none 0 0), (Value.int .i64 0), (Value.int .i64 0), (Value.int .i64 0), (Value.int .i64 0), (Value.int .i64 0), (Value.int .i64 0), (Value.int .i64 0), (Value.int .i64 0)] := ⟨_, _, Value.agg #[(Value.slice none 0 0), (Value.slice none 0 0), (Value.int .i64 0), (Value.int .i64 0), (Value.int .i64 0), (Value.int .i64 0), (Value.int .i64 0), (Value.int .i64 0), (Value.int .i64 0), (Value.int .i64 0)], Try.underlying99, rfl, by kernel_rfl, rfl, by kernel_rfl, by decide⟩
theorem shape105 : Shape Try.prog 105 [(0, 1), (1, 1), (2, 1), (3, 1)] #[(Value.int .i64 0), (Value.int .i64 0), (Value.int .i64 0), (Value.bool false)] := ⟨_, _, Value.agg #[(Value.int .i64 0), (Value.int .i64 0), (Value.int .i64 0), (Value.bool false)], Try.underlying105, rfl, by kernel_rfl, rfl, by kernel_rfl, by decide⟩
theorem shape148 : Shape Try.prog 148 [(0, 1), (1, 1), (2, 1), (3, 1), (4, 4), (8, 1)] #[(Value.int .i64 0), (Value.int .i64 0), (Value.int .i64 0), (Value.slice none 0 0), (Value.int .i64 0), (Value.int .i64 0), (Value.int .i64 0), (Value.bool false), (Value.bool false)] := ⟨_, _, Value.agg #[(Value.int .i64 0), (Value.int .i64 0), (Value.int .i64 0), (Value.slice none 0 0), (Value.int .i64 0), (Value.int .i64 0), (Value.int .i64 0), (Value.bool false), (Value.bool false)], Try.underlying148, rfl, by kernel_rfl, rfl, by kernel_rfl, by decide⟩
def history_Types_1 (N : Nat) (t1 : Int) : Option Unit :=
  some ()

theorem history_Types_1_ok {N : Nat} {t1 : Int} {res : Unit} (hF : history_Types_1 N t1 = some res) (w : World) :
    Pure Try.prog 100 [.int .i64 t1] w (.bool ((decide (t1 < 1)) || (decide (5 < t1)))) := by
  refine W.enter (n := 9) Try.func100 rfl rfl Sub.refl (by simp) (St.start w) fun R hR => ?_
  unfold history_Types_1 at hF
  -- region 0: history.go:54
  refine W.seqR fun Q1 hQ1 => ?_
  refine WL.q (Y.assign (.pl rfl)) rfl ?_
  refine WL.next hQ1 (.cons (i := 0) rfl (.nil)) ?_
  -- region 1: history.go:54
  refine W.seqR fun Q2 hQ2 => ?_
  refine WL.q (Y.move (.pl rfl)) rfl ?_
  refine WL.q (Y.lss (.pl rfl) (.pl rfl)) rfl ?_
  refine WL.q (Y.move (.pl rfl)) rfl ?_
  refine WL.g (.pl rfl rfl rfl) (fun hg => Y.move (.pl rfl)) rfl ?_
  refine WL.g (.pl rfl rfl rfl) (fun hg => Y.gtr (.gd (hg) rfl) (.pl rfl)) rfl ?_
  refine WL.q (Y.or (.pl rfl) (fun h2 => .gd (eqf h2) rfl)) rfl ?_
  refine WL.q (Y.assign (.pl rfl)) rfl ?_
  refine WL.next hQ2 (.cons (i := 2) rfl (.nil)) ?_
  obtain rfl := Option.some.inj hF
  refine W.retV (fn := Try.f100) (vs := [.bool ((decide (t1 < 1)) || (decide (5 < t1)))]) Try.results100 ⟨.tmp rfl, trivial⟩ (fun _ _ h => h) (fun wz hw => ?_)
  exact hR _ _ ⟨rfl, (hw.pick [] rfl)⟩

def slices_IndexFunc_int_int_L3 (N : Nat) (s1 : (List Int)) : Int → Option (Int ⊕ (Unit ⊕ Int))
  | v6 =>
    cond (decide (v6 < ((s1).length : Int)))
      (bd (ix s1 v6) fun (x7 : Int) =>
      bd (history_Types_1 N x7) fun (r8 : Unit) =>
      cond ((decide (x7 < 1)) || (decide (5 < x7)))
        (some (.inr (.inr v6)))
        (ck (ok64 (v6 + 1)) <|
        some (.inl (v6 + 1))))
      (some (.inr (.inl ())))

def slices_IndexFunc_int_int (N : Nat) (s1 : (List Int)) : Option Int :=
  bd (α := (Unit ⊕ Int)) (iter (slices_IndexFunc_int_int_L3 N s1) N 0) <|
  Sum.elim (fun _ => 
    some (-1)) (fun p => some p)

theorem slices_IndexFunc_int_int_ok {N : Nat} {s1 : (List Int)} {res : Int} (hF : slices_IndexFunc_int_int N s1 = some res) (w : World) {v5 : Value} (hs4 : SlIn (eI .i64) 1 w v5 s1) :
    Pure Try.prog 129 [v5, .func (.func 100) #[] #[]] w (.int .i64 res) := by
  obtain ⟨A2, c3, rfl, hcc3, hs4⟩ := hs4.form
  refine W.enter (n := 19) Try.func129 rfl rfl Sub.refl (by simp) (St.start w) fun R hR => ?_
  unfold slices_IndexFunc_int_int at hF
  -- region 0: slices.go:107
  refine W.seqR fun Q1 hQ1 => ?_
  refine WL.q (Y.assign (.pl rfl)) rfl ?_
  refine WL.next hQ1 (.cons (i := 0) rfl (.cons (i := 1) rfl (.nil))) ?_
  obtain ⟨o2, hF2, hF⟩ := bnd hF
  refine W.join0 (Em := []) (M := []) (I := (.inl ()) = o2) (.nil) (fun K3 hK3 => ?_) ?_
  · -- up to
    -- region 1: slices.go:108
    refine W.seqR fun Q4 hQ4 => ?_
    refine WL.q (Y.move (.pl rfl)) rfl ?_
    refine WL.q (Y.len Try.underlying45 (.pl rfl)) rfl ?_
    refine WL.q (Y.move (.pl rfl)) rfl ?_
    refine WL.next hQ4 (.cons (i := 0) rfl (.cons (i := 1) rfl (.cons (i := 7) rfl (.cons (i := 8) rfl (.nil))))) ?_
    refine W.block ?_
    refine W.loop1 (Em := fun (v6 : Int) => [(8, .int .i64 v6)]) (M := fun v6 => []) (I := fun v6 k5 => iter (slices_IndexFunc_int_int_L3 N s1) k5 v6 = some o2) 0 N (hF2) (.cons rfl (.nil)) (.cons (i := 0) rfl (.cons (i := 1) rfl (.cons (i := 7) rfl (.nil)))) (fun wz hw => hw.pick [] rfl) (fun v6 k5 hI K6 hK6 => ?_)
    obtain ⟨k5, t5, rfl, hF5, hN5⟩ := iter_step hI
    -- region 2: slices.go:108
    refine W.seqR fun Q7 hQ7 => ?_
    refine WL.q (Y.lss (.pl rfl) (.pl rfl)) rfl ?_
    refine WL.next hQ7 (.cons (i := 0) rfl (.cons (i := 1) rfl (.cons (i := 7) rfl (.cons (i := 8) rfl (.cons (i := 9) rfl (.nil)))))) ?_
    refine W.seq fun K8 hK8 => ?_
    refine W.cond (.pl rfl) (fun hC9 => ?_) (fun hC9 => ?_)
    · replace hF5 := cpos hC9 hF5
      refine W.skip ?_
      refine W.go hK8 (.cons (i := 0) rfl (.cons (i := 1) rfl (.cons (i := 7) rfl (.cons (i := 8) rfl (.nil))))) ?_
      refine W.seq fun K10 hK10 => ?_
      refine W.block ?_
      -- region 3: slices.go:108
      refine W.seqR fun Q11 hQ11 => ?_
      refine WL.q (Y.move (.pl rfl)) rfl ?_
      refine WL.q (Y.assign (.pl rfl)) rfl ?_
      refine WL.next hQ11 (.cons (i := 0) rfl (.cons (i := 1) rfl (.cons (i := 5) rfl (.cons (i := 7) rfl (.cons (i := 8) rfl (.nil)))))) ?_
      -- region 4: slices.go:109
      refine W.seqR fun Q12 hQ12 => ?_
      refine WL.q (Y.move (.pl rfl)) rfl ?_
      refine WL.q (Y.move (.pl rfl)) rfl ?_
      refine WL.q (Y.move (.pl rfl)) rfl ?_
      obtain ⟨x7, hx7, hF5⟩ := bnd hF5
      refine WL.q (Y.slEl Try.underlying45 cells3 hs4 (.pl rfl) (.pl rfl) (ix_lt (hx7))) rfl ?_
      refine WL.q (Y.loadS (enc := (eI .i64)) (v := .int .i64 x7) (j := 0) Try.underlying3 rfl hs4 (.pl rfl) (hx7) rfl rfl) rfl ?_
      obtain ⟨r8, hr8, hF5⟩ := bnd hF5
      refine WL.step (WO.callG (γ := Unit) (first := []) (cap := []) (fun g => .bool ((decide (x7 < 1)) || (decide (5 < x7)))) (fun g => []) (fun g => True) isGo100 (.pl rfl) (.cons (.pl rfl) (.nil)) rfl (fun wz hw => (history_Types_1_ok (hr8) wz ).calls hw) ?_)
      rintro _ -
      refine WL.next hQ12 (.cons (i := 0) rfl (.cons (i := 1) rfl (.cons (i := 5) rfl (.cons (i := 7) rfl (.cons (i := 8) rfl (.cons (i := 16) rfl (.nil))))))) ?_
      refine W.cond (.pl rfl) (fun hC13 => ?_) (fun hC13 => ?_)
      · replace hF5 := cpos hC13 hF5
        -- region 5: slices.go:110
        refine W.seqR fun Q14 hQ14 => ?_
        refine WL.q (Y.move (.pl rfl)) rfl ?_
        refine WL.q (Y.assign (.pl rfl)) rfl ?_
        refine WL.next hQ14 (.cons (i := 4) rfl (.nil)) ?_
        obtain rfl := Option.some.inj hF5
        obtain rfl := einr hN5
        obtain rfl := Option.some.inj hF
        refine W.retV (fn := Try.f129) (vs := [.int .i64 v6]) Try.results129 ⟨.tmp rfl, trivial⟩ (fun _ _ h => h) (fun wz hw => ?_)
        exact hR _ _ ⟨rfl, (hw.pick [] rfl)⟩
      · replace hF5 := cneg hC13 hF5
        refine W.skip ?_
        refine W.go hK10 (.cons (i := 0) rfl (.cons (i := 1) rfl (.cons (i := 7) rfl (.cons (i := 8) rfl (.nil))))) ?_
        -- region 6: slices.go:108
        refine W.reg ?_
        obtain ⟨hk9, hF5⟩ := ckh hF5
        refine WL.q (Y.add (.pl rfl) (.pl rfl) (ok64_lt (hk9))) rfl ?_
        refine WL.q (Y.move (.pl rfl)) rfl ?_
        refine WL.nil ?_
        obtain rfl := Option.some.inj hF5
        exact W.again1 hK6 (v6 + 1) k5 hN5 (Nat.lt_succ_self _) (.cons rfl (.nil)) (.cons (i := 0) rfl (.cons (i := 1) rfl (.cons (i := 7) rfl (.nil)))) (fun wz hw => hw.pick [] rfl)
    · replace hF5 := cneg hC9 hF5
      refine W.exit ?_
      obtain rfl := Option.some.inj hF5
      exact W.joinAt0 hK3  (einr hN5) (.nil) (.nil) (fun wz hw => hw.pick [] rfl)
  · -- behind
    rintro  rfl
    -- region 7: slices.go:113
    refine W.seqR fun Q16 hQ16 => ?_
    refine WL.q (Y.assign (.pl rfl)) rfl ?_
    refine WL.next hQ16 (.cons (i := 4) rfl (.nil)) ?_
    obtain rfl := Option.some.inj hF
    refine W.retV (fn := Try.f129) (vs := [.int .i64 (-1)]) Try.results129 ⟨.tmp rfl, trivial⟩ (fun _ _ h => h) (fun wz hw => ?_)
    exact hR _ _ ⟨rfl, (hw.pick [] rfl)⟩

def slices_ContainsFunc_int_int (N : Nat) (s1 : (List Int)) : Option Bool :=
  bd (slices_IndexFunc_int_int N s1) fun (r6 : Int) =>
  some (decide (0 ≤ r6))

theorem slices_ContainsFunc_int_int_ok {N : Nat} {s1 : (List Int)} {res : Bool} (hF : slices_ContainsFunc_int_int N s1 = some res) (w : World) {v5 : Value} (hs4 : SlIn (eI .i64) 1 w v5 s1) :
    Pure Try.prog 101 [v5, .func (.func 100) #[] #[]] w (.bool res) := by
  obtain ⟨A2, c3, rfl, hcc3, hs4⟩ := hs4.form
  refine W.enter (n := 9) Try.func101 rfl rfl Sub.refl (by simp) (St.start w) fun R hR => ?_
  unfold slices_ContainsFunc_int_int at hF
  -- region 0: slices.go:124
  refine W.seqR fun Q1 hQ1 => ?_
  refine WL.q (Y.assign (.pl rfl)) rfl ?_
  refine WL.next hQ1 (.cons (i := 0) rfl (.cons (i := 1) rfl (.nil))) ?_
  -- region 1: slices.go:125
  refine W.seqR fun Q2 hQ2 => ?_
  refine WL.q (Y.move (.pl rfl)) rfl ?_
  refine WL.q (Y.move (.pl rfl)) rfl ?_
  obtain ⟨r6, hr6, hF⟩ := bnd hF
  refine WL.step (WO.callP isGo129 (.cons (.pl rfl) (.cons (.pl rfl) (.nil))) rfl (fun wz hw => slices_IndexFunc_int_int_ok (hr6) wz (hs4.mono hw)) ?_)
  refine WL.q (Y.geq (.pl rfl) (.pl rfl)) rfl ?_
  refine WL.q (Y.assign (.pl rfl)) rfl ?_
  refine WL.next hQ2 (.cons (i := 4) rfl (.nil)) ?_
  obtain rfl := Option.some.inj hF
  refine W.retV (fn := Try.f101) (vs := [.bool (decide (0 ≤ r6))]) Try.results101 ⟨.tmp rfl, trivial⟩ (fun _ _ h => h) (fun wz hw => ?_)
  exact hR _ _ ⟨rfl, (hw.pick [] rfl)⟩

def history_Types (N : Nat) (types1 : (List Int)) : Option Int :=
  bd ((cond (((decide (((types1).length : Int) < 1)) || (decide (4 < ((types1).length : Int)))) == false) (slices_ContainsFunc_int_int N types1) (some false))) fun (r6 : Bool) =>
  cond (((decide (((types1).length : Int) < 1)) || (decide (4 < ((types1).length : Int)))) || r6)
    (some 1)
    (some 0)

theorem history_Types_ok {N : Nat} {types1 : (List Int)} {res : Int} (hF : history_Types N types1 = some res) (w : World) {v5 : Value} (hs4 : SlIn (eI .i64) 1 w v5 types1) :
    Pure Try.prog 64 [v5] w (.int .i64 res) := by
  obtain ⟨A2, c3, rfl, hcc3, hs4⟩ := hs4.form
  refine W.enter (n := 17) Try.func64 rfl rfl Sub.refl (by simp) (St.start w) fun R hR => ?_
  unfold history_Types at hF
  -- region 0: history.go:53
  refine W.seqR fun Q1 hQ1 => ?_
  refine WL.q (Y.assign (.pl rfl)) rfl ?_
  refine WL.next hQ1 (.cons (i := 0) rfl (.nil)) ?_
  -- region 1: history.go:54
  refine W.seqR fun Q2 hQ2 => ?_
  refine WL.q (Y.assign (.pl rfl)) rfl ?_
  refine WL.next hQ2 (.cons (i := 0) rfl (.cons (i := 3) rfl (.nil))) ?_
  refine W.seq fun K3 hK3 => ?_
  -- region 2: history.go:55
  refine W.seqR fun Q4 hQ4 => ?_
  refine WL.q (Y.move (.pl rfl)) rfl ?_
  refine WL.q (Y.len Try.underlying45 (.pl rfl)) rfl ?_
  refine WL.q (Y.lss (.pl rfl) (.pl rfl)) rfl ?_
  refine WL.q (Y.move (.pl rfl)) rfl ?_
  refine WL.g (.pl rfl rfl rfl) (fun hg => Y.move (.pl rfl)) rfl ?_
  refine WL.g (.pl rfl rfl rfl) (fun hg => Y.len Try.underlying45 (.gd (hg) rfl)) rfl ?_
  refine WL.g (.pl rfl rfl rfl) (fun hg => Y.gtr (.gd (hg) rfl) (.pl rfl)) rfl ?_
  refine WL.q (Y.or (.pl rfl) (fun h2 => .gd (eqf h2) rfl)) rfl ?_
  refine WL.q (Y.move (.pl rfl)) rfl ?_
  refine WL.g (.pl rfl rfl rfl) (fun hg => Y.move (.pl rfl)) rfl ?_
  refine WL.g (.pl rfl rfl rfl) (fun hg => Y.move (.pl rfl)) rfl ?_
  obtain ⟨r6, hr6, hF⟩ := bnd hF
  refine WL.gP (.pl rfl rfl rfl) isGo101 (fun hg => (.cons (.gd (hg) rfl) (.cons (.gd (hg) rfl) (.nil)))) rfl (fun hg wz hw => slices_ContainsFunc_int_int_ok (gpos hg hr6) wz (hs4.mono hw)) ?_
  refine WL.q (Y.or (.pl rfl) (fun h2 => .gd (eqf h2) rfl)) rfl ?_
  refine WL.next hQ4 (.cons (i := 16) rfl (.nil)) ?_
  refine W.cond (.pl rfl) (fun hC5 => ?_) (fun hC5 => ?_)
  · replace hF := cpos hC5 hF
    -- region 3: history.go:56
    refine W.seqR fun Q6 hQ6 => ?_
    refine WL.q (Y.assign (.pl rfl)) rfl ?_
    refine WL.next hQ6 (.cons (i := 2) rfl (.nil)) ?_
    obtain rfl := Option.some.inj hF
    refine W.retV (fn := Try.f64) (vs := [.int .i64 1]) Try.results64 ⟨.tmp rfl, trivial⟩ (fun _ _ h => h) (fun wz hw => ?_)
    exact hR _ _ ⟨rfl, (hw.pick [] rfl)⟩
  · replace hF := cneg hC5 hF
    refine W.skip ?_
    refine W.go hK3 (.nil) ?_
    -- region 4: history.go:58
    refine W.seqR fun Q7 hQ7 => ?_
    refine WL.q (Y.assign (.pl rfl)) rfl ?_
    refine WL.next hQ7 (.cons (i := 2) rfl (.nil)) ?_
    obtain rfl := Option.some.inj hF
    refine W.retV (fn := Try.f64) (vs := [.int .i64 0]) Try.results64 ⟨.tmp rfl, trivial⟩ (fun _ _ h => h) (fun wz hw => ?_)
    exact hR _ _ ⟨rfl, (hw.pick [] rfl)⟩

def history_typeOf (N : Nat) (kind1 : Int) : Option Int :=
  bd (α := Bool) (cond (decide (kind1 = 1))
      (some (decide (kind1 = 1)))
      (some (decide (kind1 = 2)))) <|
  fun (v2 : Bool) => 
    cond v2
      (some 1)
      (bd (α := Bool) (cond (decide (kind1 = 3))
          (some (decide (kind1 = 3)))
          (some (decide (kind1 = 4)))) <|
      fun (v3 : Bool) => 
        cond v3
          (some 2)
          (bd (α := Bool) (cond (decide (kind1 = 5))
              (some (decide (kind1 = 5)))
              (some (decide (kind1 = 6)))) <|
          fun (v4 : Bool) => 
            cond v4
              (some 3)
              (bd (α := Bool) (cond (decide (kind1 = 7))
                  (some (decide (kind1 = 7)))
                  (cond (decide (kind1 = 8))
                    (some (decide (kind1 = 8)))
                    (some (decide (kind1 = 9))))) <|
              fun (v5 : Bool) => 
                cond v5
                  (some 4)
                  (cond (decide (kind1 = 10))
                    (some 5)
                    (some 0)))))

theorem history_typeOf_ok {N : Nat} {kind1 : Int} {res : Int} (hF : history_typeOf N kind1 = some res) (w : World) :
    Pure Try.prog 130 [.int .i64 kind1] w (.int .i64 res) := by
  refine W.enter (n := 19) Try.func130 rfl rfl Sub.refl (by simp) (St.start w) fun R hR => ?_
  unfold history_typeOf at hF
  -- region 0: history.go:11
  refine W.seqR fun Q1 hQ1 => ?_
  refine WL.q (Y.assign (.pl rfl)) rfl ?_
  refine WL.next hQ1 (.cons (i := 0) rfl (.nil)) ?_
  refine W.seq fun K2 hK2 => ?_
  -- region 1: history.go:12
  refine W.seqR fun Q3 hQ3 => ?_
  refine WL.q (Y.move (.pl rfl)) rfl ?_
  refine WL.next hQ3 (.cons (i := 3) rfl (.nil)) ?_
  refine W.block ?_
  obtain ⟨o4, hF4, hF⟩ := bnd hF
  refine W.join1 (Em := fun (v2 : Bool) => [(4, .bool v2)]) (M := fun v2 => []) (I := fun v2 => v2 = o4) (.cons (i := 3) rfl (.nil)) (fun K5 hK5 => ?_) ?_
  · -- up to
    -- region 2: history.go:13
    refine W.seqR fun Q6 hQ6 => ?_
    refine WL.q (Y.eql (.pl rfl) (.pl rfl)) rfl ?_
    refine WL.q (Y.assign (.pl rfl)) rfl ?_
    refine WL.next hQ6 (.cons (i := 3) rfl (.cons (i := 4) rfl (.nil))) ?_
    refine W.cond (.pl rfl) (fun hC7 => ?_) (fun hC7 => ?_)
    · replace hF4 := cpos hC7 hF4
      refine W.skip ?_
      exact W.joinAt1 hK5 (decide (kind1 = 1)) (Option.some.inj hF4) (.cons rfl (.nil)) (.cons (i := 3) rfl (.nil)) (fun wz hw => hw.pick [] rfl)
    · replace hF4 := cneg hC7 hF4
      -- region 3: history.go:13
      refine W.reg ?_
      refine WL.q (Y.eql (.pl rfl) (.pl rfl)) rfl ?_
      refine WL.q (Y.assign (.pl rfl)) rfl ?_
      refine WL.nil ?_
      exact W.joinAt1 hK5 (decide (kind1 = 2)) (Option.some.inj hF4) (.cons rfl (.nil)) (.cons (i := 3) rfl (.nil)) (fun wz hw => hw.pick [] rfl)
  · -- behind
    rintro v2 rfl
    refine W.cond (.pl rfl) (fun hC9 => ?_) (fun hC9 => ?_)
    · replace hF := cpos hC9 hF
      -- region 4: history.go:14
      refine W.seqR fun Q10 hQ10 => ?_
      refine WL.q (Y.assign (.pl rfl)) rfl ?_
      refine WL.next hQ10 (.cons (i := 2) rfl (.nil)) ?_
      obtain rfl := Option.some.inj hF
      refine W.retV (fn := Try.f130) (vs := [.int .i64 1]) Try.results130 ⟨.tmp rfl, trivial⟩ (fun _ _ h => h) (fun wz hw => ?_)
      exact hR _ _ ⟨rfl, (hw.pick [] rfl)⟩
    · replace hF := cneg hC9 hF
      obtain ⟨o11, hF11, hF⟩ := bnd hF
      refine W.join1 (Em := fun (v3 : Bool) => [(7, .bool v3)]) (M := fun v3 => []) (I := fun v3 => v3 = o11) (.cons (i := 3) rfl (.nil)) (fun K12 hK12 => ?_) ?_
      · -- up to
        -- region 5: history.go:15
        refine W.seqR fun Q13 hQ13 => ?_
        refine WL.q (Y.eql (.pl rfl) (.pl rfl)) rfl ?_
        refine WL.q (Y.assign (.pl rfl)) rfl ?_
        refine WL.next hQ13 (.cons (i := 3) rfl (.cons (i := 7) rfl (.nil))) ?_
        refine W.cond (.pl rfl) (fun hC14 => ?_) (fun hC14 => ?_)
        · replace hF11 := cpos hC14 hF11
          refine W.skip ?_
          exact W.joinAt1 hK12 (decide (kind1 = 3)) (Option.some.inj hF11) (.cons rfl (.nil)) (.cons (i := 3) rfl (.nil)) (fun wz hw => hw.pick [] rfl)
        · replace hF11 := cneg hC14 hF11
          -- region 6: history.go:15
          refine W.reg ?_
          refine WL.q (Y.eql (.pl rfl) (.pl rfl)) rfl ?_
          refine WL.q (Y.assign (.pl rfl)) rfl ?_
          refine WL.nil ?_
          exact W.joinAt1 hK12 (decide (kind1 = 4)) (Option.some.inj hF11) (.cons rfl (.nil)) (.cons (i := 3) rfl (.nil)) (fun wz hw => hw.pick [] rfl)
      · -- behind
        rintro v3 rfl
        refine W.cond (.pl rfl) (fun hC16 => ?_) (fun hC16 => ?_)
        · replace hF := cpos hC16 hF
          -- region 7: history.go:16
          refine W.seqR fun Q17 hQ17 => ?_
          refine WL.q (Y.assign (.pl rfl)) rfl ?_
          refine WL.next hQ17 (.cons (i := 2) rfl (.nil)) ?_
          obtain rfl := Option.some.inj hF
          refine W.retV (fn := Try.f130) (vs := [.int .i64 2]) Try.results130 ⟨.tmp rfl, trivial⟩ (fun _ _ h => h) (fun wz hw => ?_)
          exact hR _ _ ⟨rfl, (hw.pick [] rfl)⟩
        · replace hF := cneg hC16 hF
          obtain ⟨o18, hF18, hF⟩ := bnd hF
          refine W.join1 (Em := fun (v4 : Bool) => [(10, .bool v4)]) (M := fun v4 => []) (I := fun v4 => v4 = o18) (.cons (i := 3) rfl (.nil)) (fun K19 hK19 => ?_) ?_
          · -- up to
            -- region 8: history.go:17
            refine W.seqR fun Q20 hQ20 => ?_
            refine WL.q (Y.eql (.pl rfl) (.pl rfl)) rfl ?_
            refine WL.q (Y.assign (.pl rfl)) rfl ?_
            refine WL.next hQ20 (.cons (i := 3) rfl (.cons (i := 10) rfl (.nil))) ?_
            refine W.cond (.pl rfl) (fun hC21 => ?_) (fun hC21 => ?_)
            · replace hF18 := cpos hC21 hF18
              refine W.skip ?_
              exact W.joinAt1 hK19 (decide (kind1 = 5)) (Option.some.inj hF18) (.cons rfl (.nil)) (.cons (i := 3) rfl (.nil)) (fun wz hw => hw.pick [] rfl)
            · replace hF18 := cneg hC21 hF18
              -- region 9: history.go:17
              refine W.reg ?_
              refine WL.q (Y.eql (.pl rfl) (.pl rfl)) rfl ?_
              refine WL.q (Y.assign (.pl rfl)) rfl ?_
              refine WL.nil ?_
              exact W.joinAt1 hK19 (decide (kind1 = 6)) (Option.some.inj hF18) (.cons rfl (.nil)) (.cons (i := 3) rfl (.nil)) (fun wz hw => hw.pick [] rfl)
          · -- behind
            rintro v4 rfl
            refine W.cond (.pl rfl) (fun hC23 => ?_) (fun hC23 => ?_)
            · replace hF := cpos hC23 hF
              -- region 10: history.go:18
              refine W.seqR fun Q24 hQ24 => ?_
              refine WL.q (Y.assign (.pl rfl)) rfl ?_
              refine WL.next hQ24 (.cons (i := 2) rfl (.nil)) ?_
              obtain rfl := Option.some.inj hF
              refine W.retV (fn := Try.f130) (vs := [.int .i64 3]) Try.results130 ⟨.tmp rfl, trivial⟩ (fun _ _ h => h) (fun wz hw => ?_)
              exact hR _ _ ⟨rfl, (hw.pick [] rfl)⟩
            · replace hF := cneg hC23 hF
              obtain ⟨o25, hF25, hF⟩ := bnd hF
              refine W.join1 (Em := fun (v5 : Bool) => [(13, .bool v5)]) (M := fun v5 => []) (I := fun v5 => v5 = o25) (.cons (i := 3) rfl (.nil)) (fun K26 hK26 => ?_) ?_
              · -- up to
                -- region 11: history.go:19
                refine W.seqR fun Q27 hQ27 => ?_
                refine WL.q (Y.eql (.pl rfl) (.pl rfl)) rfl ?_
                refine WL.q (Y.assign (.pl rfl)) rfl ?_
                refine WL.next hQ27 (.cons (i := 3) rfl (.cons (i := 13) rfl (.nil))) ?_
                refine W.cond (.pl rfl) (fun hC28 => ?_) (fun hC28 => ?_)
                · replace hF25 := cpos hC28 hF25
                  refine W.skip ?_
                  exact W.joinAt1 hK26 (decide (kind1 = 7)) (Option.some.inj hF25) (.cons rfl (.nil)) (.cons (i := 3) rfl (.nil)) (fun wz hw => hw.pick [] rfl)
                · replace hF25 := cneg hC28 hF25
                  -- region 12: history.go:19
                  refine W.seqR fun Q29 hQ29 => ?_
                  refine WL.q (Y.eql (.pl rfl) (.pl rfl)) rfl ?_
                  refine WL.q (Y.assign (.pl rfl)) rfl ?_
                  refine WL.next hQ29 (.cons (i := 3) rfl (.cons (i := 13) rfl (.nil))) ?_
                  refine W.cond (.pl rfl) (fun hC30 => ?_) (fun hC30 => ?_)
                  · replace hF25 := cpos hC30 hF25
                    refine W.skip ?_
                    exact W.joinAt1 hK26 (decide (kind1 = 8)) (Option.some.inj hF25) (.cons rfl (.nil)) (.cons (i := 3) rfl (.nil)) (fun wz hw => hw.pick [] rfl)
                  · replace hF25 := cneg hC30 hF25
                    -- region 13: history.go:19
                    refine W.reg ?_
                    refine WL.q (Y.eql (.pl rfl) (.pl rfl)) rfl ?_
                    refine WL.q (Y.assign (.pl rfl)) rfl ?_
                    refine WL.nil ?_
                    exact W.joinAt1 hK26 (decide (kind1 = 9)) (Option.some.inj hF25) (.cons rfl (.nil)) (.cons (i := 3) rfl (.nil)) (fun wz hw => hw.pick [] rfl)
              · -- behind
                rintro v5 rfl
                refine W.cond (.pl rfl) (fun hC32 => ?_) (fun hC32 => ?_)
                · replace hF := cpos hC32 hF
                  -- region 14: history.go:20
                  refine W.seqR fun Q33 hQ33 => ?_
                  refine WL.q (Y.assign (.pl rfl)) rfl ?_
                  refine WL.next hQ33 (.cons (i := 2) rfl (.nil)) ?_
                  obtain rfl := Option.some.inj hF
                  refine W.retV (fn := Try.f130) (vs := [.int .i64 4]) Try.results130 ⟨.tmp rfl, trivial⟩ (fun _ _ h => h) (fun wz hw => ?_)
                  exact hR _ _ ⟨rfl, (hw.pick [] rfl)⟩
                · replace hF := cneg hC32 hF
                  -- region 15: history.go:21
                  refine W.seqR fun Q34 hQ34 => ?_
                  refine WL.q (Y.eql (.pl rfl) (.pl rfl)) rfl ?_
                  refine WL.q (Y.assign (.pl rfl)) rfl ?_
                  refine WL.next hQ34 (.cons (i := 17) rfl (.nil)) ?_
                  refine W.cond (.pl rfl) (fun hC35 => ?_) (fun hC35 => ?_)
                  · replace hF := cpos hC35 hF
                    -- region 16: history.go:22
                    refine W.seqR fun Q36 hQ36 => ?_
                    refine WL.q (Y.assign (.pl rfl)) rfl ?_
                    refine WL.next hQ36 (.cons (i := 2) rfl (.nil)) ?_
                    obtain rfl := Option.some.inj hF
                    refine W.retV (fn := Try.f130) (vs := [.int .i64 5]) Try.results130 ⟨.tmp rfl, trivial⟩ (fun _ _ h => h) (fun wz hw => ?_)
                    exact hR _ _ ⟨rfl, (hw.pick [] rfl)⟩
                  · replace hF := cneg hC35 hF
                    refine W.skip ?_
                    refine W.go hK2 (.nil) ?_
                    -- region 17: history.go:24
                    refine W.seqR fun Q37 hQ37 => ?_
                    refine WL.q (Y.assign (.pl rfl)) rfl ?_
                    refine WL.next hQ37 (.cons (i := 2) rfl (.nil)) ?_
                    obtain rfl := Option.some.inj hF
                    refine W.retV (fn := Try.f130) (vs := [.int .i64 0]) Try.results130 ⟨.tmp rfl, trivial⟩ (fun _ _ h => h) (fun wz hw => ?_)
                    exact hR _ _ ⟨rfl, (hw.pick [] rfl)⟩

def history_Fits (N : Nat) (typ1 : Int) (kind2 : Int) : Option Bool :=
  bd ((cond ((!(decide (typ1 = 0))) == true) (history_typeOf N kind2) (some 0))) fun (r3 : Int) =>
  some ((!(decide (typ1 = 0))) && (decide (r3 = typ1)))

theorem history_Fits_ok {N : Nat} {typ1 : Int} {kind2 : Int} {res : Bool} (hF : history_Fits N typ1 kind2 = some res) (w : World) :
    Pure Try.prog 102 [.int .i64 typ1, .int .i64 kind2] w (.bool res) := by
  refine W.enter (n := 13) Try.func102 rfl rfl Sub.refl (by simp) (St.start w) fun R hR => ?_
  unfold history_Fits at hF
  -- region 0: history.go:28
  refine W.seqR fun Q1 hQ1 => ?_
  refine WL.q (Y.assign (.pl rfl)) rfl ?_
  refine WL.next hQ1 (.cons (i := 0) rfl (.cons (i := 1) rfl (.nil))) ?_
  -- region 1: history.go:28
  refine W.seqR fun Q2 hQ2 => ?_
  refine WL.q (Y.move (.pl rfl)) rfl ?_
  refine WL.q (Y.neq (.pl rfl) (.pl rfl)) rfl ?_
  refine WL.q (Y.move (.pl rfl)) rfl ?_
  refine WL.g (.pl rfl rfl rfl) (fun hg => Y.move (.pl rfl)) rfl ?_
  obtain ⟨r3, hr3, hF⟩ := bnd hF
  refine WL.gP (.pl rfl rfl rfl) isGo130 (fun hg => (.cons (.gd (hg) rfl) (.nil))) rfl (fun hg wz hw => history_typeOf_ok (gpos hg hr3) wz ) ?_
  refine WL.g (.pl rfl rfl rfl) (fun hg => Y.move (.pl rfl)) rfl ?_
  refine WL.g (.pl rfl rfl rfl) (fun hg => Y.eql (.gd (hg) rfl) (.gd (hg) rfl)) rfl ?_
  refine WL.q (Y.and (.pl rfl) (fun h2 => .gd (eqt h2) rfl)) rfl ?_
  refine WL.q (Y.assign (.pl rfl)) rfl ?_
  refine WL.next hQ2 (.cons (i := 4) rfl (.nil)) ?_
  obtain rfl := Option.some.inj hF
  refine W.retV (fn := Try.f102) (vs := [.bool ((!(decide (typ1 = 0))) && (decide (r3 = typ1)))]) Try.results102 ⟨.tmp rfl, trivial⟩ (fun _ _ h => h) (fun wz hw => ?_)
  exact hR _ _ ⟨rfl, (hw.pick [] rfl)⟩

def history_Argument (N : Nat) (kind1 : Int) (n2 : Int) : Option Bool :=
  bd (α := (Unit ⊕ Bool)) (cond (decide (kind1 = 2))
      (cond (decide (kind1 = 2))
        (some (.inr (decide (n2 = 0))))
        (some (.inl ())))
      (cond (decide (kind1 = 4))
        (cond (decide (kind1 = 4))
          (some (.inr (decide (n2 = 0))))
          (some (.inl ())))
        (cond (decide (kind1 = 6))
          (cond (decide (kind1 = 6))
            (some (.inr (decide (n2 = 0))))
            (some (.inl ())))
          (cond (decide (kind1 = 10))
            (some (.inr (decide (n2 = 0))))
            (some (.inl ())))))) <|
  Sum.elim (fun _ => 
    some ((decide (1 ≤ n2)) && (decide (n2 ≤ 1000)))) (fun p => some p)

theorem history_Argument_ok {N : Nat} {kind1 : Int} {n2 : Int} {res : Bool} (hF : history_Argument N kind1 n2 = some res) (w : World) :
    Pure Try.prog 103 [.int .i64 kind1, .int .i64 n2] w (.bool res) := by
  refine W.enter (n := 19) Try.func103 rfl rfl Sub.refl (by simp) (St.start w) fun R hR => ?_
  unfold history_Argument at hF
  -- region 0: history.go:31
  refine W.seqR fun Q1 hQ1 => ?_
  refine WL.q (Y.assign (.pl rfl)) rfl ?_
  refine WL.next hQ1 (.cons (i := 0) rfl (.cons (i := 1) rfl (.nil))) ?_
  obtain ⟨o2, hF2, hF⟩ := bnd hF
  refine W.join0 (Em := []) (M := []) (I := (.inl ()) = o2) (.cons (i := 1) rfl (.nil)) (fun K3 hK3 => ?_) ?_
  · -- up to
    -- region 1: history.go:32
    refine W.seqR fun Q4 hQ4 => ?_
    refine WL.q (Y.move (.pl rfl)) rfl ?_
    refine WL.next hQ4 (.cons (i := 1) rfl (.cons (i := 5) rfl (.nil))) ?_
    refine W.block ?_
    refine W.seq fun K5 hK5 => ?_
    -- region 2: history.go:33
    refine W.seqR fun Q6 hQ6 => ?_
    refine WL.q (Y.eql (.pl rfl) (.pl rfl)) rfl ?_
    refine WL.q (Y.assign (.pl rfl)) rfl ?_
    refine WL.next hQ6 (.cons (i := 1) rfl (.cons (i := 5) rfl (.cons (i := 6) rfl (.nil)))) ?_
    refine W.cond (.pl rfl) (fun hC7 => ?_) (fun hC7 => ?_)
    · replace hF2 := cpos hC7 hF2
      refine W.skip ?_
      refine W.go hK5 (.cons (i := 1) rfl (.cons (i := 6) rfl (.nil))) ?_
      refine W.cond (.pl rfl) (fun hC8 => ?_) (fun hC8 => ?_)
      · replace hF2 := cpos hC8 hF2
        -- region 6: history.go:34
        refine W.seqR fun Q9 hQ9 => ?_
        refine WL.q (Y.move (.pl rfl)) rfl ?_
        refine WL.q (Y.eql (.pl rfl) (.pl rfl)) rfl ?_
        refine WL.q (Y.assign (.pl rfl)) rfl ?_
        refine WL.next hQ9 (.cons (i := 4) rfl (.nil)) ?_
        obtain rfl := Option.some.inj hF2
        obtain rfl := Option.some.inj hF
        refine W.retV (fn := Try.f103) (vs := [.bool (decide (n2 = 0))]) Try.results103 ⟨.tmp rfl, trivial⟩ (fun _ _ h => h) (fun wz hw => ?_)
        exact hR _ _ ⟨rfl, (hw.pick [] rfl)⟩
      · replace hF2 := cneg hC8 hF2
        refine W.skip ?_
        exact W.joinAt0 hK3  (Option.some.inj hF2) (.nil) (.cons (i := 1) rfl (.nil)) (fun wz hw => hw.pick [] rfl)
    · replace hF2 := cneg hC7 hF2
      -- region 3: history.go:33
      refine W.seqR fun Q10 hQ10 => ?_
      refine WL.q (Y.eql (.pl rfl) (.pl rfl)) rfl ?_
      refine WL.q (Y.assign (.pl rfl)) rfl ?_
      refine WL.next hQ10 (.cons (i := 1) rfl (.cons (i := 5) rfl (.cons (i := 6) rfl (.nil)))) ?_
      refine W.cond (.pl rfl) (fun hC11 => ?_) (fun hC11 => ?_)
      · replace hF2 := cpos hC11 hF2
        refine W.skip ?_
        refine W.go hK5 (.cons (i := 1) rfl (.cons (i := 6) rfl (.nil))) ?_
        refine W.cond (.pl rfl) (fun hC12 => ?_) (fun hC12 => ?_)
        · replace hF2 := cpos hC12 hF2
          -- region 6: history.go:34
          refine W.seqR fun Q13 hQ13 => ?_
          refine WL.q (Y.move (.pl rfl)) rfl ?_
          refine WL.q (Y.eql (.pl rfl) (.pl rfl)) rfl ?_
          refine WL.q (Y.assign (.pl rfl)) rfl ?_
          refine WL.next hQ13 (.cons (i := 4) rfl (.nil)) ?_
          obtain rfl := Option.some.inj hF2
          obtain rfl := Option.some.inj hF
          refine W.retV (fn := Try.f103) (vs := [.bool (decide (n2 = 0))]) Try.results103 ⟨.tmp rfl, trivial⟩ (fun _ _ h => h) (fun wz hw => ?_)
          exact hR _ _ ⟨rfl, (hw.pick [] rfl)⟩
        · replace hF2 := cneg hC12 hF2
          refine W.skip ?_
          exact W.joinAt0 hK3  (Option.some.inj hF2) (.nil) (.cons (i := 1) rfl (.nil)) (fun wz hw => hw.pick [] rfl)
      · replace hF2 := cneg hC11 hF2
        -- region 4: history.go:33
        refine W.seqR fun Q14 hQ14 => ?_
        refine WL.q (Y.eql (.pl rfl) (.pl rfl)) rfl ?_
        refine WL.q (Y.assign (.pl rfl)) rfl ?_
        refine WL.next hQ14 (.cons (i := 1) rfl (.cons (i := 5) rfl (.cons (i := 6) rfl (.nil)))) ?_
        refine W.cond (.pl rfl) (fun hC15 => ?_) (fun hC15 => ?_)
        · replace hF2 := cpos hC15 hF2
          refine W.skip ?_
          refine W.go hK5 (.cons (i := 1) rfl (.cons (i := 6) rfl (.nil))) ?_
          refine W.cond (.pl rfl) (fun hC16 => ?_) (fun hC16 => ?_)
          · replace hF2 := cpos hC16 hF2
            -- region 6: history.go:34
            refine W.seqR fun Q17 hQ17 => ?_
            refine WL.q (Y.move (.pl rfl)) rfl ?_
            refine WL.q (Y.eql (.pl rfl) (.pl rfl)) rfl ?_
            refine WL.q (Y.assign (.pl rfl)) rfl ?_
            refine WL.next hQ17 (.cons (i := 4) rfl (.nil)) ?_
            obtain rfl := Option.some.inj hF2
            obtain rfl := Option.some.inj hF
            refine W.retV (fn := Try.f103) (vs := [.bool (decide (n2 = 0))]) Try.results103 ⟨.tmp rfl, trivial⟩ (fun _ _ h => h) (fun wz hw => ?_)
            exact hR _ _ ⟨rfl, (hw.pick [] rfl)⟩
          · replace hF2 := cneg hC16 hF2
            refine W.skip ?_
            exact W.joinAt0 hK3  (Option.some.inj hF2) (.nil) (.cons (i := 1) rfl (.nil)) (fun wz hw => hw.pick [] rfl)
        · replace hF2 := cneg hC15 hF2
          -- region 5: history.go:33
          refine W.reg ?_
          refine WL.q (Y.eql (.pl rfl) (.pl rfl)) rfl ?_
          refine WL.q (Y.assign (.pl rfl)) rfl ?_
          refine WL.nil ?_
          refine W.go hK5 (.cons (i := 1) rfl (.cons (i := 6) rfl (.nil))) ?_
          refine W.cond (.pl rfl) (fun hC19 => ?_) (fun hC19 => ?_)
          · replace hF2 := cpos hC19 hF2
            -- region 6: history.go:34
            refine W.seqR fun Q20 hQ20 => ?_
            refine WL.q (Y.move (.pl rfl)) rfl ?_
            refine WL.q (Y.eql (.pl rfl) (.pl rfl)) rfl ?_
            refine WL.q (Y.assign (.pl rfl)) rfl ?_
            refine WL.next hQ20 (.cons (i := 4) rfl (.nil)) ?_
            obtain rfl := Option.some.inj hF2
            obtain rfl := Option.some.inj hF
            refine W.retV (fn := Try.f103) (vs := [.bool (decide (n2 = 0))]) Try.results103 ⟨.tmp rfl, trivial⟩ (fun _ _ h => h) (fun wz hw => ?_)
            exact hR _ _ ⟨rfl, (hw.pick [] rfl)⟩
          · replace hF2 := cneg hC19 hF2
            refine W.skip ?_
            exact W.joinAt0 hK3  (Option.some.inj hF2) (.nil) (.cons (i := 1) rfl (.nil)) (fun wz hw => hw.pick [] rfl)
  · -- behind
    rintro  rfl
    -- region 7: history.go:36
    refine W.seqR fun Q21 hQ21 => ?_
    refine WL.q (Y.move (.pl rfl)) rfl ?_
    refine WL.q (Y.geq (.pl rfl) (.pl rfl)) rfl ?_
    refine WL.q (Y.move (.pl rfl)) rfl ?_
    refine WL.g (.pl rfl rfl rfl) (fun hg => Y.move (.pl rfl)) rfl ?_
    refine WL.g (.pl rfl rfl rfl) (fun hg => Y.leq (.gd (hg) rfl) (.pl rfl)) rfl ?_
    refine WL.q (Y.and (.pl rfl) (fun h2 => .gd (eqt h2) rfl)) rfl ?_
    refine WL.q (Y.assign (.pl rfl)) rfl ?_
    refine WL.next hQ21 (.cons (i := 4) rfl (.nil)) ?_
    obtain rfl := Option.some.inj hF
    refine W.retV (fn := Try.f103) (vs := [.bool ((decide (1 ≤ n2)) && (decide (n2 ≤ 1000)))]) Try.results103 ⟨.tmp rfl, trivial⟩ (fun _ _ h => h) (fun wz hw => ?_)
    exact hR _ _ ⟨rfl, (hw.pick [] rfl)⟩

def history_result (N : Nat) (kind1 : Int) (n2 : Int) : Option Bool :=
  bd (α := Bool) (cond (decide (kind1 = 2))
      (some (decide (kind1 = 2)))
      (some (decide (kind1 = 10)))) <|
  fun (v3 : Bool) => 
    cond v3
      (some ((decide (0 ≤ n2)) && (decide (n2 ≤ 1000))))
      (bd (α := Bool) (cond (decide (kind1 = 4))
          (some (decide (kind1 = 4)))
          (some (decide (kind1 = 6)))) <|
      fun (v4 : Bool) => 
        cond v4
          (some ((decide (n2 = (-1))) || ((decide (1 ≤ n2)) && (decide (n2 ≤ 1000)))))
          (bd (α := Bool) (cond (decide (kind1 = 7))
              (some (decide (kind1 = 7)))
              (cond (decide (kind1 = 8))
                (some (decide (kind1 = 8)))
                (some (decide (kind1 = 9))))) <|
          fun (v5 : Bool) => 
            cond v5
              (some ((decide (n2 = 0)) || (decide (n2 = 1))))
              (some (decide (n2 = 0)))))

theorem history_result_ok {N : Nat} {kind1 : Int} {n2 : Int} {res : Bool} (hF : history_result N kind1 n2 = some res) (w : World) :
    Pure Try.prog 104 [.int .i64 kind1, .int .i64 n2] w (.bool res) := by
  refine W.enter (n := 40) Try.func104 rfl rfl Sub.refl (by simp) (St.start w) fun R hR => ?_
  unfold history_result at hF
  -- region 0: history.go:40
  refine W.seqR fun Q1 hQ1 => ?_
  refine WL.q (Y.assign (.pl rfl)) rfl ?_
  refine WL.next hQ1 (.cons (i := 0) rfl (.cons (i := 1) rfl (.nil))) ?_
  refine W.seq fun K2 hK2 => ?_
  -- region 1: history.go:41
  refine W.seqR fun Q3 hQ3 => ?_
  refine WL.q (Y.move (.pl rfl)) rfl ?_
  refine WL.next hQ3 (.cons (i := 1) rfl (.cons (i := 5) rfl (.nil))) ?_
  refine W.block ?_
  obtain ⟨o4, hF4, hF⟩ := bnd hF
  refine W.join1 (Em := fun (v3 : Bool) => [(6, .bool v3)]) (M := fun v3 => []) (I := fun v3 => v3 = o4) (.cons (i := 1) rfl (.cons (i := 5) rfl (.nil))) (fun K5 hK5 => ?_) ?_
  · -- up to
    -- region 2: history.go:42
    refine W.seqR fun Q6 hQ6 => ?_
    refine WL.q (Y.eql (.pl rfl) (.pl rfl)) rfl ?_
    refine WL.q (Y.assign (.pl rfl)) rfl ?_
    refine WL.next hQ6 (.cons (i := 1) rfl (.cons (i := 5) rfl (.cons (i := 6) rfl (.nil)))) ?_
    refine W.cond (.pl rfl) (fun hC7 => ?_) (fun hC7 => ?_)
    · replace hF4 := cpos hC7 hF4
      refine W.skip ?_
      exact W.joinAt1 hK5 (decide (kind1 = 2)) (Option.some.inj hF4) (.cons rfl (.nil)) (.cons (i := 1) rfl (.cons (i := 5) rfl (.nil))) (fun wz hw => hw.pick [] rfl)
    · replace hF4 := cneg hC7 hF4
      -- region 3: history.go:42
      refine W.reg ?_
      refine WL.q (Y.eql (.pl rfl) (.pl rfl)) rfl ?_
      refine WL.q (Y.assign (.pl rfl)) rfl ?_
      refine WL.nil ?_
      exact W.joinAt1 hK5 (decide (kind1 = 10)) (Option.some.inj hF4) (.cons rfl (.nil)) (.cons (i := 1) rfl (.cons (i := 5) rfl (.nil))) (fun wz hw => hw.pick [] rfl)
  · -- behind
    rintro v3 rfl
    refine W.cond (.pl rfl) (fun hC9 => ?_) (fun hC9 => ?_)
    · replace hF := cpos hC9 hF
      -- region 4: history.go:43
      refine W.seqR fun Q10 hQ10 => ?_
      refine WL.q (Y.move (.pl rfl)) rfl ?_
      refine WL.q (Y.geq (.pl rfl) (.pl rfl)) rfl ?_
      refine WL.q (Y.move (.pl rfl)) rfl ?_
      refine WL.g (.pl rfl rfl rfl) (fun hg => Y.move (.pl rfl)) rfl ?_
      refine WL.g (.pl rfl rfl rfl) (fun hg => Y.leq (.gd (hg) rfl) (.pl rfl)) rfl ?_
      refine WL.q (Y.and (.pl rfl) (fun h2 => .gd (eqt h2) rfl)) rfl ?_
      refine WL.q (Y.assign (.pl rfl)) rfl ?_
      refine WL.next hQ10 (.cons (i := 4) rfl (.nil)) ?_
      obtain rfl := Option.some.inj hF
      refine W.retV (fn := Try.f104) (vs := [.bool ((decide (0 ≤ n2)) && (decide (n2 ≤ 1000)))]) Try.results104 ⟨.tmp rfl, trivial⟩ (fun _ _ h => h) (fun wz hw => ?_)
      exact hR _ _ ⟨rfl, (hw.pick [] rfl)⟩
    · replace hF := cneg hC9 hF
      obtain ⟨o11, hF11, hF⟩ := bnd hF
      refine W.join1 (Em := fun (v4 : Bool) => [(15, .bool v4)]) (M := fun v4 => []) (I := fun v4 => v4 = o11) (.cons (i := 1) rfl (.cons (i := 5) rfl (.nil))) (fun K12 hK12 => ?_) ?_
      · -- up to
        -- region 5: history.go:44
        refine W.seqR fun Q13 hQ13 => ?_
        refine WL.q (Y.eql (.pl rfl) (.pl rfl)) rfl ?_
        refine WL.q (Y.assign (.pl rfl)) rfl ?_
        refine WL.next hQ13 (.cons (i := 1) rfl (.cons (i := 5) rfl (.cons (i := 15) rfl (.nil)))) ?_
        refine W.cond (.pl rfl) (fun hC14 => ?_) (fun hC14 => ?_)
        · replace hF11 := cpos hC14 hF11
          refine W.skip ?_
          exact W.joinAt1 hK12 (decide (kind1 = 4)) (Option.some.inj hF11) (.cons rfl (.nil)) (.cons (i := 1) rfl (.cons (i := 5) rfl (.nil))) (fun wz hw => hw.pick [] rfl)
        · replace hF11 := cneg hC14 hF11
          -- region 6: history.go:44
          refine W.reg ?_
          refine WL.q (Y.eql (.pl rfl) (.pl rfl)) rfl ?_
          refine WL.q (Y.assign (.pl rfl)) rfl ?_
          refine WL.nil ?_
          exact W.joinAt1 hK12 (decide (kind1 = 6)) (Option.some.inj hF11) (.cons rfl (.nil)) (.cons (i := 1) rfl (.cons (i := 5) rfl (.nil))) (fun wz hw => hw.pick [] rfl)
      · -- behind
        rintro v4 rfl
        refine W.cond (.pl rfl) (fun hC16 => ?_) (fun hC16 => ?_)
        · replace hF := cpos hC16 hF
          -- region 7: history.go:45
          refine W.seqR fun Q17 hQ17 => ?_
          refine WL.q (Y.move (.pl rfl)) rfl ?_
          refine WL.q (Y.eql (.pl rfl) (.pl rfl)) rfl ?_
          refine WL.q (Y.move (.pl rfl)) rfl ?_
          refine WL.g (.pl rfl rfl rfl) (fun hg => Y.move (.pl rfl)) rfl ?_
          refine WL.g (.pl rfl rfl rfl) (fun hg => Y.geq (.gd (hg) rfl) (.pl rfl)) rfl ?_
          refine WL.g (.pl rfl rfl rfl) (fun hg => Y.move (.gd (hg) rfl)) rfl ?_
          refine WL.g (.gd rfl rfl rfl) (fun hg => Y.move (.pl rfl)) rfl ?_
          refine WL.g (.gd rfl rfl rfl) (fun hg => Y.leq (.gd (hg) rfl) (.pl rfl)) rfl ?_
          refine WL.g (.pl rfl rfl rfl) (fun hg => Y.and (.gd (hg) rfl) (fun h2 => .gd (band hg (eqt h2)) rfl)) rfl ?_
          refine WL.q (Y.or (.pl rfl) (fun h2 => .gd (eqf h2) rfl)) rfl ?_
          refine WL.q (Y.assign (.pl rfl)) rfl ?_
          refine WL.next hQ17 (.cons (i := 4) rfl (.nil)) ?_
          obtain rfl := Option.some.inj hF
          refine W.retV (fn := Try.f104) (vs := [.bool ((decide (n2 = (-1))) || ((decide (1 ≤ n2)) && (decide (n2 ≤ 1000))))]) Try.results104 ⟨.tmp rfl, trivial⟩ (fun _ _ h => h) (fun wz hw => ?_)
          exact hR _ _ ⟨rfl, (hw.pick [] rfl)⟩
        · replace hF := cneg hC16 hF
          obtain ⟨o18, hF18, hF⟩ := bnd hF
          refine W.join1 (Em := fun (v5 : Bool) => [(28, .bool v5)]) (M := fun v5 => []) (I := fun v5 => v5 = o18) (.cons (i := 1) rfl (.nil)) (fun K19 hK19 => ?_) ?_
          · -- up to
            -- region 8: history.go:46
            refine W.seqR fun Q20 hQ20 => ?_
            refine WL.q (Y.eql (.pl rfl) (.pl rfl)) rfl ?_
            refine WL.q (Y.assign (.pl rfl)) rfl ?_
            refine WL.next hQ20 (.cons (i := 1) rfl (.cons (i := 5) rfl (.cons (i := 28) rfl (.nil)))) ?_
            refine W.cond (.pl rfl) (fun hC21 => ?_) (fun hC21 => ?_)
            · replace hF18 := cpos hC21 hF18
              refine W.skip ?_
              exact W.joinAt1 hK19 (decide (kind1 = 7)) (Option.some.inj hF18) (.cons rfl (.nil)) (.cons (i := 1) rfl (.nil)) (fun wz hw => hw.pick [] rfl)
            · replace hF18 := cneg hC21 hF18
              -- region 9: history.go:46
              refine W.seqR fun Q22 hQ22 => ?_
              refine WL.q (Y.eql (.pl rfl) (.pl rfl)) rfl ?_
              refine WL.q (Y.assign (.pl rfl)) rfl ?_
              refine WL.next hQ22 (.cons (i := 1) rfl (.cons (i := 5) rfl (.cons (i := 28) rfl (.nil)))) ?_
              refine W.cond (.pl rfl) (fun hC23 => ?_) (fun hC23 => ?_)
              · replace hF18 := cpos hC23 hF18
                refine W.skip ?_
                exact W.joinAt1 hK19 (decide (kind1 = 8)) (Option.some.inj hF18) (.cons rfl (.nil)) (.cons (i := 1) rfl (.nil)) (fun wz hw => hw.pick [] rfl)
              · replace hF18 := cneg hC23 hF18
                -- region 10: history.go:46
                refine W.reg ?_
                refine WL.q (Y.eql (.pl rfl) (.pl rfl)) rfl ?_
                refine WL.q (Y.assign (.pl rfl)) rfl ?_
                refine WL.nil ?_
                exact W.joinAt1 hK19 (decide (kind1 = 9)) (Option.some.inj hF18) (.cons rfl (.nil)) (.cons (i := 1) rfl (.nil)) (fun wz hw => hw.pick [] rfl)
          · -- behind
            rintro v5 rfl
            refine W.cond (.pl rfl) (fun hC25 => ?_) (fun hC25 => ?_)
            · replace hF := cpos hC25 hF
              -- region 11: history.go:47
              refine W.seqR fun Q26 hQ26 => ?_
              refine WL.q (Y.move (.pl rfl)) rfl ?_
              refine WL.q (Y.eql (.pl rfl) (.pl rfl)) rfl ?_
              refine WL.q (Y.move (.pl rfl)) rfl ?_
              refine WL.g (.pl rfl rfl rfl) (fun hg => Y.move (.pl rfl)) rfl ?_
              refine WL.g (.pl rfl rfl rfl) (fun hg => Y.eql (.gd (hg) rfl) (.pl rfl)) rfl ?_
              refine WL.q (Y.or (.pl rfl) (fun h2 => .gd (eqf h2) rfl)) rfl ?_
              refine WL.q (Y.assign (.pl rfl)) rfl ?_
              refine WL.next hQ26 (.cons (i := 4) rfl (.nil)) ?_
              obtain rfl := Option.some.inj hF
              refine W.retV (fn := Try.f104) (vs := [.bool ((decide (n2 = 0)) || (decide (n2 = 1)))]) Try.results104 ⟨.tmp rfl, trivial⟩ (fun _ _ h => h) (fun wz hw => ?_)
              exact hR _ _ ⟨rfl, (hw.pick [] rfl)⟩
            · replace hF := cneg hC25 hF
              refine W.skip ?_
              refine W.go hK2 (.cons (i := 1) rfl (.nil)) ?_
              -- region 12: history.go:49
              refine W.seqR fun Q27 hQ27 => ?_
              refine WL.q (Y.move (.pl rfl)) rfl ?_
              refine WL.q (Y.eql (.pl rfl) (.pl rfl)) rfl ?_
              refine WL.q (Y.assign (.pl rfl)) rfl ?_
              refine WL.next hQ27 (.cons (i := 4) rfl (.nil)) ?_
              obtain rfl := Option.some.inj hF
              refine W.retV (fn := Try.f104) (vs := [.bool (decide (n2 = 0))]) Try.results104 ⟨.tmp rfl, trivial⟩ (fun _ _ h => h) (fun wz hw => ?_)
              exact hR _ _ ⟨rfl, (hw.pick [] rfl)⟩

def history_reader_event (N : Nat) (types2 : (List Int)) (out8 : (List Call)) (open9 : (List Int)) (i10 : Int) (v11 : Event) : Option ((List Call) × (List Int) × Int) :=
  cond ((((decide (v11.who < 0)) || (decide (8 ≤ v11.who))) || (decide (v11.thing < 0))) || (decide (((types2).length : Int) ≤ v11.thing)))
    (some (out8, open9, 3))
    (bd (ax 8 0 open9 v11.who) fun (x13 : Int) =>
    cond (!(decide (v11.kind = 0)))
      (bd (ix types2 v11.thing) fun (x14 : Int) =>
      bd (history_Fits N x14 v11.kind) fun (r15 : Bool) =>
      bd ((cond ((!r15) == false) (history_Argument N v11.kind v11.value) (some false))) fun (r16 : Bool) =>
      cond ((!r15) || (!r16))
        (some (out8, open9, 3))
        (cond (decide (0 < x13))
          (some (out8, open9, 5))
          (ck (limB 56 ((out8).length + (([(Call.mk v11.who v11.thing v11.kind v11.value 0 i10 (-1))] : List Call)).length)) <|
          bd (ax 8 0 open9 v11.who) fun (x21 : Int) =>
          some ((out8 ++ ([(Call.mk v11.who v11.thing v11.kind v11.value 0 i10 (-1))] : List Call)), (setA 8 0 open9 v11.who (((out8 ++ ([(Call.mk v11.who v11.thing v11.kind v11.value 0 i10 (-1))] : List Call))).length : Int)), 0))))
      (cond (decide (x13 = 0))
        (some (out8, open9, 4))
        (ck (ok64 (x13 - 1)) <|
        bd (ix out8 (x13 - 1)) fun (x23 : Call) =>
        bd ((cond ((!(decide (x23.thing = v11.thing))) == false) (history_result N x23.kind v11.value) (some false))) fun (r24 : Bool) =>
        cond ((!(decide (x23.thing = v11.thing))) || (!r24))
          (some (out8, open9, 3))
          (bd (ax 8 0 open9 v11.who) fun (x25 : Int) =>
          some ((out8.set (x13 - 1).toNat (Call.mk x23.who x23.thing x23.kind x23.arg v11.value x23.from_ i10)), (setA 8 0 open9 v11.who 0), 0)))))

theorem history_reader_event_ok {N : Nat} {types2 : (List Int)} {out8 : (List Call)} {open9 : (List Int)} {i10 : Int} {v11 : Event} {b1 : Nat} {A3 : Option Addr} {c4 : Nat} {A6 : Option Addr} {c7 : Nat} {res : ((List Call) × (List Int) × Int)} (hF : history_reader_event N types2 out8 open9 i10 v11 = some res) {w0 w : World} {T : List Chunk} (hw : St w0.heap.size w0 ([cBx b1 99 (Value.slice A3 (types2).length c4 :: (Value.slice A6 (out8).length c7 :: (((encA 8 (eI .i64) 0) open9) ++ []))), cR encCall 7 A6 c7 48 out8] ++ T) w) (hs5 : SlIn (eI .i64) 1 w0 (.slice A3 (types2).length c4) types2) :
    Calls Try.prog 65 (List.toArray [.pointer (some ⟨b1, 0, none⟩), .int .i64 i10, .agg (encEvent v11).toArray]) w (fun e w' => ∃ g : (Option Addr × Nat), (True) ∧ e = .returned (.int .i64 res.2.2) ∧ St w0.heap.size w0 ([cBx b1 99 (Value.slice A3 (types2).length c4 :: (Value.slice g.1 (res.1).length g.2 :: (((encA 8 (eI .i64) 0) res.2.1) ++ []))), cR encCall 7 g.1 g.2 48 res.1] ++ T) w') := by
  refine W.enter (n := 137) Try.func65 rfl rfl Sub.refl (by simp) hw fun R hR => ?_
  unfold history_reader_event at hF
  -- region 0: history.go:69
  refine W.seqR fun Q1 hQ1 => ?_
  refine WL.step (WO.boxA (.pl rfl) rfl fun b12 => ?_)
  refine WL.q (Y.assign (.pl rfl)) rfl ?_
  refine WL.next hQ1 (.cons (i := 0) rfl (.cons (i := 1) rfl (.cons (i := 5) rfl (.nil)))) ?_
  refine W.seq fun K2 hK2 => ?_
  -- region 1: history.go:70
  refine W.seqD (by kernel_rfl) (by kernel_rfl) fun R3 hR3 => ?_
  refine WD.q (Y.fieldAddr0 (off := 0) (ft := 3) Try.underlying39 rfl cells3 (.pl rfl)) rfl ?_
  refine WD.q (Y.loadB (v := .int .i64 v11.who) Try.underlying3 rfl (.pl rfl) (i := 0) rfl (rfl)) rfl ?_
  refine WD.q (Y.lss (.pl rfl) (.pl rfl)) rfl ?_
  refine WD.q (Y.move (.pl rfl)) rfl ?_
  refine WD.g (.pl rfl rfl rfl) (fun hg => Y.fieldAddr0 (off := 0) (ft := 3) Try.underlying39 rfl cells3 (.pl rfl)) rfl ?_
  refine WD.g (.pl rfl rfl rfl) (fun hg => Y.loadB (v := .int .i64 v11.who) Try.underlying3 rfl (.gd (hg) rfl) (i := 0) rfl (rfl)) rfl ?_
  refine WD.g (.pl rfl rfl rfl) (fun hg => Y.geq (.gd (hg) rfl) (.pl rfl)) rfl ?_
  refine WD.q (Y.or (.pl rfl) (fun h2 => .gd (eqf h2) rfl)) rfl ?_
  refine WD.q (Y.move (.pl rfl)) rfl ?_
  refine WD.g (.pl rfl rfl rfl) (fun hg => Y.fieldAddr0 (off := 1) (ft := 3) Try.underlying39 rfl cells3 (.pl rfl)) rfl ?_
  refine WD.g (.pl rfl rfl rfl) (fun hg => Y.loadB (v := .int .i64 v11.thing) Try.underlying3 rfl (.gd (hg) rfl) (i := 0) rfl (rfl)) rfl ?_
  refine WD.g (.pl rfl rfl rfl) (fun hg => Y.lss (.gd (hg) rfl) (.pl rfl)) rfl ?_
  refine WD.q (Y.or (.pl rfl) (fun h2 => .gd (eqf h2) rfl)) rfl ?_
  refine WD.q (Y.move (.pl rfl)) rfl ?_
  refine WD.g (.pl rfl rfl rfl) (fun hg => Y.fieldAddr0 (off := 1) (ft := 3) Try.underlying39 rfl cells3 (.pl rfl)) rfl ?_
  refine WD.g (.pl rfl rfl rfl) (fun hg => Y.loadB (v := .int .i64 v11.thing) Try.underlying3 rfl (.gd (hg) rfl) (i := 0) rfl (rfl)) rfl ?_
  refine WD.g (.pl rfl rfl rfl) (fun hg => Y.move (.pl rfl)) rfl ?_
  refine WD.g (.pl rfl rfl rfl) (fun hg => Y.nilCheck (.gd (hg) rfl)) rfl ?_
  refine WD.g (.pl rfl rfl rfl) (fun hg => Y.fieldAddr0 (off := 0) (ft := 45) Try.underlying99 rfl cells45 (.gd (hg) rfl)) rfl ?_
  refine WD.g (.pl rfl rfl rfl) (fun hg => Y.loadB (v := .slice A3 (types2).length c4) Try.underlying45 rfl (.gd (hg) rfl) (i := 1) rfl (rfl)) rfl ?_
  refine WD.g (.pl rfl rfl rfl) (fun hg => Y.len Try.underlying45 (.gd (hg) rfl)) rfl ?_
  refine WD.g (.pl rfl rfl rfl) (fun hg => Y.geq (.gd (hg) rfl) (.gd (hg) rfl)) rfl ?_
  refine WD.q (Y.or (.pl rfl) (fun h2 => .gd (eqf h2) rfl)) rfl ?_
  refine WD.next hR3 (.cons (i := 0) rfl (.cons (i := 1) rfl (.cons (i := 5) rfl (.cons (i := 31) rfl (.nil))))) ?_
  refine W.cond (.pl rfl) (fun hC4 => ?_) (fun hC4 => ?_)
  · replace hF := cpos hC4 hF
    -- region 2: history.go:71
    refine W.seqR fun Q5 hQ5 => ?_
    refine WL.q (Y.assign (.pl rfl)) rfl ?_
    refine WL.next hQ5 (.cons (i := 6) rfl (.nil)) ?_
    obtain rfl := Option.some.inj hF
    refine W.retV (fn := Try.f65) (vs := [.int .i64 3]) Try.results65 ⟨.tmp rfl, trivial⟩ (fun _ _ h => h) (fun wz hw => ?_)
    exact hR _ _ ⟨(A6, c7), trivial, rfl, (hw.pickK 3 [1, 2] rfl)⟩
  · replace hF := cneg hC4 hF
    refine W.skip ?_
    refine W.go hK2 (.cons (i := 0) rfl (.cons (i := 1) rfl (.cons (i := 5) rfl (.nil)))) ?_
    -- region 3: history.go:73
    refine W.seqD (by kernel_rfl) (by kernel_rfl) fun R6 hR6 => ?_
    refine WD.q (Y.move (.pl rfl)) rfl ?_
    refine WD.q (Y.fieldAddr0 (off := 0) (ft := 3) Try.underlying39 rfl cells3 (.pl rfl)) rfl ?_
    refine WD.q (Y.loadB (v := .int .i64 v11.who) Try.underlying3 rfl (.pl rfl) (i := 0) rfl (rfl)) rfl ?_
    refine WD.q (Y.nilCheck (.pl rfl)) rfl ?_
    refine WD.q (Y.fieldAddr0 (off := 2) (ft := 97) Try.underlying99 rfl cells97 (.pl rfl)) rfl ?_
    obtain ⟨x13, hx13, hF⟩ := bnd hF
    refine WD.q (Y.arrZ Try.underlying97 cells3 (.pl rfl) (.pl rfl) (ax_lt (hx13))) rfl ?_
    refine WD.q (Y.loadB (v := .int .i64 x13) Try.underlying3 rfl (.pl rfl) (i := 1) rfl (cellsA (pre := (Value.slice A3 (types2).length c4 :: (Value.slice A6 (out8).length c7 :: []))) (off := 2) (post := []) (a := open9) (enc := (eI .i64)) (d := 0) (n := 8) (sz := 1) (j := 0) (fun _ => rfl) rfl (ax_nat (hx13)) (ax_get (hx13)) rfl)) rfl ?_
    refine WD.q (Y.assign (.pl rfl)) rfl ?_
    refine WD.next hR6 (.cons (i := 0) rfl (.cons (i := 1) rfl (.cons (i := 5) rfl (.cons (i := 7) rfl (.nil))))) ?_
    refine W.seq fun K7 hK7 => ?_
    -- region 4: history.go:74
    refine W.seqR fun Q8 hQ8 => ?_
    refine WL.q (Y.fieldAddr0 (off := 2) (ft := 3) Try.underlying39 rfl cells3 (.pl rfl)) rfl ?_
    refine WL.q (Y.loadB (v := .int .i64 v11.kind) Try.underlying3 rfl (.pl rfl) (i := 0) rfl (rfl)) rfl ?_
    refine WL.q (Y.neq (.pl rfl) (.pl rfl)) rfl ?_
    refine WL.next hQ8 (.cons (i := 0) rfl (.cons (i := 1) rfl (.cons (i := 5) rfl (.cons (i := 7) rfl (.cons (i := 41) rfl (.nil)))))) ?_
    refine W.cond (.pl rfl) (fun hC9 => ?_) (fun hC9 => ?_)
    · replace hF := cpos hC9 hF
      refine W.seq fun K10 hK10 => ?_
      refine W.block ?_
      -- region 5: history.go:76
      refine W.seqD (by kernel_rfl) (by kernel_rfl) fun R11 hR11 => ?_
      refine WD.q (Y.move (.pl rfl)) rfl ?_
      refine WD.q (Y.nilCheck (.pl rfl)) rfl ?_
      refine WD.q (Y.fieldAddr0 (off := 0) (ft := 45) Try.underlying99 rfl cells45 (.pl rfl)) rfl ?_
      refine WD.q (Y.loadB (v := .slice A3 (types2).length c4) Try.underlying45 rfl (.pl rfl) (i := 1) rfl (rfl)) rfl ?_
      refine WD.q (Y.fieldAddr0 (off := 1) (ft := 3) Try.underlying39 rfl cells3 (.pl rfl)) rfl ?_
      refine WD.q (Y.loadB (v := .int .i64 v11.thing) Try.underlying3 rfl (.pl rfl) (i := 0) rfl (rfl)) rfl ?_
      obtain ⟨x14, hx14, hF⟩ := bnd hF
      refine WD.q (Y.slEl Try.underlying45 cells3 hs5 (.pl rfl) (.pl rfl) (ix_lt (hx14))) rfl ?_
      refine WD.q (Y.loadS (enc := (eI .i64)) (v := .int .i64 x14) (j := 0) Try.underlying3 rfl hs5 (.pl rfl) (hx14) rfl rfl) rfl ?_
      refine WD.q (Y.fieldAddr0 (off := 2) (ft := 3) Try.underlying39 rfl cells3 (.pl rfl)) rfl ?_
      refine WD.q (Y.loadB (v := .int .i64 v11.kind) Try.underlying3 rfl (.pl rfl) (i := 0) rfl (rfl)) rfl ?_
      obtain ⟨r15, hr15, hF⟩ := bnd hF
      refine WD.callP isGo102 (.cons (.pl rfl) (.cons (.pl rfl) (.nil))) rfl (fun wz hw => history_Fits_ok (hr15) wz ) ?_
      refine WD.q (Y.not (.pl rfl)) rfl ?_
      refine WD.q (Y.move (.pl rfl)) rfl ?_
      refine WD.g (.pl rfl rfl rfl) (fun hg => Y.fieldAddr0 (off := 2) (ft := 3) Try.underlying39 rfl cells3 (.pl rfl)) rfl ?_
      refine WD.g (.pl rfl rfl rfl) (fun hg => Y.loadB (v := .int .i64 v11.kind) Try.underlying3 rfl (.gd (hg) rfl) (i := 0) rfl (rfl)) rfl ?_
      refine WD.g (.pl rfl rfl rfl) (fun hg => Y.fieldAddr0 (off := 3) (ft := 3) Try.underlying39 rfl cells3 (.pl rfl)) rfl ?_
      refine WD.g (.pl rfl rfl rfl) (fun hg => Y.loadB (v := .int .i64 v11.value) Try.underlying3 rfl (.gd (hg) rfl) (i := 0) rfl (rfl)) rfl ?_
      obtain ⟨r16, hr16, hF⟩ := bnd hF
      refine WD.gP (.pl rfl rfl rfl) isGo103 (fun hg => (.cons (.gd (hg) rfl) (.cons (.gd (hg) rfl) (.nil)))) rfl (fun hg wz hw => history_Argument_ok (gpos hg hr16) wz ) ?_
      refine WD.g (.pl rfl rfl rfl) (fun hg => Y.not (.gd (hg) rfl)) rfl ?_
      refine WD.q (Y.or (.pl rfl) (fun h2 => .gd (eqf h2) rfl)) rfl ?_
      refine WD.q (Y.assign (.pl rfl)) rfl ?_
      refine WD.next hR11 (.cons (i := 0) rfl (.cons (i := 1) rfl (.cons (i := 5) rfl (.cons (i := 7) rfl (.cons (i := 42) rfl (.nil)))))) ?_
      refine W.cond (.pl rfl) (fun hC12 => ?_) (fun hC12 => ?_)
      · replace hF := cpos hC12 hF
        -- region 6: history.go:77
        refine W.seqR fun Q13 hQ13 => ?_
        refine WL.q (Y.assign (.pl rfl)) rfl ?_
        refine WL.next hQ13 (.cons (i := 6) rfl (.nil)) ?_
        obtain rfl := Option.some.inj hF
        refine W.retV (fn := Try.f65) (vs := [.int .i64 3]) Try.results65 ⟨.tmp rfl, trivial⟩ (fun _ _ h => h) (fun wz hw => ?_)
        exact hR _ _ ⟨(A6, c7), trivial, rfl, (hw.pickK 3 [1, 2] rfl)⟩
      · replace hF := cneg hC12 hF
        -- region 7: history.go:78
        refine W.seqR fun Q14 hQ14 => ?_
        refine WL.q (Y.move (.pl rfl)) rfl ?_
        refine WL.q (Y.gtr (.pl rfl) (.pl rfl)) rfl ?_
        refine WL.q (Y.assign (.pl rfl)) rfl ?_
        refine WL.next hQ14 (.cons (i := 0) rfl (.cons (i := 1) rfl (.cons (i := 5) rfl (.cons (i := 63) rfl (.nil))))) ?_
        refine W.cond (.pl rfl) (fun hC15 => ?_) (fun hC15 => ?_)
        · replace hF := cpos hC15 hF
          -- region 8: history.go:79
          refine W.seqR fun Q16 hQ16 => ?_
          refine WL.q (Y.assign (.pl rfl)) rfl ?_
          refine WL.next hQ16 (.cons (i := 6) rfl (.nil)) ?_
          obtain rfl := Option.some.inj hF
          refine W.retV (fn := Try.f65) (vs := [.int .i64 5]) Try.results65 ⟨.tmp rfl, trivial⟩ (fun _ _ h => h) (fun wz hw => ?_)
          exact hR _ _ ⟨(A6, c7), trivial, rfl, (hw.pickK 3 [1, 2] rfl)⟩
        · replace hF := cneg hC15 hF
          refine W.skip ?_
          refine W.go hK10 (.cons (i := 0) rfl (.cons (i := 1) rfl (.cons (i := 5) rfl (.nil)))) ?_
          -- region 9: history.go:81
          refine W.seqX 16 (by kernel_rfl) fun K17 hK17 => ?_
          refine WX.pure 0 #[true, false, false, false, false, false, false, false, false, false, false, false, false, false, false, false, false, false, false, false] rfl (by kernel_rfl) (fun _ _ => Y.move (.pl rfl)) rfl ?_
          refine WX.pure 1 #[true, true, false, false, false, false, false, false, false, false, false, false, false, false, false, false, false, false, false, false] rfl (by kernel_rfl) (fun _ _ => Y.move (.pl rfl)) rfl ?_
          refine WX.pure 2 #[true, true, true, false, false, false, false, false, false, false, false, false, false, false, false, false, false, false, false, false] rfl (by kernel_rfl) (fun _ _ => Y.nilCheck (.pl rfl)) rfl ?_
          refine WX.pure 3 #[true, true, true, true, false, false, false, false, false, false, false, false, false, false, false, false, false, false, false, false] rfl (by kernel_rfl) (fun _ _ => Y.fieldAddr0 (off := 1) (ft := 42) Try.underlying99 rfl cells42 (.pl rfl)) rfl ?_
          refine WX.take 4 #[true, true, true, true, true, false, false, false, false, false, false, false, false, false, false, false, false, false, false, false] (fun wz hw => St.tail [] hw) rfl (by kernel_rfl) (Y.loadB (v := .slice A6 (out8).length c7) Try.underlying42 rfl (.pl rfl) (i := 1) rfl (rfl)) rfl ?_
          refine WX.pure 5 #[true, true, true, true, true, true, false, false, false, false, false, false, false, false, false, false, false, false, false, false] rfl (by kernel_rfl) (fun _ _ => Y.fieldAddr0 (off := 0) (ft := 3) Try.underlying39 rfl cells3 (.pl rfl)) rfl ?_
          refine WX.take 6 #[true, true, true, true, true, true, true, false, false, false, false, false, false, false, false, false, false, false, false, false] (fun wz hw => St.tail [] hw) rfl (by kernel_rfl) (Y.loadB (v := .int .i64 v11.who) Try.underlying3 rfl (.pl rfl) (i := 0) rfl (rfl)) rfl ?_
          refine WX.pure 7 #[true, true, true, true, true, true, true, true, false, false, false, false, false, false, false, false, false, false, false, false] rfl (by kernel_rfl) (fun _ _ => Y.fieldAddr0 (off := 1) (ft := 3) Try.underlying39 rfl cells3 (.pl rfl)) rfl ?_
          refine WX.take 8 #[true, true, true, true, true, true, true, true, true, false, false, false, false, false, false, false, false, false, false, false] (fun wz hw => St.tail [] hw) rfl (by kernel_rfl) (Y.loadB (v := .int .i64 v11.thing) Try.underlying3 rfl (.pl rfl) (i := 0) rfl (rfl)) rfl ?_
          refine WX.pure 9 #[true, true, true, true, true, true, true, true, true, true, false, false, false, false, false, false, false, false, false, false] rfl (by kernel_rfl) (fun _ _ => Y.fieldAddr0 (off := 2) (ft := 3) Try.underlying39 rfl cells3 (.pl rfl)) rfl ?_
          refine WX.take 10 #[true, true, true, true, true, true, true, true, true, true, true, false, false, false, false, false, false, false, false, false] (fun wz hw => St.tail [] hw) rfl (by kernel_rfl) (Y.loadB (v := .int .i64 v11.kind) Try.underlying3 rfl (.pl rfl) (i := 0) rfl (rfl)) rfl ?_
          refine WX.pure 11 #[true, true, true, true, true, true, true, true, true, true, true, true, false, false, false, false, false, false, false, false] rfl (by kernel_rfl) (fun _ _ => Y.fieldAddr0 (off := 3) (ft := 3) Try.underlying39 rfl cells3 (.pl rfl)) rfl ?_
          refine WX.take 12 #[true, true, true, true, true, true, true, true, true, true, true, true, true, false, false, false, false, false, false, false] (fun wz hw => St.tail [] hw) rfl (by kernel_rfl) (Y.loadB (v := .int .i64 v11.value) Try.underlying3 rfl (.pl rfl) (i := 0) rfl (rfl)) rfl ?_
          refine WX.pure 13 #[true, true, true, true, true, true, true, true, true, true, true, true, true, true, false, false, false, false, false, false] rfl (by kernel_rfl) (fun _ _ => Y.move (.pl rfl)) rfl ?_
          refine WX.pure 14 #[true, true, true, true, true, true, true, true, true, true, true, true, true, true, true, false, false, false, false, false] rfl (by kernel_rfl) (fun _ _ => Y.build (cs := (encCall (Call.mk v11.who v11.thing v11.kind v11.value 0 i10 (-1))).toArray) shape48 (.cons (.pl rfl) (.cons (.pl rfl) (.cons (.pl rfl) (.cons (.pl rfl) (.cons (.pl rfl) (.cons (.pl rfl) (.nil))))))) (one_parts ⟨rfl, ⟨rfl, ⟨rfl, ⟨rfl, ⟨rfl, ⟨rfl, trivial⟩⟩⟩⟩⟩⟩) rfl) rfl ?_
          refine WX.one 15 #[true, true, true, true, true, true, true, true, true, true, true, true, true, true, true, true, false, false, false, false] (fun wz hw => St.tail [] hw) rfl (by kernel_rfl) (WO.bsliceC (enc := encCall) (ys := ([(Call.mk v11.who v11.thing v11.kind v11.value 0 i10 (-1))] : List Call)) Try.underlying42 bz48 (.cons (.pl rfl) (.nil)) rfl lenCall rfl rfl (by decide) (by decide) rfl fun b17 => ?_)
          obtain ⟨hk20, hF⟩ := ckh hF
          refine WX.stop #[true, true, true, true, true, true, true, true, true, true, true, true, true, true, true, true, true, false, false, false] (fun wz hw => St.tail [_] hw) rfl (by kernel_rfl) (WO.appendC (enc := encCall) Try.underlying42 ap48 lenCall oneCall (.pl rfl) rfl (.pl rfl) (i := 3) rfl (m2 := 0) rfl (hk20) rfl fun A18 c19 => ?_)
          refine WA.take 17 #[true, true, true, true, true, true, true, true, true, true, true, true, true, true, true, true, true, true, false, false] rfl (by kernel_rfl) (fun _ _ => Y.nilCheck (.pl rfl)) rfl ?_
          refine WA.take 18 #[true, true, true, true, true, true, true, true, true, true, true, true, true, true, true, true, true, true, true, false] rfl (by kernel_rfl) (fun _ _ => Y.fieldAddr0 (off := 1) (ft := 42) Try.underlying99 rfl cells42 (.pl rfl)) rfl ?_
          refine WA.branch [19] (by kernel_rfl) ⟨?_, trivial⟩
          refine WI.step #[true, true, true, true, true, true, true, true, true, true, true, true, true, true, true, true, true, true, true, true] rfl rfl (WO.storeB (cs' := (Value.slice A3 (types2).length c4 :: (Value.slice A18 ((out8 ++ ([(Call.mk v11.who v11.thing v11.kind v11.value 0 i10 (-1))] : List Call))).length c19 :: (((encA 8 (eI .i64) 0) open9) ++ [])))) cells42 (.pl rfl) (.pl rfl) rfl (i := 2) rfl (ltl (m := 10) (by decide) rfl) (rfl) ?_)
          refine WA.done (by kernel_rfl) ?_
          refine KK.next hK17 (.cons (i := 0) rfl (.cons (i := 5) rfl (.nil))) ?_
          -- region 10: history.go:82
          refine W.seqT 11 (by kernel_rfl) (by kernel_rfl) fun Q18 hQ18 => ?_
          refine WS.q (Y.move (.pl rfl)) rfl ?_
          refine WS.q (Y.fieldAddr0 (off := 0) (ft := 3) Try.underlying39 rfl cells3 (.pl rfl)) rfl ?_
          refine WS.q (Y.loadB (v := .int .i64 v11.who) Try.underlying3 rfl (.pl rfl) (i := 1) rfl (rfl)) rfl ?_
          refine WS.q (Y.move (.pl rfl)) rfl ?_
          refine WS.q (Y.nilCheck (.pl rfl)) rfl ?_
          refine WS.q (Y.fieldAddr0 (off := 1) (ft := 42) Try.underlying99 rfl cells42 (.pl rfl)) rfl ?_
          refine WS.q (Y.loadB (v := .slice A18 ((out8 ++ ([(Call.mk v11.who v11.thing v11.kind v11.value 0 i10 (-1))] : List Call))).length c19) Try.underlying42 rfl (.pl rfl) (i := 2) rfl (rfl)) rfl ?_
          refine WS.q (Y.len Try.underlying42 (.pl rfl)) rfl ?_
          refine WS.q (Y.nilCheck (.pl rfl)) rfl ?_
          refine WS.q (Y.fieldAddr0 (off := 2) (ft := 97) Try.underlying99 rfl cells97 (.pl rfl)) rfl ?_
          obtain ⟨x21, hx21, hF⟩ := bnd hF
          refine WS.q (Y.arrZ Try.underlying97 cells3 (.pl rfl) (.pl rfl) (ax_lt (hx21))) rfl ?_
          refine WS.tail ?_
          refine WL.step (WO.storeB (cs' := (Value.slice A3 (types2).length c4 :: (Value.slice A18 ((out8 ++ ([(Call.mk v11.who v11.thing v11.kind v11.value 0 i10 (-1))] : List Call))).length c19 :: (((encA 8 (eI .i64) 0) (setA 8 0 open9 v11.who (((out8 ++ ([(Call.mk v11.who v11.thing v11.kind v11.value 0 i10 (-1))] : List Call))).length : Int))) ++ [])))) cells3 (.pl rfl) (.pl rfl) rfl (i := 2) rfl (ltl (m := 10) (offlt (off := 2) (sz := 1) (j := 0) (ax_nat (hx21)) (by decide)) rfl) (cellsSet (pre := (Value.slice A3 (types2).length c4 :: (Value.slice A18 ((out8 ++ ([(Call.mk v11.who v11.thing v11.kind v11.value 0 i10 (-1))] : List Call))).length c19 :: []))) (off := 2) (post := []) (a := open9) (enc := (eI .i64)) (d := 0) (n := 8) (sz := 1) (j := 0) (x := x21) (x' := (((out8 ++ ([(Call.mk v11.who v11.thing v11.kind v11.value 0 i10 (-1))] : List Call))).length : Int)) (fun _ => rfl) rfl (ax_lt (hx21)) (ax_get (hx21)) (by decide) rfl rfl) ?_)
          refine WL.next hQ18 (.nil) ?_
          -- region 11: history.go:83
          refine W.seqR fun Q19 hQ19 => ?_
          refine WL.q (Y.assign (.pl rfl)) rfl ?_
          refine WL.next hQ19 (.cons (i := 6) rfl (.nil)) ?_
          obtain rfl := Option.some.inj hF
          refine W.retV (fn := Try.f65) (vs := [.int .i64 0]) Try.results65 ⟨.tmp rfl, trivial⟩ (fun _ _ h => h) (fun wz hw => ?_)
          exact hR _ _ ⟨(A18, c19), trivial, rfl, (hw.pickK 4 [2, 3] rfl)⟩
    · replace hF := cneg hC9 hF
      refine W.skip ?_
      refine W.go hK7 (.cons (i := 0) rfl (.cons (i := 1) rfl (.cons (i := 5) rfl (.cons (i := 7) rfl (.nil))))) ?_
      refine W.seq fun K20 hK20 => ?_
      -- region 12: history.go:85
      refine W.seqR fun Q21 hQ21 => ?_
      refine WL.q (Y.move (.pl rfl)) rfl ?_
      refine WL.q (Y.eql (.pl rfl) (.pl rfl)) rfl ?_
      refine WL.next hQ21 (.cons (i := 0) rfl (.cons (i := 1) rfl (.cons (i := 5) rfl (.cons (i := 7) rfl (.cons (i := 97) rfl (.nil)))))) ?_
      refine W.cond (.pl rfl) (fun hC22 => ?_) (fun hC22 => ?_)
      · replace hF := cpos hC22 hF
        -- region 13: history.go:86
        refine W.seqR fun Q23 hQ23 => ?_
        refine WL.q (Y.assign (.pl rfl)) rfl ?_
        refine WL.next hQ23 (.cons (i := 6) rfl (.nil)) ?_
        obtain rfl := Option.some.inj hF
        refine W.retV (fn := Try.f65) (vs := [.int .i64 4]) Try.results65 ⟨.tmp rfl, trivial⟩ (fun _ _ h => h) (fun wz hw => ?_)
        exact hR _ _ ⟨(A6, c7), trivial, rfl, (hw.pickK 3 [1, 2] rfl)⟩
      · replace hF := cneg hC22 hF
        refine W.skip ?_
        refine W.go hK20 (.cons (i := 0) rfl (.cons (i := 1) rfl (.cons (i := 5) rfl (.cons (i := 7) rfl (.nil))))) ?_
        -- region 14: history.go:88
        refine W.seqR fun Q24 hQ24 => ?_
        refine WL.q (Y.move (.pl rfl)) rfl ?_
        refine WL.q (Y.nilCheck (.pl rfl)) rfl ?_
        refine WL.q (Y.fieldAddr0 (off := 1) (ft := 42) Try.underlying99 rfl cells42 (.pl rfl)) rfl ?_
        refine WL.q (Y.loadB (v := .slice A6 (out8).length c7) Try.underlying42 rfl (.pl rfl) (i := 1) rfl (rfl)) rfl ?_
        refine WL.q (Y.move (.pl rfl)) rfl ?_
        obtain ⟨hk22, hF⟩ := ckh hF
        refine WL.q (Y.sub (.pl rfl) (.pl rfl) (ok64_lt (hk22))) rfl ?_
        obtain ⟨x23, hx23, hF⟩ := bnd hF
        refine WL.q (Y.rowEl Try.underlying42 cells48 (i := 2) rfl (.pl rfl) rfl (.pl rfl) (ix_lt (hx23))) rfl ?_
        refine WL.q (Y.assign (.pl rfl)) rfl ?_
        refine WL.next hQ24 (.cons (i := 0) rfl (.cons (i := 1) rfl (.cons (i := 5) rfl (.cons (i := 8) rfl (.nil))))) ?_
        refine W.seq fun K25 hK25 => ?_
        -- region 15: history.go:89
        refine W.seqD (by kernel_rfl) (by kernel_rfl) fun R26 hR26 => ?_
        refine WD.q (Y.move (.pl rfl)) rfl ?_
        refine WD.q (Y.nilCheck (.pl rfl)) rfl ?_
        refine WD.q (Y.rowField (off := 1) (ft := 3) Try.underlying48 rfl cells3 (i' := 2) rfl (ix_lt (hx23)) (.pl rfl)) rfl ?_
        refine WD.q (Y.loadR (enc := encCall) (v := .int .i64 x23.thing) (a := x23) (idx := (x13 - 1)) (j := 1) Try.underlying3 rfl lenCall (i := 2) rfl (.pl rfl) (ix_get (hx23)) rfl rfl) rfl ?_
        refine WD.q (Y.fieldAddr0 (off := 1) (ft := 3) Try.underlying39 rfl cells3 (.pl rfl)) rfl ?_
        refine WD.q (Y.loadB (v := .int .i64 v11.thing) Try.underlying3 rfl (.pl rfl) (i := 0) rfl (rfl)) rfl ?_
        refine WD.q (Y.neq (.pl rfl) (.pl rfl)) rfl ?_
        refine WD.q (Y.move (.pl rfl)) rfl ?_
        refine WD.g (.pl rfl rfl rfl) (fun hg => Y.move (.pl rfl)) rfl ?_
        refine WD.g (.pl rfl rfl rfl) (fun hg => Y.nilCheck (.gd (hg) rfl)) rfl ?_
        refine WD.g (.pl rfl rfl rfl) (fun hg => Y.rowField (off := 2) (ft := 3) Try.underlying48 rfl cells3 (i' := 2) rfl (ix_lt (hx23)) (.gd (hg) rfl)) rfl ?_
        refine WD.g (.pl rfl rfl rfl) (fun hg => Y.loadR (enc := encCall) (v := .int .i64 x23.kind) (a := x23) (idx := (x13 - 1)) (j := 2) Try.underlying3 rfl lenCall (i := 2) rfl (.gd (hg) rfl) (ix_get (hx23)) rfl rfl) rfl ?_
        refine WD.g (.pl rfl rfl rfl) (fun hg => Y.fieldAddr0 (off := 3) (ft := 3) Try.underlying39 rfl cells3 (.pl rfl)) rfl ?_
        refine WD.g (.pl rfl rfl rfl) (fun hg => Y.loadB (v := .int .i64 v11.value) Try.underlying3 rfl (.gd (hg) rfl) (i := 0) rfl (rfl)) rfl ?_
        obtain ⟨r24, hr24, hF⟩ := bnd hF
        refine WD.gP (.pl rfl rfl rfl) isGo104 (fun hg => (.cons (.gd (hg) rfl) (.cons (.gd (hg) rfl) (.nil)))) rfl (fun hg wz hw => history_result_ok (gpos hg hr24) wz ) ?_
        refine WD.g (.pl rfl rfl rfl) (fun hg => Y.not (.gd (hg) rfl)) rfl ?_
        refine WD.q (Y.or (.pl rfl) (fun h2 => .gd (eqf h2) rfl)) rfl ?_
        refine WD.next hR26 (.cons (i := 0) rfl (.cons (i := 1) rfl (.cons (i := 5) rfl (.cons (i := 8) rfl (.cons (i := 121) rfl (.nil)))))) ?_
        refine W.cond (.pl rfl) (fun hC27 => ?_) (fun hC27 => ?_)
        · replace hF := cpos hC27 hF
          -- region 16: history.go:90
          refine W.seqR fun Q28 hQ28 => ?_
          refine WL.q (Y.assign (.pl rfl)) rfl ?_
          refine WL.next hQ28 (.cons (i := 6) rfl (.nil)) ?_
          obtain rfl := Option.some.inj hF
          refine W.retV (fn := Try.f65) (vs := [.int .i64 3]) Try.results65 ⟨.tmp rfl, trivial⟩ (fun _ _ h => h) (fun wz hw => ?_)
          exact hR _ _ ⟨(A6, c7), trivial, rfl, (hw.pickK 3 [1, 2] rfl)⟩
        · replace hF := cneg hC27 hF
          refine W.skip ?_
          refine W.go hK25 (.cons (i := 0) rfl (.cons (i := 1) rfl (.cons (i := 5) rfl (.cons (i := 8) rfl (.nil))))) ?_
          -- region 17: history.go:92
          refine W.seqR fun Q29 hQ29 => ?_
          refine WL.q (Y.move (.pl rfl)) rfl ?_
          refine WL.q (Y.move (.pl rfl)) rfl ?_
          refine WL.q (Y.fieldAddr0 (off := 3) (ft := 3) Try.underlying39 rfl cells3 (.pl rfl)) rfl ?_
          refine WL.q (Y.loadB (v := .int .i64 v11.value) Try.underlying3 rfl (.pl rfl) (i := 0) rfl (rfl)) rfl ?_
          refine WL.q (Y.move (.pl rfl)) rfl ?_
          refine WL.q (Y.nilCheck (.pl rfl)) rfl ?_
          refine WL.q (Y.rowField (off := 4) (ft := 3) Try.underlying48 rfl cells3 (i' := 2) rfl (ix_lt (hx23)) (.pl rfl)) rfl ?_
          refine WL.step (WO.storeS (enc := encCall) (a := x23) (a' := (Call.mk x23.who x23.thing x23.kind x23.arg v11.value x23.from_ x23.to_)) (idx := (x13 - 1)) (j := 4) cells3 (.pl rfl) (.pl rfl) rfl lenCall (i := 2) rfl (ix_get (hx23)) rfl (by decide) rfl ?_)
          refine WL.q (Y.nilCheck (.pl rfl)) rfl ?_
          refine WL.q (Y.rowField (off := 6) (ft := 3) Try.underlying48 rfl cells3 (i' := 2) rfl (⟨(ix_lt (hx23)).1, by simpa only [List.length_set] using (ix_lt (hx23)).2⟩) (.pl rfl)) rfl ?_
          refine WL.step (WO.storeFS (enc := encCall) (a := (Call.mk x23.who x23.thing x23.kind x23.arg v11.value x23.from_ x23.to_)) (a' := (Call.mk x23.who x23.thing x23.kind x23.arg v11.value x23.from_ i10)) (idx := (x13 - 1)) (j := 6) cells3 (.pl rfl) (.pl rfl) rfl lenCall (i := 2) rfl (ix_lt (hx23)) rfl (by decide) rfl ?_)
          refine WL.next hQ29 (.cons (i := 0) rfl (.cons (i := 5) rfl (.nil))) ?_
          -- region 18: history.go:93
          refine W.seqT 6 (by kernel_rfl) (by kernel_rfl) fun Q30 hQ30 => ?_
          refine WS.q (Y.move (.pl rfl)) rfl ?_
          refine WS.q (Y.fieldAddr0 (off := 0) (ft := 3) Try.underlying39 rfl cells3 (.pl rfl)) rfl ?_
          refine WS.q (Y.loadB (v := .int .i64 v11.who) Try.underlying3 rfl (.pl rfl) (i := 0) rfl (rfl)) rfl ?_
          refine WS.q (Y.nilCheck (.pl rfl)) rfl ?_
          refine WS.q (Y.fieldAddr0 (off := 2) (ft := 97) Try.underlying99 rfl cells97 (.pl rfl)) rfl ?_
          obtain ⟨x25, hx25, hF⟩ := bnd hF
          refine WS.q (Y.arrZ Try.underlying97 cells3 (.pl rfl) (.pl rfl) (ax_lt (hx25))) rfl ?_
          refine WS.tail ?_
          refine WL.step (WO.storeB (cs' := (Value.slice A3 (types2).length c4 :: (Value.slice A6 (out8).length c7 :: (((encA 8 (eI .i64) 0) (setA 8 0 open9 v11.who 0)) ++ [])))) cells3 (.pl rfl) (.pl rfl) rfl (i := 1) rfl (ltl (m := 10) (offlt (off := 2) (sz := 1) (j := 0) (ax_nat (hx25)) (by decide)) rfl) (cellsSet (pre := (Value.slice A3 (types2).length c4 :: (Value.slice A6 (out8).length c7 :: []))) (off := 2) (post := []) (a := open9) (enc := (eI .i64)) (d := 0) (n := 8) (sz := 1) (j := 0) (x := x25) (x' := 0) (fun _ => rfl) rfl (ax_lt (hx25)) (ax_get (hx25)) (by decide) rfl rfl) ?_)
          refine WL.next hQ30 (.nil) ?_
          -- region 19: history.go:94
          refine W.seqR fun Q31 hQ31 => ?_
          refine WL.q (Y.assign (.pl rfl)) rfl ?_
          refine WL.next hQ31 (.cons (i := 6) rfl (.nil)) ?_
          obtain rfl := Option.some.inj hF
          refine W.retV (fn := Try.f65) (vs := [.int .i64 0]) Try.results65 ⟨.tmp rfl, trivial⟩ (fun _ _ h => h) (fun wz hw => ?_)
          exact hR _ _ ⟨(A6, c7), trivial, rfl, (St.cong (L := ([cBx b1 99 (Value.slice A3 (types2).length c4 :: (Value.slice A6 (out8).length c7 :: (((encA 8 (eI .i64) 0) (setA 8 0 open9 v11.who 0)) ++ []))), cR encCall 7 A6 c7 48 (out8.set (x13 - 1).toNat (Call.mk x23.who x23.thing x23.kind x23.arg v11.value x23.from_ i10))] ++ T)) (hw.pickK 3 [1, 2] rfl) (by simp only [List.length_set, List.nil_append, List.cons_append]))⟩

def history_Calls_L3 (N : Nat) (l6 : (List Event)) (types1 : (List Int)) : ((List Call) × (List Int) × Int) → Option (((List Call) × (List Int) × Int) ⊕ (((List Call) × (List Int)) ⊕ ((List Call) × Int × Int)))
  | (out19, open20, v21) =>
    cond (decide (v21 < ((l6).length : Int)))
      (bd (ix l6 v21) fun (x22 : Event) =>
      bd (history_reader_event N types1 out19 open20 v21 x22) fun (r24 : ((List Call) × (List Int) × Int)) =>
      cond (!(decide (r24.2.2 = 0)))
        (some (.inr (.inr ([], v21, r24.2.2))))
        (ck (ok64 (v21 + 1)) <|
        some (.inl (r24.1, r24.2.1, (v21 + 1)))))
      (some (.inr (.inl (out19, open20))))

def history_Calls (N : Nat) (types1 : (List Int)) (l6 : (List Event)) : Option ((List Call) × Int × Int) :=
  bd (history_Types N types1) fun (r11 : Int) =>
  cond (!(decide (r11 = 0)))
    (some ([], 0, r11))
    (cond (decide (200 < ((l6).length : Int)))
      (some ([], 0, 2))
      (bd (α := (((List Call) × (List Int)) ⊕ ((List Call) × Int × Int))) (iter (history_Calls_L3 N l6 types1) N ([], [], 0)) <|
      Sum.elim (fun (out15, open16) => 
        some (out15, 0, 0)) (fun p => some p)))

theorem history_Calls_ok {N : Nat} {types1 : (List Int)} {l6 : (List Event)} {res : ((List Call) × Int × Int)} (hF : history_Calls N types1 l6 = some res) (w : World) {v5 : Value} (hs4 : SlIn (eI .i64) 1 w v5 types1) {v10 : Value} (hs9 : SlIn encEvent 4 w v10 l6) :
    Made Try.prog 26 [v5, v10] w (fun g : (Option Addr × Nat) => .tuple #[.slice g.1 (res.1).length g.2, .int .i64 res.2.1, .int .i64 res.2.2]) (fun g => [cR encCall 7 g.1 g.2 48 res.1]) (fun g => True) := by
  obtain ⟨A2, c3, rfl, hcc3, hs4⟩ := hs4.form
  obtain ⟨A7, c8, rfl, hcc8, hs9⟩ := hs9.form
  refine W.enter (n := 43) Try.func26 rfl rfl Sub.refl (by simp) (St.start w) fun R hR => ?_
  unfold history_Calls at hF
  -- region 0: history.go:98
  refine W.seqR fun Q1 hQ1 => ?_
  refine WL.q (Y.assign (.pl rfl)) rfl ?_
  refine WL.q (Y.assign (.pl rfl)) rfl ?_
  refine WL.q (Y.assign (.pl rfl)) rfl ?_
  refine WL.next hQ1 (.cons (i := 0) rfl (.cons (i := 1) rfl (.nil))) ?_
  refine W.seq fun K2 hK2 => ?_
  -- region 1: history.go:99
  refine W.seqR fun Q3 hQ3 => ?_
  refine WL.q (Y.move (.pl rfl)) rfl ?_
  obtain ⟨r11, hr11, hF⟩ := bnd hF
  refine WL.step (WO.callP isGo64 (.cons (.pl rfl) (.nil)) rfl (fun wz hw => history_Types_ok (hr11) wz (hs4.mono hw)) ?_)
  refine WL.q (Y.assign (.pl rfl)) rfl ?_
  refine WL.next hQ3 (.cons (i := 0) rfl (.cons (i := 1) rfl (.cons (i := 7) rfl (.nil)))) ?_
  -- region 2: history.go:99
  refine W.seqR fun Q4 hQ4 => ?_
  refine WL.q (Y.move (.pl rfl)) rfl ?_
  refine WL.q (Y.neq (.pl rfl) (.pl rfl)) rfl ?_
  refine WL.next hQ4 (.cons (i := 0) rfl (.cons (i := 1) rfl (.cons (i := 7) rfl (.cons (i := 15) rfl (.nil))))) ?_
  refine W.cond (.pl rfl) (fun hC5 => ?_) (fun hC5 => ?_)
  · replace hF := cpos hC5 hF
    -- region 3: history.go:100
    refine W.seqR fun Q6 hQ6 => ?_
    refine WL.q (Y.move (.pl rfl)) rfl ?_
    refine WL.q (Y.assign (.pl rfl)) rfl ?_
    refine WL.q (Y.assign (.pl rfl)) rfl ?_
    refine WL.q (Y.assign (.pl rfl)) rfl ?_
    refine WL.next hQ6 (.cons (i := 4) rfl (.cons (i := 5) rfl (.cons (i := 6) rfl (.nil)))) ?_
    obtain rfl := Option.some.inj hF
    refine W.retV (fn := Try.f26) (vs := [.slice none 0 0, .int .i64 0, .int .i64 r11]) Try.results26 ⟨.tmp rfl, ⟨.tmp rfl, ⟨.tmp rfl, trivial⟩⟩⟩ (fun _ _ h => h) (fun wz hw => ?_)
    exact hR _ _ ⟨(none, 0), trivial, rfl, ((St.nilR (hw.pick [] rfl) encCall 7 48).pick [0] rfl)⟩
  · replace hF := cneg hC5 hF
    refine W.skip ?_
    refine W.go hK2 (.cons (i := 0) rfl (.cons (i := 1) rfl (.nil))) ?_
    refine W.seq fun K7 hK7 => ?_
    -- region 4: history.go:102
    refine W.seqR fun Q8 hQ8 => ?_
    refine WL.q (Y.move (.pl rfl)) rfl ?_
    refine WL.q (Y.len Try.underlying22 (.pl rfl)) rfl ?_
    refine WL.q (Y.gtr (.pl rfl) (.pl rfl)) rfl ?_
    refine WL.next hQ8 (.cons (i := 0) rfl (.cons (i := 1) rfl (.cons (i := 19) rfl (.nil)))) ?_
    refine W.cond (.pl rfl) (fun hC9 => ?_) (fun hC9 => ?_)
    · replace hF := cpos hC9 hF
      -- region 5: history.go:103
      refine W.seqR fun Q10 hQ10 => ?_
      refine WL.q (Y.assign (.pl rfl)) rfl ?_
      refine WL.q (Y.assign (.pl rfl)) rfl ?_
      refine WL.q (Y.assign (.pl rfl)) rfl ?_
      refine WL.next hQ10 (.cons (i := 4) rfl (.cons (i := 5) rfl (.cons (i := 6) rfl (.nil)))) ?_
      obtain rfl := Option.some.inj hF
      refine W.retV (fn := Try.f26) (vs := [.slice none 0 0, .int .i64 0, .int .i64 2]) Try.results26 ⟨.tmp rfl, ⟨.tmp rfl, ⟨.tmp rfl, trivial⟩⟩⟩ (fun _ _ h => h) (fun wz hw => ?_)
      exact hR _ _ ⟨(none, 0), trivial, rfl, ((St.nilR (hw.pick [] rfl) encCall 7 48).pick [0] rfl)⟩
    · replace hF := cneg hC9 hF
      refine W.skip ?_
      refine W.go hK7 (.cons (i := 0) rfl (.cons (i := 1) rfl (.nil))) ?_
      -- region 6: history.go:105
      refine W.seqR fun Q11 hQ11 => ?_
      refine WL.q (Y.move (.pl rfl)) rfl ?_
      refine WL.q (Y.build (cs := (Value.slice A2 (types1).length c3 :: (Value.slice none 0 0 :: (((encA 8 (eI .i64) 0) []) ++ []))).toArray) shape99 (.cons (.pl rfl) (.nil)) (one_parts ⟨rfl, trivial⟩) rfl) rfl ?_
      refine WL.step (WO.boxA (.pl rfl) rfl fun b12 => ?_)
      refine WL.q (Y.assign (.pl rfl)) rfl ?_
      refine WL.next hQ11 (.cons (i := 1) rfl (.cons (i := 8) rfl (.nil))) ?_
      obtain ⟨o12, hF12, hF⟩ := bnd hF
      refine W.join4 (Em := fun (out15 : (List Call)) (open16 : (List Int)) (A13 : Option Addr) (c14 : Nat) => []) (M := fun out15 open16 A13 c14 => [cBx b12 99 (Value.slice A2 (types1).length c3 :: (Value.slice A13 (out15).length c14 :: (((encA 8 (eI .i64) 0) open16) ++ []))), cR encCall 7 A13 c14 48 out15]) (I := fun out15 open16 A13 c14 => (.inl (out15, open16)) = o12) (.cons (i := 8) rfl (.nil)) (fun K13 hK13 => ?_) ?_
      · -- up to
        -- region 7: history.go:106
        refine W.seqR fun Q14 hQ14 => ?_
        refine WL.q (Y.move (.pl rfl)) rfl ?_
        refine WL.q (Y.len Try.underlying22 (.pl rfl)) rfl ?_
        refine WL.q (Y.move (.pl rfl)) rfl ?_
        refine WL.next hQ14 (.cons (i := 8) rfl (.cons (i := 23) rfl (.cons (i := 24) rfl (.cons (i := 25) rfl (.nil))))) ?_
        refine W.block ?_
        refine W.loop5 (Em := fun (out19 : (List Call)) (open20 : (List Int)) (v21 : Int) (A17 : Option Addr) (c18 : Nat) => [(25, .int .i64 v21)]) (M := fun out19 open20 v21 A17 c18 => [cBx b12 99 (Value.slice A2 (types1).length c3 :: (Value.slice A17 (out19).length c18 :: (((encA 8 (eI .i64) 0) open20) ++ []))), cR encCall 7 A17 c18 48 out19]) (I := fun out19 open20 v21 A17 c18 k15 => iter (history_Calls_L3 N l6 types1) k15 (out19, open20, v21) = some o12) [] [] 0 none 0 N (hF12) (.cons rfl (.nil)) (.cons (i := 8) rfl (.cons (i := 23) rfl (.cons (i := 24) rfl (.nil)))) (fun wz hw => (St.nilR (hw.pick [0] rfl) encCall 7 48).pick [1, 0] rfl) (fun out19 open20 v21 A17 c18 k15 hI K16 hK16 => ?_)
        obtain ⟨k15, t15, rfl, hF15, hN15⟩ := iter_step hI
        -- region 8: history.go:106
        refine W.seqR fun Q17 hQ17 => ?_
        refine WL.q (Y.lss (.pl rfl) (.pl rfl)) rfl ?_
        refine WL.next hQ17 (.cons (i := 8) rfl (.cons (i := 23) rfl (.cons (i := 24) rfl (.cons (i := 25) rfl (.cons (i := 26) rfl (.nil)))))) ?_
        refine W.seq fun K18 hK18 => ?_
        refine W.cond (.pl rfl) (fun hC19 => ?_) (fun hC19 => ?_)
        · replace hF15 := cpos hC19 hF15
          refine W.skip ?_
          refine W.go hK18 (.cons (i := 8) rfl (.cons (i := 23) rfl (.cons (i := 24) rfl (.cons (i := 25) rfl (.nil))))) ?_
          refine W.seq fun K20 hK20 => ?_
          refine W.block ?_
          -- region 9: history.go:106
          refine W.seqR fun Q21 hQ21 => ?_
          refine WL.q (Y.move (.pl rfl)) rfl ?_
          obtain ⟨x22, hx22, hF15⟩ := bnd hF15
          refine WL.q (Y.slEl Try.underlying22 cells39 hs9 (.pl rfl) (.pl rfl) (ix_lt (hx22))) rfl ?_
          refine WL.q (Y.loadSA (enc := encEvent) (ds := (encEvent x22)) (j := 0) Try.underlying39 rfl cells39 hs9 (.pl rfl) (hx22) rfl rfl subW) rfl ?_
          refine WL.step (WO.alloc (cs := (encEvent (Event.mk 0 0 0 0)).toArray) zero39 rfl rfl fun b23 => ?_)
          refine WL.q (Y.assign (.pl rfl)) rfl ?_
          refine WL.step (WO.storeBA (ds := (encEvent x22)) (cs' := (encEvent x22)) cells39 (.pl rfl) (.pl rfl) rfl (oneEvent _) (i := 0) rfl (lel (o := 0) (l := 4) (m := 4) (by decide) rfl rfl) (putW rfl) ?_)
          refine WL.next hQ21 (.cons (i := 8) rfl (.cons (i := 9) rfl (.cons (i := 10) rfl (.cons (i := 23) rfl (.cons (i := 24) rfl (.cons (i := 25) rfl (.nil))))))) ?_
          -- region 10: history.go:107
          refine W.seqR fun Q22 hQ22 => ?_
          refine WL.q (Y.move (.pl rfl)) rfl ?_
          refine WL.q (Y.move (.pl rfl)) rfl ?_
          refine WL.q (Y.loadBA (ds := (encEvent x22)) Try.underlying39 rfl cells39 (.pl rfl) (i := 0) rfl rfl subW) rfl ?_
          obtain ⟨r24, hr24, hF15⟩ := bnd hF15
          refine WL.step (WO.call (γ := (Option Addr × Nat)) (fun g => .int .i64 r24.2.2) (fun g => [cBx b12 99 (Value.slice A2 (types1).length c3 :: (Value.slice g.1 (r24.1).length g.2 :: (((encA 8 (eI .i64) 0) r24.2.1) ++ []))), cR encCall 7 g.1 g.2 48 r24.1, cBx b23 39 (encEvent x22)]) (fun g => True) isGo65 (.cons (.pl rfl) (.cons (.pl rfl) (.cons (.pl rfl) (.nil)))) rfl (fun wz hw => history_reader_event_ok (T := [cBx b23 39 (encEvent x22)]) (hr24) (hw.pick [1, 2, 0] rfl) hs4) ?_)
          rintro ⟨A25, c26⟩ -
          refine WL.q (Y.assign (.pl rfl)) rfl ?_
          refine WL.next hQ22 (.cons (i := 8) rfl (.cons (i := 9) rfl (.cons (i := 11) rfl (.cons (i := 23) rfl (.cons (i := 24) rfl (.cons (i := 25) rfl (.nil))))))) ?_
          -- region 11: history.go:107
          refine W.seqR fun Q23 hQ23 => ?_
          refine WL.q (Y.move (.pl rfl)) rfl ?_
          refine WL.q (Y.neq (.pl rfl) (.pl rfl)) rfl ?_
          refine WL.next hQ23 (.cons (i := 8) rfl (.cons (i := 9) rfl (.cons (i := 11) rfl (.cons (i := 23) rfl (.cons (i := 24) rfl (.cons (i := 25) rfl (.cons (i := 35) rfl (.nil)))))))) ?_
          refine W.cond (.pl rfl) (fun hC24 => ?_) (fun hC24 => ?_)
          · replace hF15 := cpos hC24 hF15
            -- region 12: history.go:108
            refine W.seqR fun Q25 hQ25 => ?_
            refine WL.q (Y.move (.pl rfl)) rfl ?_
            refine WL.q (Y.move (.pl rfl)) rfl ?_
            refine WL.q (Y.assign (.pl rfl)) rfl ?_
            refine WL.q (Y.assign (.pl rfl)) rfl ?_
            refine WL.q (Y.assign (.pl rfl)) rfl ?_
            refine WL.next hQ25 (.cons (i := 4) rfl (.cons (i := 5) rfl (.cons (i := 6) rfl (.nil)))) ?_
            obtain rfl := Option.some.inj hF15
            obtain rfl := einr hN15
            obtain rfl := Option.some.inj hF
            refine W.retV (fn := Try.f26) (vs := [.slice none 0 0, .int .i64 v21, .int .i64 r24.2.2]) Try.results26 ⟨.tmp rfl, ⟨.tmp rfl, ⟨.tmp rfl, trivial⟩⟩⟩ (fun _ _ h => h) (fun wz hw => ?_)
            exact hR _ _ ⟨(none, 0), trivial, rfl, ((St.nilR (hw.pick [] rfl) encCall 7 48).pick [0] rfl)⟩
          · replace hF15 := cneg hC24 hF15
            refine W.skip ?_
            refine W.go hK20 (.cons (i := 8) rfl (.cons (i := 23) rfl (.cons (i := 24) rfl (.cons (i := 25) rfl (.nil))))) ?_
            -- region 13: history.go:106
            refine W.reg ?_
            obtain ⟨hk27, hF15⟩ := ckh hF15
            refine WL.q (Y.add (.pl rfl) (.pl rfl) (ok64_lt (hk27))) rfl ?_
            refine WL.q (Y.move (.pl rfl)) rfl ?_
            refine WL.nil ?_
            obtain rfl := Option.some.inj hF15
            exact W.again5 hK16 r24.1 r24.2.1 (v21 + 1) A25 c26 k15 hN15 (Nat.lt_succ_self _) (.cons rfl (.nil)) (.cons (i := 8) rfl (.cons (i := 23) rfl (.cons (i := 24) rfl (.nil)))) (fun wz hw => hw.pick [0, 1] rfl)
        · replace hF15 := cneg hC19 hF15
          refine W.exit ?_
          obtain rfl := Option.some.inj hF15
          exact W.joinAt4 hK13 out19 open20 A17 c18 (einr hN15) (.nil) (.cons (i := 8) rfl (.nil)) (fun wz hw => hw.pick [0, 1] rfl)
      · -- behind
        rintro out15 open16 A13 c14 rfl
        -- region 14: history.go:111
        refine W.seqR fun Q27 hQ27 => ?_
        refine WL.q (Y.move (.pl rfl)) rfl ?_
        refine WL.q (Y.nilCheck (.pl rfl)) rfl ?_
        refine WL.q (Y.fieldAddr0 (off := 1) (ft := 42) Try.underlying99 rfl cells42 (.pl rfl)) rfl ?_
        refine WL.q (Y.loadB (v := .slice A13 (out15).length c14) Try.underlying42 rfl (.pl rfl) (i := 0) rfl (rfl)) rfl ?_
        refine WL.q (Y.assign (.pl rfl)) rfl ?_
        refine WL.q (Y.assign (.pl rfl)) rfl ?_
        refine WL.q (Y.assign (.pl rfl)) rfl ?_
        refine WL.next hQ27 (.cons (i := 4) rfl (.cons (i := 5) rfl (.cons (i := 6) rfl (.nil)))) ?_
        obtain rfl := Option.some.inj hF
        refine W.retV (fn := Try.f26) (vs := [.slice A13 (out15).length c14, .int .i64 0, .int .i64 0]) Try.results26 ⟨.tmp rfl, ⟨.tmp rfl, ⟨.tmp rfl, trivial⟩⟩⟩ (fun _ _ h => h) (fun wz hw => ?_)
        exact hR _ _ ⟨(A13, c14), trivial, rfl, (hw.pick [1] rfl)⟩

def zones_calls_L3 (N : Nat) (r7 : ((List Call) × Int × Int)) : ((List (Int × Bool)) × Int) → Option (((List (Int × Bool)) × Int) ⊕ (Unit ⊕ ((List Call) × Int)))
  | (seen11, v12) =>
    cond (decide (v12 < ((r7.1).length : Int)))
      (bd (ix r7.1 v12) fun (x13 : Call) =>
      cond (decide (x13.kind = 1))
        (cond ((mget seen11 x13.arg).getD false)
          (some (.inr (.inr ([], 6))))
          (ck (ok64 (v12 + 1)) <|
          some (.inl ((mput seen11 x13.arg true), (v12 + 1)))))
        (ck (ok64 (v12 + 1)) <|
        some (.inl (seen11, (v12 + 1)))))
      (some (.inr (.inl ())))

def zones_calls (N : Nat) (l1 : (List Event)) : Option ((List Call) × Int) :=
  bd (history_Calls N ([1] : List Int) l1) fun (r7 : ((List Call) × Int × Int)) =>
  cond (!(decide (r7.2.2 = 0)))
    (some ([], r7.2.2))
    (bd (α := (Unit ⊕ ((List Call) × Int))) (iter (zones_calls_L3 N r7) N (([] : List (Int × Bool)), 0)) <|
    Sum.elim (fun _ => 
      some (r7.1, 0)) (fun p => some p))

theorem zones_calls_ok {N : Nat} {l1 : (List Event)} {res : ((List Call) × Int)} (hF : zones_calls N l1 = some res) (w : World) {v5 : Value} (hs4 : SlIn encEvent 4 w v5 l1) :
    Made Try.prog 59 [v5] w (fun g : (Option Addr × Nat) => .tuple #[.slice g.1 (res.1).length g.2, .int .i64 res.2]) (fun g => [cR encCall 7 g.1 g.2 48 res.1]) (fun g => True) := by
  obtain ⟨A2, c3, rfl, hcc3, hs4⟩ := hs4.form
  refine W.enter (n := 39) Try.func59 rfl rfl Sub.refl (by simp) (St.start w) fun R hR => ?_
  unfold zones_calls at hF
  -- region 0: zones.go:23
  refine W.seqR fun Q1 hQ1 => ?_
  refine WL.q (Y.assign (.pl rfl)) rfl ?_
  refine WL.q (Y.assign (.pl rfl)) rfl ?_
  refine WL.next hQ1 (.cons (i := 0) rfl (.nil)) ?_
  -- region 1: zones.go:24
  refine W.seqR fun Q2 hQ2 => ?_
  refine WL.step (WO.bsliceC (enc := (eI .i64)) (ys := ([1] : List Int)) Try.underlying45 bz3 (.cons (.pl rfl) (.nil)) rfl (fun _ => rfl) rfl rfl (by decide) (by decide) rfl fun b6 => ?_)
  refine WL.q (Y.move (.pl rfl)) rfl ?_
  obtain ⟨r7, hr7, hF⟩ := bnd hF
  refine WL.step (WO.callM isGo26 (.cons (.pl rfl) (.cons (.pl rfl) (.nil))) rfl (fun wz hw => history_Calls_ok (hr7) wz (SlIn.ofRow (fun _ => rfl) hw (i := 0) rfl) (hs4.mono hw)) ?_)
  rintro ⟨A8, c9⟩ -
  refine WL.q (Y.move (.pl rfl)) rfl ?_
  refine WL.q (Y.extract (.pl rfl) rfl) rfl ?_
  refine WL.q (Y.extract (.pl rfl) rfl) rfl ?_
  refine WL.q (Y.extract (.pl rfl) rfl) rfl ?_
  refine WL.q (Y.assign (.pl rfl)) rfl ?_
  refine WL.q (Y.assign (.pl rfl)) rfl ?_
  refine WL.q (Y.assign (.pl rfl)) rfl ?_
  refine WL.next hQ2 (.cons (i := 4) rfl (.cons (i := 6) rfl (.nil))) ?_
  refine W.seq fun K3 hK3 => ?_
  -- region 2: zones.go:25
  refine W.seqR fun Q4 hQ4 => ?_
  refine WL.q (Y.move (.pl rfl)) rfl ?_
  refine WL.q (Y.neq (.pl rfl) (.pl rfl)) rfl ?_
  refine WL.next hQ4 (.cons (i := 4) rfl (.cons (i := 6) rfl (.cons (i := 18) rfl (.nil)))) ?_
  refine W.cond (.pl rfl) (fun hC5 => ?_) (fun hC5 => ?_)
  · replace hF := cpos hC5 hF
    -- region 3: zones.go:26
    refine W.seqR fun Q6 hQ6 => ?_
    refine WL.q (Y.move (.pl rfl)) rfl ?_
    refine WL.q (Y.assign (.pl rfl)) rfl ?_
    refine WL.q (Y.assign (.pl rfl)) rfl ?_
    refine WL.next hQ6 (.cons (i := 2) rfl (.cons (i := 3) rfl (.nil))) ?_
    obtain rfl := Option.some.inj hF
    refine W.retV (fn := Try.f59) (vs := [.slice none 0 0, .int .i64 r7.2.2]) Try.results59 ⟨.tmp rfl, ⟨.tmp rfl, trivial⟩⟩ (fun _ _ h => h) (fun wz hw => ?_)
    exact hR _ _ ⟨(none, 0), trivial, rfl, ((St.nilR (hw.pick [] rfl) encCall 7 48).pick [0] rfl)⟩
  · replace hF := cneg hC5 hF
    refine W.skip ?_
    refine W.go hK3 (.cons (i := 4) rfl (.nil)) ?_
    -- region 4: zones.go:28
    refine W.seqR fun Q7 hQ7 => ?_
    refine WL.step (WO.mmake Value.bool rfl fun b10 => ?_)
    refine WL.q (Y.assign (.pl rfl)) rfl ?_
    refine WL.next hQ7 (.cons (i := 4) rfl (.cons (i := 7) rfl (.nil))) ?_
    obtain ⟨o8, hF8, hF⟩ := bnd hF
    refine W.join0 (Em := []) (M := [cR encCall 7 A8 c9 48 r7.1]) (I := (.inl ()) = o8) (.cons (i := 4) rfl (.nil)) (fun K9 hK9 => ?_) ?_
    · -- up to
      -- region 5: zones.go:29
      refine W.seqR fun Q10 hQ10 => ?_
      refine WL.q (Y.move (.pl rfl)) rfl ?_
      refine WL.q (Y.len Try.underlying42 (.pl rfl)) rfl ?_
      refine WL.q (Y.move (.pl rfl)) rfl ?_
      refine WL.next hQ10 (.cons (i := 4) rfl (.cons (i := 7) rfl (.cons (i := 21) rfl (.cons (i := 22) rfl (.cons (i := 23) rfl (.nil)))))) ?_
      refine W.block ?_
      refine W.loop2 (Em := fun (seen11 : (List (Int × Bool))) (v12 : Int) => [(23, .int .i64 v12)]) (M := fun seen11 v12 => [cR encCall 7 A8 c9 48 r7.1, cM Value.bool (some b10) seen11]) (I := fun seen11 v12 k11 => iter (zones_calls_L3 N r7) k11 (seen11, v12) = some o8) ([] : List (Int × Bool)) 0 N (hF8) (.cons rfl (.nil)) (.cons (i := 4) rfl (.cons (i := 7) rfl (.cons (i := 21) rfl (.cons (i := 22) rfl (.nil))))) (fun wz hw => hw.pick [1, 0] rfl) (fun seen11 v12 k11 hI K12 hK12 => ?_)
      obtain ⟨k11, t11, rfl, hF11, hN11⟩ := iter_step hI
      -- region 6: zones.go:29
      refine W.seqR fun Q13 hQ13 => ?_
      refine WL.q (Y.lss (.pl rfl) (.pl rfl)) rfl ?_
      refine WL.next hQ13 (.cons (i := 4) rfl (.cons (i := 7) rfl (.cons (i := 21) rfl (.cons (i := 22) rfl (.cons (i := 23) rfl (.cons (i := 24) rfl (.nil))))))) ?_
      refine W.seq fun K14 hK14 => ?_
      refine W.cond (.pl rfl) (fun hC15 => ?_) (fun hC15 => ?_)
      · replace hF11 := cpos hC15 hF11
        refine W.skip ?_
        refine W.go hK14 (.cons (i := 4) rfl (.cons (i := 7) rfl (.cons (i := 21) rfl (.cons (i := 22) rfl (.cons (i := 23) rfl (.nil)))))) ?_
        refine W.seq fun K16 hK16 => ?_
        refine W.block ?_
        -- region 7: zones.go:29
        refine W.seqR fun Q17 hQ17 => ?_
        obtain ⟨x13, hx13, hF11⟩ := bnd hF11
        refine WL.q (Y.rowEl Try.underlying42 cells48 (i := 0) rfl (.pl rfl) rfl (.pl rfl) (ix_lt (hx13))) rfl ?_
        refine WL.q (Y.loadRA (enc := encCall) (ds := (encCall x13)) (a := x13) (idx := v12) (j := 0) Try.underlying48 rfl cells48 lenCall (i := 0) rfl (.pl rfl) (ix_get (hx13)) rfl rfl subW) rfl ?_
        refine WL.step (WO.alloc (cs := (encCall (Call.mk 0 0 0 0 0 0 0)).toArray) zero48 rfl rfl fun b14 => ?_)
        refine WL.step (WO.storeBA (ds := (encCall x13)) (cs' := (encCall x13)) cells48 (.pl rfl) (.pl rfl) rfl (oneCall _) (i := 0) rfl (lel (o := 0) (l := 7) (m := 7) (by decide) rfl rfl) (putW rfl) ?_)
        refine WL.next hQ17 (.cons (i := 4) rfl (.cons (i := 7) rfl (.cons (i := 9) rfl (.cons (i := 21) rfl (.cons (i := 22) rfl (.cons (i := 23) rfl (.nil))))))) ?_
        -- region 8: zones.go:30
        refine W.seqR fun Q18 hQ18 => ?_
        refine WL.q (Y.fieldAddr0 (off := 2) (ft := 3) Try.underlying48 rfl cells3 (.pl rfl)) rfl ?_
        refine WL.q (Y.loadB (v := .int .i64 x13.kind) Try.underlying3 rfl (.pl rfl) (i := 0) rfl (rfl)) rfl ?_
        refine WL.q (Y.eql (.pl rfl) (.pl rfl)) rfl ?_
        refine WL.next hQ18 (.cons (i := 4) rfl (.cons (i := 7) rfl (.cons (i := 9) rfl (.cons (i := 21) rfl (.cons (i := 22) rfl (.cons (i := 23) rfl (.cons (i := 29) rfl (.nil)))))))) ?_
        refine W.cond (.pl rfl) (fun hC19 => ?_) (fun hC19 => ?_)
        · replace hF11 := cpos hC19 hF11
          refine W.seq fun K20 hK20 => ?_
          -- region 9: zones.go:31
          refine W.seqR fun Q21 hQ21 => ?_
          refine WL.q (Y.move (.pl rfl)) rfl ?_
          refine WL.q (Y.fieldAddr0 (off := 3) (ft := 3) Try.underlying48 rfl cells3 (.pl rfl)) rfl ?_
          refine WL.q (Y.loadB (v := .int .i64 x13.arg) Try.underlying3 rfl (.pl rfl) (i := 0) rfl (rfl)) rfl ?_
          refine WL.q (Y.mget (f := Value.bool) (dv := false) Try.underlying129 Try.underlying3 zero4 (.pl rfl) (.pl rfl) (i := 2) rfl) rfl ?_
          refine WL.next hQ21 (.cons (i := 4) rfl (.cons (i := 7) rfl (.cons (i := 9) rfl (.cons (i := 21) rfl (.cons (i := 22) rfl (.cons (i := 23) rfl (.cons (i := 33) rfl (.nil)))))))) ?_
          refine W.cond (.pl rfl) (fun hC22 => ?_) (fun hC22 => ?_)
          · replace hF11 := cpos hC22 hF11
            -- region 10: zones.go:32
            refine W.seqR fun Q23 hQ23 => ?_
            refine WL.q (Y.assign (.pl rfl)) rfl ?_
            refine WL.q (Y.assign (.pl rfl)) rfl ?_
            refine WL.next hQ23 (.cons (i := 2) rfl (.cons (i := 3) rfl (.nil))) ?_
            obtain rfl := Option.some.inj hF11
            obtain rfl := einr hN11
            obtain rfl := Option.some.inj hF
            refine W.retV (fn := Try.f59) (vs := [.slice none 0 0, .int .i64 6]) Try.results59 ⟨.tmp rfl, ⟨.tmp rfl, trivial⟩⟩ (fun _ _ h => h) (fun wz hw => ?_)
            exact hR _ _ ⟨(none, 0), trivial, rfl, ((St.nilR (hw.pick [] rfl) encCall 7 48).pick [0] rfl)⟩
          · replace hF11 := cneg hC22 hF11
            refine W.skip ?_
            refine W.go hK20 (.cons (i := 4) rfl (.cons (i := 7) rfl (.cons (i := 9) rfl (.cons (i := 21) rfl (.cons (i := 22) rfl (.cons (i := 23) rfl (.nil))))))) ?_
            -- region 11: zones.go:34
            refine W.reg ?_
            refine WL.q (Y.move (.pl rfl)) rfl ?_
            refine WL.q (Y.fieldAddr0 (off := 3) (ft := 3) Try.underlying48 rfl cells3 (.pl rfl)) rfl ?_
            refine WL.q (Y.loadB (v := .int .i64 x13.arg) Try.underlying3 rfl (.pl rfl) (i := 0) rfl (rfl)) rfl ?_
            refine WL.step (WO.mset (f := Value.bool) (a := true) Try.underlying129 Try.underlying3 (.pl rfl) (.pl rfl) (.pl rfl) (i := 2) rfl ?_)
            refine WL.nil ?_
            refine W.go hK16 (.cons (i := 4) rfl (.cons (i := 7) rfl (.cons (i := 21) rfl (.cons (i := 22) rfl (.cons (i := 23) rfl (.nil)))))) ?_
            -- region 12: zones.go:29
            refine W.reg ?_
            obtain ⟨hk15, hF11⟩ := ckh hF11
            refine WL.q (Y.add (.pl rfl) (.pl rfl) (ok64_lt (hk15))) rfl ?_
            refine WL.q (Y.move (.pl rfl)) rfl ?_
            refine WL.nil ?_
            obtain rfl := Option.some.inj hF11
            exact W.again2 hK12 (mput seen11 x13.arg true) (v12 + 1) k11 hN11 (Nat.lt_succ_self _) (.cons rfl (.nil)) (.cons (i := 4) rfl (.cons (i := 7) rfl (.cons (i := 21) rfl (.cons (i := 22) rfl (.nil))))) (fun wz hw => hw.pick [1, 2] rfl)
        · replace hF11 := cneg hC19 hF11
          refine W.skip ?_
          refine W.go hK16 (.cons (i := 4) rfl (.cons (i := 7) rfl (.cons (i := 21) rfl (.cons (i := 22) rfl (.cons (i := 23) rfl (.nil)))))) ?_
          -- region 12: zones.go:29
          refine W.reg ?_
          obtain ⟨hk16, hF11⟩ := ckh hF11
          refine WL.q (Y.add (.pl rfl) (.pl rfl) (ok64_lt (hk16))) rfl ?_
          refine WL.q (Y.move (.pl rfl)) rfl ?_
          refine WL.nil ?_
          obtain rfl := Option.some.inj hF11
          exact W.again2 hK12 seen11 (v12 + 1) k11 hN11 (Nat.lt_succ_self _) (.cons rfl (.nil)) (.cons (i := 4) rfl (.cons (i := 7) rfl (.cons (i := 21) rfl (.cons (i := 22) rfl (.nil))))) (fun wz hw => hw.pick [1, 2] rfl)
      · replace hF11 := cneg hC15 hF11
        refine W.exit ?_
        obtain rfl := Option.some.inj hF11
        exact W.joinAt0 hK9  (einr hN11) (.nil) (.cons (i := 4) rfl (.nil)) (fun wz hw => hw.pick [0] rfl)
    · -- behind
      rintro  rfl
      -- region 13: zones.go:37
      refine W.seqR fun Q27 hQ27 => ?_
      refine WL.q (Y.move (.pl rfl)) rfl ?_
      refine WL.q (Y.assign (.pl rfl)) rfl ?_
      refine WL.q (Y.assign (.pl rfl)) rfl ?_
      refine WL.next hQ27 (.cons (i := 2) rfl (.cons (i := 3) rfl (.nil))) ?_
      obtain rfl := Option.some.inj hF
      refine W.retV (fn := Try.f59) (vs := [.slice A8 (r7.1).length c9, .int .i64 0]) Try.results59 ⟨.tmp rfl, ⟨.tmp rfl, trivial⟩⟩ (fun _ _ h => h) (fun wz hw => ?_)
      exact hR _ _ ⟨(A8, c9), trivial, rfl, (hw.pick [0] rfl)⟩

def ren94 : Go.Shelf.Ren := ⟨fun x => match x with | 6 => 94 | 14 => 127 | 15 => 82 | 20 => 151 | 21 => 152 | 22 => 153 | 23 => 154 | 24 => 155 | 25 => 156 | 26 => 157 | 27 => 158 | 28 => 121 | 29 => 122 | 46 => 174 | 47 => 139 | 48 => 140 | 49 => 175 | 50 => 176 | 57 => 181 | n => n, fun x => match x with | 0 => 0 | 3 => 3 | 4 => 4 | 5 => 5 | 9 => 9 | 22 => 89 | 24 => 148 | 25 => 152 | 39 => 132 | 45 => 172 | 46 => 173 | 50 => 177 | 53 => 180 | 55 => 182 | 66 => 198 | 70 => 202 | 76 => 233 | 77 => 234 | n => n, fun x => x⟩
theorem lays94 : SlLaysF0.n6 Try.prog ren94 where
  mixed := by kernel_rfl
  f6 := ⟨Try.f94.name, by kernel_rfl, Try.func94.trans (congrArg some (by kernel_rfl))⟩
  f14 := ⟨Try.f127.name, by kernel_rfl, Try.func127.trans (congrArg some (by kernel_rfl))⟩
  f15 := Try.func82.trans (congrArg some (by kernel_rfl))
  f20 := ⟨Try.f151.name, by kernel_rfl, Try.func151.trans (congrArg some (by kernel_rfl))⟩
  f21 := ⟨Try.f152.name, by kernel_rfl, Try.func152.trans (congrArg some (by kernel_rfl))⟩
  f22 := ⟨Try.f153.name, by kernel_rfl, Try.func153.trans (congrArg some (by kernel_rfl))⟩
  f23 := ⟨Try.f154.name, by kernel_rfl, Try.func154.trans (congrArg some (by kernel_rfl))⟩
  f24 := ⟨Try.f155.name, by kernel_rfl, Try.func155.trans (congrArg some (by kernel_rfl))⟩
  f25 := ⟨Try.f156.name, by kernel_rfl, Try.func156.trans (congrArg some (by kernel_rfl))⟩
  f26 := ⟨Try.f157.name, by kernel_rfl, Try.func157.trans (congrArg some (by kernel_rfl))⟩
  f27 := ⟨Try.f158.name, by kernel_rfl, Try.func158.trans (congrArg some (by kernel_rfl))⟩
  f28 := Try.func121.trans (congrArg some (by kernel_rfl))
  f29 := Try.func122.trans (congrArg some (by kernel_rfl))
  f46 := ⟨Try.f174.name, by kernel_rfl, Try.func174.trans (congrArg some (by kernel_rfl))⟩
  f47 := Try.func139.trans (congrArg some (by kernel_rfl))
  f48 := Try.func140.trans (congrArg some (by kernel_rfl))
  f49 := ⟨Try.f175.name, by kernel_rfl, Try.func175.trans (congrArg some (by kernel_rfl))⟩
  f50 := ⟨Try.f176.name, by kernel_rfl, Try.func176.trans (congrArg some (by kernel_rfl))⟩
  f57 := ⟨Try.f181.name, by kernel_rfl, Try.func181.trans (congrArg some (by kernel_rfl))⟩
  t0 := Try.underlying0
  a0 := Try.isAgg0
  z0 := Try.sizeOf0
  v0 := Try.zeroValue0
  t3 := Try.underlying3
  a3 := Try.isAgg3
  z3 := Try.sizeOf3
  v3 := Try.zeroValue3
  t4 := Try.underlying4
  a4 := Try.isAgg4
  z4 := Try.sizeOf4
  v4 := Try.zeroValue4
  t5 := Try.underlying5
  a5 := Try.isAgg5
  z5 := Try.sizeOf5
  v5 := Try.zeroValue5
  t9 := Try.underlying9
  a9 := Try.isAgg9
  z9 := Try.sizeOf9
  v9 := Try.zeroValue9
  t22 := Try.underlying89
  a22 := Try.isAgg89
  z22 := Try.sizeOf89
  v22 := Try.zeroValue89
  t25 := Try.underlying152
  a25 := Try.isAgg152
  z25 := Try.sizeOf152
  v25 := Try.zeroValue152
  t39 := Try.underlying132
  a39 := Try.isAgg132
  z39 := Try.sizeOf132
  v39 := Try.zeroValue132
  t45 := Try.underlying172
  a45 := Try.isAgg172
  z45 := Try.sizeOf172
  v45 := Try.zeroValue172
  t46 := Try.underlying173
  a46 := Try.isAgg173
  z46 := Try.sizeOf173
  v46 := Try.zeroValue173
  t50 := Try.underlying177
  a50 := Try.isAgg177
  z50 := Try.sizeOf177
  v50 := Try.zeroValue177
  t53 := Try.underlying180
  a53 := Try.isAgg180
  z53 := Try.sizeOf180
  v53 := Try.zeroValue180
  t55 := Try.underlying182
  a55 := Try.isAgg182
  z55 := Try.sizeOf182
  v55 := Try.zeroValue182
  t66 := Try.underlying198
  a66 := Try.isAgg198
  z66 := Try.sizeOf198
  v66 := Try.zeroValue198
  t70 := Try.underlying202
  a70 := Try.isAgg202
  z70 := Try.sizeOf202
  v70 := Try.zeroValue202
  t76 := Try.underlying233
  a76 := Try.isAgg233
  z76 := Try.sizeOf233
  v76 := Try.zeroValue233
  t77 := Try.underlying234
  a77 := Try.isAgg234
  z77 := Try.sizeOf234
  v77 := Try.zeroValue234
theorem cmpNaN (x : Int) (w : World) : Calls Try.prog 128 #[.int .i64 x] w fun e w' => e = .returned (.bool false) ∧ w' = w := by
  go_enter Try.func128, Try.ntmps128
  go_wp2
  go_ret
  exact ⟨by simp, rfl⟩
theorem cmpInt (x y : Int) (w : World) : Calls Try.prog 96 #[.int .i64 x, .int .i64 y] w fun e w' => e = .returned (.int .i64 (Go.Lib.compareInt x y)) ∧ w' = w := by
  go_enter Try.func96, Try.ntmps96
  go_wp2_with (go_at_call 128; refine (cmpNaN _ _).mono ?_; rintro e w' ⟨rfl, hw⟩; rw [hw])
  all_goals (go_ret; refine ⟨?_, rfl⟩; unfold Go.Lib.compareInt; (repeat' split) <;> first | rfl | (exfalso; omega))
theorem cmp_lt (x y : Int) : Go.Lib.compareInt x y < 0 ↔ x < y := by
  unfold Go.Lib.compareInt
  split
  · omega
  · split <;> omega
def sort94S : ZonesCluster → Bool := fun x => true
instance : Inhabited (SubT sort94S) := ⟨⟨ZonesCluster.z, rfl⟩⟩
abbrev sort94C : ZonesCluster → ZonesCluster → Int := fun a b => Go.Lib.compareInt a.value b.value
theorem sort94_swo : Go.Sort.SWO (ltOf fun a b : SubT sort94S => sort94C a.1 b.1) := by
  refine ⟨fun x => ?_, fun x y z h1 h2 => ?_, fun x y z h1 h2 => ?_⟩
  · exact decide_eq_false (by rw [cmp_lt]; omega)
  · have h1 : x.1.value < y.1.value := (cmp_lt _ _).1 (of_decide_eq_true h1)
    have h2 : y.1.value < z.1.value := (cmp_lt _ _).1 (of_decide_eq_true h2)
    exact decide_eq_true ((cmp_lt x.1.value z.1.value).2 (by omega))
  · have h1 : ¬ x.1.value < y.1.value := fun h => (of_decide_eq_false h1) ((cmp_lt _ _).2 h)
    have h2 : ¬ y.1.value < z.1.value := fun h => (of_decide_eq_false h2) ((cmp_lt _ _).2 h)
    exact decide_eq_false (fun h => by have h : x.1.value < z.1.value := (cmp_lt _ _).1 h; omega)
theorem sort94_cmp (h h' : Hd) (x y : ZonesCluster) (hx : sort94S x = true) (hy : sort94S y = true) (W : World) : Calls Try.prog 95 #[.agg (encNZonesCluster h x).toArray, .agg (encNZonesCluster h' y).toArray] W fun e w' => e = .returned (.int .i64 (sort94C x y)) ∧ ∃ q os', w' = Go.Sort.grow (W.drewN q) os' := by
  obtain ⟨a1, a2, a3, a4, ⟨a5, a6, a7, a8⟩, a9⟩ := x
  obtain ⟨b1, b2, b3, b4, ⟨b5, b6, b7, b8⟩, b9⟩ := y
  have hcon := fun W' => cmpInt a1 b1 W'
  show Calls Try.prog 95 #[.agg #[.int .i64 a1, .int .i64 a2, .int .i64 a3, .slice h.1 a4.length h.2, .int .i64 a5, .int .i64 a6, .int .i64 a7, .bool a8, .bool a9], .agg #[.int .i64 b1, .int .i64 b2, .int .i64 b3, .slice h'.1 b4.length h'.2, .int .i64 b5, .int .i64 b6, .int .i64 b7, .bool b8, .bool b9]] W fun e w' => e = .returned (.int .i64 (Go.Lib.compareInt a1 b1)) ∧ ∃ q os', w' = Go.Sort.grow (W.drewN q) os'
  generalize Go.Lib.compareInt a1 b1 = r at hcon ⊢
  go_enter Try.func95, Try.ntmps95
  go_wp2_with (go_at_call 96; refine (hcon _).mono ?_; rintro e w' ⟨rfl, rfl⟩)
  go_ret
  exact ⟨rfl, 0, _, by rw [Go.Sort.alloc_eq_grow, Go.Sort.alloc_eq_grow, Go.Sort.grow_grow]; rfl⟩
def sort94 (N : Nat) (xs : List ZonesCluster) : Option (List ZonesCluster) := sortNO sort94S sort94C xs
theorem sort94_ok {N : Nat} {sI1 : (List ZonesCluster)} {AI4 : Option Addr} {cI5 : Nat} {hI6 : List Hd} {res : (List ZonesCluster)} (hF : sort94 N sI1 = some res) {w0 w : World} {T : List Chunk} (hw : St w0.heap.size w0 ([cN encNZonesCluster innNZonesCluster 9 AI4 cI5 148 hI6 sI1] ++ T) w) :
    Calls Try.prog 94 (List.toArray [.slice AI4 (sI1).length cI5, .func (.func 95) #[] #[]]) w (fun e w' => ∃ g : List Hd, ((res).length = (sI1).length) ∧ e = .returned (.tuple #[]) ∧ St w0.heap.size w0 ([cN encNZonesCluster innNZonesCluster 9 AI4 cI5 148 g res] ++ T) w') :=
  sortN_calls lays94 Try.isAgg148 Try.sizeOf148 lenNZonesCluster oneNZonesCluster sort94_swo (enters_of Try.func95 (by kernel_rfl) rfl) sort94_cmp hF hw

def zones_clusters_L29 (N : Nat) (c1 : (List Call)) : ((List ZonesCluster) × Int) → Option (((List ZonesCluster) × Int) ⊕ (List ZonesCluster))
  | (out13, v15) =>
    cond (decide (v15 < ((c1).length : Int)))
      (bd (ix c1 v15) fun (x16 : Call) =>
      cond (!(decide (x16.kind = 1)))
        (ck (ok64 (v15 + 1)) <|
        some (.inl (out13, (v15 + 1))))
        (cond (decide (x16.to_ = (-1)))
          (ck (limB 88 ((out13).length + (([(ZonesCluster.mk x16.arg v15 x16.from_ [] (Zone.mk x16.arg 200 x16.from_ false) (!(decide (x16.to_ = (-1)))))] : List ZonesCluster)).length)) <|
          ck (ok64 (v15 + 1)) <|
          some (.inl ((out13 ++ ([(ZonesCluster.mk x16.arg v15 x16.from_ [] (Zone.mk x16.arg 200 x16.from_ false) (!(decide (x16.to_ = (-1)))))] : List ZonesCluster)), (v15 + 1))))
          (ck (limB 88 ((out13).length + (([(ZonesCluster.mk x16.arg v15 x16.from_ [] (Zone.mk x16.arg x16.to_ x16.from_ false) (!(decide (x16.to_ = (-1)))))] : List ZonesCluster)).length)) <|
          ck (ok64 (v15 + 1)) <|
          some (.inl ((out13 ++ ([(ZonesCluster.mk x16.arg v15 x16.from_ [] (Zone.mk x16.arg x16.to_ x16.from_ false) (!(decide (x16.to_ = (-1)))))] : List ZonesCluster)), (v15 + 1))))))
      (some (.inr out13))

def zones_clusters_L55 (N : Nat) (c1 : (List Call)) (v34 : Int) : ((List ZonesCluster) × Int) → Option (((List ZonesCluster) × Int) ⊕ (List ZonesCluster))
  | (out40, v42) =>
    cond (decide (v42 < ((c1).length : Int)))
      (bd (ix c1 v42) fun (x43 : Call) =>
      bd ((cond (((decide (x43.kind = 2)) && (!(decide (x43.to_ = (-1))))) == true) (ix out40 v34) (some ZonesCluster.z))) fun (x45 : ZonesCluster) =>
      cond (((decide (x43.kind = 2)) && (!(decide (x43.to_ = (-1))))) && (decide (x43.res = x45.value)))
        (bd (ix out40 v34) fun (x46 : ZonesCluster) =>
        ck (limB 8 ((x46.reads).length + (([v42] : List Int)).length)) <|
        bd (ix out40 v34) fun (x51 : ZonesCluster) =>
        bd (ix (out40.set v34.toNat (ZonesCluster.mk x51.value x51.write x51.from_ (x46.reads ++ ([v42] : List Int)) x51.zone x51.counts)) v34) fun (x52 : ZonesCluster) =>
        bd (ix ((out40.set v34.toNat (ZonesCluster.mk x51.value x51.write x51.from_ (x46.reads ++ ([v42] : List Int)) x51.zone x51.counts)).set v34.toNat (ZonesCluster.mk x51.value x51.write x51.from_ (x46.reads ++ ([v42] : List Int)) x51.zone true)) v34) fun (x53 : ZonesCluster) =>
        bd (ix ((out40.set v34.toNat (ZonesCluster.mk x51.value x51.write x51.from_ (x46.reads ++ ([v42] : List Int)) x51.zone x51.counts)).set v34.toNat (ZonesCluster.mk x51.value x51.write x51.from_ (x46.reads ++ ([v42] : List Int)) x51.zone true)) v34) fun (x54 : ZonesCluster) =>
        bd (ix ((out40.set v34.toNat (ZonesCluster.mk x51.value x51.write x51.from_ (x46.reads ++ ([v42] : List Int)) x51.zone x51.counts)).set v34.toNat (ZonesCluster.mk x51.value x51.write x51.from_ (x46.reads ++ ([v42] : List Int)) x51.zone true)) v34) fun (x55 : ZonesCluster) =>
        bd (ix (((out40.set v34.toNat (ZonesCluster.mk x51.value x51.write x51.from_ (x46.reads ++ ([v42] : List Int)) x51.zone x51.counts)).set v34.toNat (ZonesCluster.mk x51.value x51.write x51.from_ (x46.reads ++ ([v42] : List Int)) x51.zone true)).set v34.toNat (ZonesCluster.mk x51.value x51.write x51.from_ (x46.reads ++ ([v42] : List Int)) (Zone.mk x51.zone.value (min x51.zone.first x43.to_) x51.zone.last x51.zone.forward) true)) v34) fun (x56 : ZonesCluster) =>
        ck (ok64 (v42 + 1)) <|
        some (.inl (((((out40.set v34.toNat (ZonesCluster.mk x51.value x51.write x51.from_ (x46.reads ++ ([v42] : List Int)) x51.zone x51.counts)).set v34.toNat (ZonesCluster.mk x51.value x51.write x51.from_ (x46.reads ++ ([v42] : List Int)) x51.zone true)).set v34.toNat (ZonesCluster.mk x51.value x51.write x51.from_ (x46.reads ++ ([v42] : List Int)) (Zone.mk x51.zone.value (min x51.zone.first x43.to_) x51.zone.last x51.zone.forward) true)).set v34.toNat (ZonesCluster.mk x51.value x51.write x51.from_ (x46.reads ++ ([v42] : List Int)) (Zone.mk x51.zone.value (min x51.zone.first x43.to_) (max x51.zone.last x43.from_) x51.zone.forward) true)), (v42 + 1))))
        (ck (ok64 (v42 + 1)) <|
        some (.inl (out40, (v42 + 1)))))
      (some (.inr out40))

def zones_clusters_L51 (N : Nat) (out9 : (List ZonesCluster)) (c1 : (List Call)) : ((List ZonesCluster) × Int) → Option (((List ZonesCluster) × Int) ⊕ (List ZonesCluster))
  | (out32, v34) =>
    cond (decide (v34 < ((out9).length : Int)))
      (bd (α := (List ZonesCluster)) (bd (ix out32 v34) fun (x37 : ZonesCluster) =>
        bd (α := (List ZonesCluster)) (iter (zones_clusters_L55 N c1 v34) N (out32, 0)) <|
        fun (out38 : (List ZonesCluster)) => 
          bd (ix out38 v34) fun (x60 : ZonesCluster) =>
          bd (ix out38 v34) fun (x61 : ZonesCluster) =>
          bd (ix out38 v34) fun (x62 : ZonesCluster) =>
          some (out38.set v34.toNat (ZonesCluster.mk x62.value x62.write x62.from_ x62.reads (Zone.mk x62.zone.value x62.zone.first x62.zone.last (decide (x60.zone.first < x61.zone.last))) x62.counts))) <|
      fun (out35 : (List ZonesCluster)) => 
        ck (ok64 (v34 + 1)) <|
        some (.inl (out35, (v34 + 1))))
      (some (.inr out32))

def zones_clusters (N : Nat) (c1 : (List Call)) : Option (List ZonesCluster) :=
  bd (α := (List ZonesCluster)) (iter (zones_clusters_L29 N c1) N (([(ZonesCluster.mk 0 (-1) (-1) [] (Zone.mk 0 (-1) (-1) false) false)] : List ZonesCluster), 0)) <|
  fun (out9 : (List ZonesCluster)) => 
    bd (α := (List ZonesCluster)) (iter (zones_clusters_L51 N out9 c1) N (out9, 0)) <|
    fun (out30 : (List ZonesCluster)) => 
      bd (sort94 N out30) fun (r64 : (List ZonesCluster)) =>
      some r64

theorem zones_clusters_ok {N : Nat} {c1 : (List Call)} {res : (List ZonesCluster)} (hF : zones_clusters N c1 = some res) (w : World) {v5 : Value} (hs4 : SlIn encCall 7 w v5 c1) :
    Made Try.prog 60 [v5] w (fun g : (Option Addr × Nat × List Hd) => .slice g.1 (res).length g.2.1) (fun g => [cN encNZonesCluster innNZonesCluster 9 g.1 g.2.1 148 g.2.2 res]) (fun g => True) := by
  obtain ⟨A2, c3, rfl, hcc3, hs4⟩ := hs4.form
  refine W.enter (n := 140) Try.func60 rfl rfl Sub.refl (by simp) (St.start w) fun R hR => ?_
  unfold zones_clusters at hF
  -- region 0: zones.go:41
  refine W.seqR fun Q1 hQ1 => ?_
  refine WL.q (Y.assign (.pl rfl)) rfl ?_
  refine WL.next hQ1 (.cons (i := 0) rfl (.nil)) ?_
  -- region 1: zones.go:42
  refine W.seqR fun Q2 hQ2 => ?_
  refine WL.q (Y.build (cs := (encZone (Zone.mk 0 (-1) (-1) false)).toArray) shape105 (.cons (.pl rfl) (.cons (.pl rfl) (.nil))) (one_parts ⟨rfl, ⟨rfl, trivial⟩⟩) rfl) rfl ?_
  refine WL.q (Y.buildF (cs := (Value.int .i64 0 :: (Value.int .i64 (-1) :: (Value.int .i64 (-1) :: (Value.slice none 0 0 :: ((encZone (Zone.mk 0 (-1) (-1) false)) ++ (Value.bool false :: [])))))).toArray) shape148 (.cons (.pl rfl) (.cons (.pl rfl) (.cons (.pl rfl) (.nil)))) (by kernel_rfl)) rfl ?_
  refine WL.step (WO.bsliceN (enc := encNZonesCluster) (inn := innNZonesCluster) (hs := ([((none, 0) : Hd)] : List Hd)) (xs := ([(ZonesCluster.mk 0 (-1) (-1) [] (Zone.mk 0 (-1) (-1) false) false)] : List ZonesCluster)) Try.underlying89 bz148 (.cons (.pl rfl) (.nil)) rfl rfl rfl rfl rfl lenNZonesCluster (by decide) (by decide) (.trans (.nilR (eI .i64) 1 3) (.pick [0] rfl)) rfl fun b6 => ?_)
  refine WL.q (Y.assign (.pl rfl)) rfl ?_
  refine WL.next hQ2 (.cons (i := 0) rfl (.cons (i := 3) rfl (.nil))) ?_
  obtain ⟨o3, hF3, hF⟩ := bnd hF
  refine W.join4 (Em := fun (out9 : (List ZonesCluster)) (A7 : Option Addr) (c8 : Nat) (hd10 : List Hd) => [(3, .slice A7 (out9).length c8)]) (M := fun out9 A7 c8 hd10 => [cN encNZonesCluster innNZonesCluster 9 A7 c8 148 hd10 out9]) (I := fun out9 A7 c8 hd10 => out9 = o3) (.cons (i := 0) rfl (.nil)) (fun K4 hK4 => ?_) ?_
  · -- up to
    -- region 2: zones.go:43
    refine W.seqR fun Q5 hQ5 => ?_
    refine WL.q (Y.move (.pl rfl)) rfl ?_
    refine WL.q (Y.len Try.underlying42 (.pl rfl)) rfl ?_
    refine WL.q (Y.move (.pl rfl)) rfl ?_
    refine WL.next hQ5 (.cons (i := 0) rfl (.cons (i := 3) rfl (.cons (i := 14) rfl (.cons (i := 15) rfl (.cons (i := 16) rfl (.nil)))))) ?_
    refine W.block ?_
    refine W.loop5 (Em := fun (out13 : (List ZonesCluster)) (v15 : Int) (A11 : Option Addr) (c12 : Nat) (hd14 : List Hd) => [(3, .slice A11 (out13).length c12), (16, .int .i64 v15)]) (M := fun out13 v15 A11 c12 hd14 => [cN encNZonesCluster innNZonesCluster 9 A11 c12 148 hd14 out13]) (I := fun out13 v15 A11 c12 hd14 k6 => iter (zones_clusters_L29 N c1) k6 (out13, v15) = some o3) ([(ZonesCluster.mk 0 (-1) (-1) [] (Zone.mk 0 (-1) (-1) false) false)] : List ZonesCluster) 0 (some ⟨b6, 0, none⟩) ((([(ZonesCluster.mk 0 (-1) (-1) [] (Zone.mk 0 (-1) (-1) false) false)] : List ZonesCluster)).length) ([((none, 0) : Hd)] : List Hd) N (hF3) (.cons rfl (.cons rfl (.nil))) (.cons (i := 0) rfl (.cons (i := 14) rfl (.cons (i := 15) rfl (.nil)))) (fun wz hw => hw.pick [0] rfl) (fun out13 v15 A11 c12 hd14 k6 hI K7 hK7 => ?_)
    obtain ⟨k6, t6, rfl, hF6, hN6⟩ := iter_step hI
    -- region 3: zones.go:43
    refine W.seqR fun Q8 hQ8 => ?_
    refine WL.q (Y.lss (.pl rfl) (.pl rfl)) rfl ?_
    refine WL.next hQ8 (.cons (i := 0) rfl (.cons (i := 3) rfl (.cons (i := 14) rfl (.cons (i := 15) rfl (.cons (i := 16) rfl (.cons (i := 17) rfl (.nil))))))) ?_
    refine W.seq fun K9 hK9 => ?_
    refine W.cond (.pl rfl) (fun hC10 => ?_) (fun hC10 => ?_)
    · replace hF6 := cpos hC10 hF6
      refine W.skip ?_
      refine W.go hK9 (.cons (i := 0) rfl (.cons (i := 3) rfl (.cons (i := 14) rfl (.cons (i := 15) rfl (.cons (i := 16) rfl (.nil)))))) ?_
      refine W.seq fun K11 hK11 => ?_
      refine W.block ?_
      -- region 4: zones.go:43
      refine W.seqR fun Q12 hQ12 => ?_
      refine WL.q (Y.move (.pl rfl)) rfl ?_
      obtain ⟨x16, hx16, hF6⟩ := bnd hF6
      refine WL.q (Y.slEl Try.underlying42 cells48 hs4 (.pl rfl) (.pl rfl) (ix_lt (hx16))) rfl ?_
      refine WL.q (Y.loadSA (enc := encCall) (ds := (encCall x16)) (j := 0) Try.underlying48 rfl cells48 hs4 (.pl rfl) (hx16) rfl rfl subW) rfl ?_
      refine WL.step (WO.alloc (cs := (encCall (Call.mk 0 0 0 0 0 0 0)).toArray) zero48 rfl rfl fun b17 => ?_)
      refine WL.q (Y.assign (.pl rfl)) rfl ?_
      refine WL.step (WO.storeBA (ds := (encCall x16)) (cs' := (encCall x16)) cells48 (.pl rfl) (.pl rfl) rfl (oneCall _) (i := 0) rfl (lel (o := 0) (l := 7) (m := 7) (by decide) rfl rfl) (putW rfl) ?_)
      refine WL.next hQ12 (.cons (i := 0) rfl (.cons (i := 3) rfl (.cons (i := 4) rfl (.cons (i := 5) rfl (.cons (i := 14) rfl (.cons (i := 15) rfl (.cons (i := 16) rfl (.nil)))))))) ?_
      refine W.seq fun K13 hK13 => ?_
      -- region 5: zones.go:44
      refine W.seqR fun Q14 hQ14 => ?_
      refine WL.q (Y.fieldAddr0 (off := 2) (ft := 3) Try.underlying48 rfl cells3 (.pl rfl)) rfl ?_
      refine WL.q (Y.loadB (v := .int .i64 x16.kind) Try.underlying3 rfl (.pl rfl) (i := 0) rfl (rfl)) rfl ?_
      refine WL.q (Y.neq (.pl rfl) (.pl rfl)) rfl ?_
      refine WL.next hQ14 (.cons (i := 0) rfl (.cons (i := 3) rfl (.cons (i := 4) rfl (.cons (i := 5) rfl (.cons (i := 14) rfl (.cons (i := 15) rfl (.cons (i := 16) rfl (.cons (i := 23) rfl (.nil))))))))) ?_
      refine W.cond (.pl rfl) (fun hC15 => ?_) (fun hC15 => ?_)
      · replace hF6 := cpos hC15 hF6
        refine W.exit ?_
        refine W.go hK11 (.cons (i := 0) rfl (.cons (i := 3) rfl (.cons (i := 14) rfl (.cons (i := 15) rfl (.cons (i := 16) rfl (.nil)))))) ?_
        -- region 11: zones.go:43
        refine W.reg ?_
        obtain ⟨hk18, hF6⟩ := ckh hF6
        refine WL.q (Y.add (.pl rfl) (.pl rfl) (ok64_lt (hk18))) rfl ?_
        refine WL.q (Y.move (.pl rfl)) rfl ?_
        refine WL.nil ?_
        obtain rfl := Option.some.inj hF6
        exact W.again5 hK7 out13 (v15 + 1) A11 c12 hd14 k6 hN6 (Nat.lt_succ_self _) (.cons rfl (.cons rfl (.nil))) (.cons (i := 0) rfl (.cons (i := 14) rfl (.cons (i := 15) rfl (.nil)))) (fun wz hw => hw.pick [1] rfl)
      · replace hF6 := cneg hC15 hF6
        refine W.skip ?_
        refine W.go hK13 (.cons (i := 0) rfl (.cons (i := 3) rfl (.cons (i := 4) rfl (.cons (i := 5) rfl (.cons (i := 14) rfl (.cons (i := 15) rfl (.cons (i := 16) rfl (.nil)))))))) ?_
        -- region 6: zones.go:47
        refine W.seqR fun Q17 hQ17 => ?_
        refine WL.q (Y.fieldAddr0 (off := 3) (ft := 3) Try.underlying48 rfl cells3 (.pl rfl)) rfl ?_
        refine WL.q (Y.loadB (v := .int .i64 x16.arg) Try.underlying3 rfl (.pl rfl) (i := 0) rfl (rfl)) rfl ?_
        refine WL.q (Y.move (.pl rfl)) rfl ?_
        refine WL.q (Y.fieldAddr0 (off := 5) (ft := 3) Try.underlying48 rfl cells3 (.pl rfl)) rfl ?_
        refine WL.q (Y.loadB (v := .int .i64 x16.from_) Try.underlying3 rfl (.pl rfl) (i := 0) rfl (rfl)) rfl ?_
        refine WL.q (Y.fieldAddr0 (off := 6) (ft := 3) Try.underlying48 rfl cells3 (.pl rfl)) rfl ?_
        refine WL.q (Y.loadB (v := .int .i64 x16.to_) Try.underlying3 rfl (.pl rfl) (i := 0) rfl (rfl)) rfl ?_
        refine WL.q (Y.neq (.pl rfl) (.pl rfl)) rfl ?_
        refine WL.q (Y.build (cs := (Value.int .i64 x16.arg :: (Value.int .i64 v15 :: (Value.int .i64 x16.from_ :: (Value.slice none 0 0 :: ((encZone (Zone.mk 0 0 0 false)) ++ (Value.bool (!(decide (x16.to_ = (-1)))) :: [])))))).toArray) shape148 (.cons (.pl rfl) (.cons (.pl rfl) (.cons (.pl rfl) (.cons (.pl rfl) (.nil))))) (one_parts ⟨rfl, ⟨rfl, ⟨rfl, ⟨rfl, trivial⟩⟩⟩⟩) rfl) rfl ?_
        refine WL.step (WO.alloc (cs := (Value.int .i64 0 :: (Value.int .i64 0 :: (Value.int .i64 0 :: (Value.slice none 0 0 :: ((encZone (Zone.mk 0 0 0 false)) ++ (Value.bool false :: [])))))).toArray) zero148 rfl rfl fun b19 => ?_)
        refine WL.step (WO.storeBA (ds := (Value.int .i64 x16.arg :: (Value.int .i64 v15 :: (Value.int .i64 x16.from_ :: (Value.slice none 0 0 :: ((encZone (Zone.mk 0 0 0 false)) ++ (Value.bool (!(decide (x16.to_ = (-1)))) :: []))))))) (cs' := (Value.int .i64 x16.arg :: (Value.int .i64 v15 :: (Value.int .i64 x16.from_ :: (Value.slice none 0 0 :: ((encZone (Zone.mk 0 0 0 false)) ++ (Value.bool (!(decide (x16.to_ = (-1)))) :: []))))))) cells148 (.pl rfl) (.pl rfl) rfl (one_cons rfl (one_cons rfl (one_cons rfl (one_cons rfl (one_app (oneZone _) (one_cons rfl one_nil)))))) (i := 0) rfl (lel (o := 0) (l := 9) (m := 9) (by decide) rfl rfl) (putW rfl) ?_)
        refine WL.next hQ17 (.cons (i := 0) rfl (.cons (i := 3) rfl (.cons (i := 5) rfl (.cons (i := 6) rfl (.cons (i := 14) rfl (.cons (i := 15) rfl (.cons (i := 16) rfl (.nil)))))))) ?_
        -- region 7: zones.go:48
        refine W.seqR fun Q18 hQ18 => ?_
        refine WL.q (Y.fieldAddr0 (off := 3) (ft := 3) Try.underlying48 rfl cells3 (.pl rfl)) rfl ?_
        refine WL.q (Y.loadB (v := .int .i64 x16.arg) Try.underlying3 rfl (.pl rfl) (i := 1) rfl (rfl)) rfl ?_
        refine WL.q (Y.fieldAddr0 (off := 6) (ft := 3) Try.underlying48 rfl cells3 (.pl rfl)) rfl ?_
        refine WL.q (Y.loadB (v := .int .i64 x16.to_) Try.underlying3 rfl (.pl rfl) (i := 1) rfl (rfl)) rfl ?_
        refine WL.q (Y.fieldAddr0 (off := 5) (ft := 3) Try.underlying48 rfl cells3 (.pl rfl)) rfl ?_
        refine WL.q (Y.loadB (v := .int .i64 x16.from_) Try.underlying3 rfl (.pl rfl) (i := 1) rfl (rfl)) rfl ?_
        refine WL.q (Y.build (cs := (encZone (Zone.mk x16.arg x16.to_ x16.from_ false)).toArray) shape105 (.cons (.pl rfl) (.cons (.pl rfl) (.cons (.pl rfl) (.nil)))) (one_parts ⟨rfl, ⟨rfl, ⟨rfl, trivial⟩⟩⟩) rfl) rfl ?_
        refine WL.q (Y.fieldAddr0 (off := 4) (ft := 105) Try.underlying148 rfl cells105 (.pl rfl)) rfl ?_
        refine WL.step (WO.storeBA (ds := (encZone (Zone.mk x16.arg x16.to_ x16.from_ false))) (cs' := (Value.int .i64 x16.arg :: (Value.int .i64 v15 :: (Value.int .i64 x16.from_ :: (Value.slice none 0 0 :: ((encZone (Zone.mk x16.arg x16.to_ x16.from_ false)) ++ (Value.bool (!(decide (x16.to_ = (-1)))) :: []))))))) cells105 (.pl rfl) (.pl rfl) rfl (oneZone _) (i := 0) rfl (lel (l := 4) (m := 9) (by decide) rfl rfl) (putAt_app (a := (Value.int .i64 x16.arg :: (Value.int .i64 v15 :: (Value.int .i64 x16.from_ :: (Value.slice none 0 0 :: []))))) (b := (encZone (Zone.mk 0 0 0 false))) (c := (Value.bool (!(decide (x16.to_ = (-1)))) :: [])) (ds := (encZone (Zone.mk x16.arg x16.to_ x16.from_ false))) rfl rfl) ?_)
        refine WL.next hQ18 (.cons (i := 0) rfl (.cons (i := 3) rfl (.cons (i := 5) rfl (.cons (i := 6) rfl (.cons (i := 14) rfl (.cons (i := 15) rfl (.cons (i := 16) rfl (.nil)))))))) ?_
        refine W.seq fun K19 hK19 => ?_
        -- region 8: zones.go:49
        refine W.seqR fun Q20 hQ20 => ?_
        refine WL.q (Y.fieldAddr0 (off := 6) (ft := 3) Try.underlying48 rfl cells3 (.pl rfl)) rfl ?_
        refine WL.q (Y.loadB (v := .int .i64 x16.to_) Try.underlying3 rfl (.pl rfl) (i := 1) rfl (rfl)) rfl ?_
        refine WL.q (Y.eql (.pl rfl) (.pl rfl)) rfl ?_
        refine WL.next hQ20 (.cons (i := 0) rfl (.cons (i := 3) rfl (.cons (i := 6) rfl (.cons (i := 14) rfl (.cons (i := 15) rfl (.cons (i := 16) rfl (.cons (i := 43) rfl (.nil)))))))) ?_
        refine W.cond (.pl rfl) (fun hC21 => ?_) (fun hC21 => ?_)
        · replace hF6 := cpos hC21 hF6
          -- region 9: zones.go:50
          refine W.reg ?_
          refine WL.q (Y.fieldAddr0 (off := 4) (ft := 105) Try.underlying148 rfl cells105 (.pl rfl)) rfl ?_
          refine WL.q (Y.fieldAddr (off := 1) (ft := 3) Try.underlying105 rfl cells3 (.pl rfl)) rfl ?_
          refine WL.step (WO.storeB (cs' := (Value.int .i64 x16.arg :: (Value.int .i64 v15 :: (Value.int .i64 x16.from_ :: (Value.slice none 0 0 :: ((encZone (Zone.mk x16.arg 200 x16.from_ false)) ++ (Value.bool (!(decide (x16.to_ = (-1)))) :: []))))))) cells3 (.pl rfl) (.pl rfl) rfl (i := 0) rfl (ltl (m := 9) (by decide) rfl) (rfl) ?_)
          refine WL.nil ?_
          refine W.go hK19 (.cons (i := 0) rfl (.cons (i := 3) rfl (.cons (i := 6) rfl (.cons (i := 14) rfl (.cons (i := 15) rfl (.cons (i := 16) rfl (.nil))))))) ?_
          -- region 10: zones.go:52
          refine W.reg ?_
          refine WL.q (Y.move (.pl rfl)) rfl ?_
          refine WL.q (Y.loadBA (ds := (Value.int .i64 x16.arg :: (Value.int .i64 v15 :: (Value.int .i64 x16.from_ :: (Value.slice none 0 0 :: ((encZone (Zone.mk x16.arg 200 x16.from_ false)) ++ (Value.bool (!(decide (x16.to_ = (-1)))) :: []))))))) Try.underlying148 rfl cells148 (.pl rfl) (i := 0) rfl rfl subW) rfl ?_
          refine WL.step (WO.bsliceN (enc := encNZonesCluster) (inn := innNZonesCluster) (hs := ([((none, 0) : Hd)] : List Hd)) (xs := ([(ZonesCluster.mk x16.arg v15 x16.from_ [] (Zone.mk x16.arg 200 x16.from_ false) (!(decide (x16.to_ = (-1)))))] : List ZonesCluster)) Try.underlying89 bz148 (.cons (.pl rfl) (.nil)) rfl rfl rfl rfl rfl lenNZonesCluster (by decide) (by decide) (.trans (.nilR (eI .i64) 1 3) (.pick [0, 1, 2, 3] rfl)) rfl fun b20 => ?_)
          obtain ⟨hk23, hF6⟩ := ckh hF6
          refine WL.step (WO.appendN (enc := encNZonesCluster) (inn := innNZonesCluster) (hs := hd14) Try.underlying89 ap148 lenNZonesCluster oneNZonesCluster (.pl rfl) rfl (.pl rfl) (i := 2) rfl (hk23) rfl fun A21 c22 => ?_)
          refine WL.q (Y.assign (.pl rfl)) rfl ?_
          refine WL.nil ?_
          refine W.go hK11 (.cons (i := 0) rfl (.cons (i := 3) rfl (.cons (i := 14) rfl (.cons (i := 15) rfl (.cons (i := 16) rfl (.nil)))))) ?_
          -- region 11: zones.go:43
          refine W.reg ?_
          obtain ⟨hk24, hF6⟩ := ckh hF6
          refine WL.q (Y.add (.pl rfl) (.pl rfl) (ok64_lt (hk24))) rfl ?_
          refine WL.q (Y.move (.pl rfl)) rfl ?_
          refine WL.nil ?_
          obtain rfl := Option.some.inj hF6
          exact W.again5 hK7 (out13 ++ ([(ZonesCluster.mk x16.arg v15 x16.from_ [] (Zone.mk x16.arg 200 x16.from_ false) (!(decide (x16.to_ = (-1)))))] : List ZonesCluster)) (v15 + 1) A21 c22 (hd14 ++ ([((none, 0) : Hd)] : List Hd)) k6 hN6 (Nat.lt_succ_self _) (.cons rfl (.cons rfl (.nil))) (.cons (i := 0) rfl (.cons (i := 14) rfl (.cons (i := 15) rfl (.nil)))) (fun wz hw => hw.pick [0] rfl)
        · replace hF6 := cneg hC21 hF6
          refine W.skip ?_
          refine W.go hK19 (.cons (i := 0) rfl (.cons (i := 3) rfl (.cons (i := 6) rfl (.cons (i := 14) rfl (.cons (i := 15) rfl (.cons (i := 16) rfl (.nil))))))) ?_
          -- region 10: zones.go:52
          refine W.reg ?_
          refine WL.q (Y.move (.pl rfl)) rfl ?_
          refine WL.q (Y.loadBA (ds := (Value.int .i64 x16.arg :: (Value.int .i64 v15 :: (Value.int .i64 x16.from_ :: (Value.slice none 0 0 :: ((encZone (Zone.mk x16.arg x16.to_ x16.from_ false)) ++ (Value.bool (!(decide (x16.to_ = (-1)))) :: []))))))) Try.underlying148 rfl cells148 (.pl rfl) (i := 0) rfl rfl subW) rfl ?_
          refine WL.step (WO.bsliceN (enc := encNZonesCluster) (inn := innNZonesCluster) (hs := ([((none, 0) : Hd)] : List Hd)) (xs := ([(ZonesCluster.mk x16.arg v15 x16.from_ [] (Zone.mk x16.arg x16.to_ x16.from_ false) (!(decide (x16.to_ = (-1)))))] : List ZonesCluster)) Try.underlying89 bz148 (.cons (.pl rfl) (.nil)) rfl rfl rfl rfl rfl lenNZonesCluster (by decide) (by decide) (.trans (.nilR (eI .i64) 1 3) (.pick [0, 1, 2, 3] rfl)) rfl fun b25 => ?_)
          obtain ⟨hk28, hF6⟩ := ckh hF6
          refine WL.step (WO.appendN (enc := encNZonesCluster) (inn := innNZonesCluster) (hs := hd14) Try.underlying89 ap148 lenNZonesCluster oneNZonesCluster (.pl rfl) rfl (.pl rfl) (i := 2) rfl (hk28) rfl fun A26 c27 => ?_)
          refine WL.q (Y.assign (.pl rfl)) rfl ?_
          refine WL.nil ?_
          refine W.go hK11 (.cons (i := 0) rfl (.cons (i := 3) rfl (.cons (i := 14) rfl (.cons (i := 15) rfl (.cons (i := 16) rfl (.nil)))))) ?_
          -- region 11: zones.go:43
          refine W.reg ?_
          obtain ⟨hk29, hF6⟩ := ckh hF6
          refine WL.q (Y.add (.pl rfl) (.pl rfl) (ok64_lt (hk29))) rfl ?_
          refine WL.q (Y.move (.pl rfl)) rfl ?_
          refine WL.nil ?_
          obtain rfl := Option.some.inj hF6
          exact W.again5 hK7 (out13 ++ ([(ZonesCluster.mk x16.arg v15 x16.from_ [] (Zone.mk x16.arg x16.to_ x16.from_ false) (!(decide (x16.to_ = (-1)))))] : List ZonesCluster)) (v15 + 1) A26 c27 (hd14 ++ ([((none, 0) : Hd)] : List Hd)) k6 hN6 (Nat.lt_succ_self _) (.cons rfl (.cons rfl (.nil))) (.cons (i := 0) rfl (.cons (i := 14) rfl (.cons (i := 15) rfl (.nil)))) (fun wz hw => hw.pick [0] rfl)
    · replace hF6 := cneg hC10 hF6
      refine W.exit ?_
      obtain rfl := Option.some.inj hF6
      exact W.joinAt4 hK4 out13 A11 c12 hd14 (einr hN6) (.cons rfl (.nil)) (.cons (i := 0) rfl (.nil)) (fun wz hw => hw.pick [0] rfl)
  · -- behind
    rintro out9 A7 c8 hd10 rfl
    obtain ⟨o27, hF27, hF⟩ := bnd hF
    refine W.join2 (Em := fun (out30 : (List ZonesCluster)) (hd31 : List Hd) => [(3, .slice A7 (out30).length c8)]) (M := fun out30 hd31 => [cN encNZonesCluster innNZonesCluster 9 A7 c8 148 hd31 out30]) (I := fun out30 hd31 => out30 = o27) (.nil) (fun K28 hK28 => ?_) ?_
    · -- up to
      -- region 12: zones.go:54
      refine W.seqR fun Q29 hQ29 => ?_
      refine WL.q (Y.move (.pl rfl)) rfl ?_
      refine WL.q (Y.len Try.underlying89 (.pl rfl)) rfl ?_
      refine WL.q (Y.move (.pl rfl)) rfl ?_
      refine WL.next hQ29 (.cons (i := 0) rfl (.cons (i := 3) rfl (.cons (i := 52) rfl (.cons (i := 53) rfl (.nil))))) ?_
      refine W.block ?_
      refine W.loop3 (Em := fun (out32 : (List ZonesCluster)) (v34 : Int) (hd33 : List Hd) => [(3, .slice A7 (out32).length c8), (53, .int .i64 v34)]) (M := fun out32 v34 hd33 => [cN encNZonesCluster innNZonesCluster 9 A7 c8 148 hd33 out32]) (I := fun out32 v34 hd33 k30 => iter (zones_clusters_L51 N out9 c1) k30 (out32, v34) = some o27) out9 0 hd10 N (hF27) (.cons rfl (.cons rfl (.nil))) (.cons (i := 0) rfl (.cons (i := 52) rfl (.nil))) (fun wz hw => hw.pick [0] rfl) (fun out32 v34 hd33 k30 hI K31 hK31 => ?_)
      obtain ⟨k30, t30, rfl, hF30, hN30⟩ := iter_step hI
      -- region 13: zones.go:54
      refine W.seqR fun Q32 hQ32 => ?_
      refine WL.q (Y.lss (.pl rfl) (.pl rfl)) rfl ?_
      refine WL.next hQ32 (.cons (i := 0) rfl (.cons (i := 3) rfl (.cons (i := 52) rfl (.cons (i := 53) rfl (.cons (i := 54) rfl (.nil)))))) ?_
      refine W.seq fun K33 hK33 => ?_
      refine W.cond (.pl rfl) (fun hC34 => ?_) (fun hC34 => ?_)
      · replace hF30 := cpos hC34 hF30
        refine W.skip ?_
        refine W.go hK33 (.cons (i := 0) rfl (.cons (i := 3) rfl (.cons (i := 52) rfl (.cons (i := 53) rfl (.nil))))) ?_
        obtain ⟨o35, hF35, hF30⟩ := bnd hF30
        refine W.join2 (Em := fun (out35 : (List ZonesCluster)) (hd36 : List Hd) => [(3, .slice A7 (out35).length c8)]) (M := fun out35 hd36 => [cN encNZonesCluster innNZonesCluster 9 A7 c8 148 hd36 out35]) (I := fun out35 hd36 => out35 = o35) (.cons (i := 0) rfl (.cons (i := 52) rfl (.cons (i := 53) rfl (.nil)))) (fun K36 hK36 => ?_) ?_
        · -- up to
          refine W.block ?_
          -- region 14: zones.go:54
          refine W.seqR fun Q37 hQ37 => ?_
          refine WL.q (Y.move (.pl rfl)) rfl ?_
          refine WL.q (Y.assign (.pl rfl)) rfl ?_
          refine WL.next hQ37 (.cons (i := 0) rfl (.cons (i := 3) rfl (.cons (i := 7) rfl (.cons (i := 52) rfl (.cons (i := 53) rfl (.nil)))))) ?_
          -- region 15: zones.go:55
          refine W.seqR fun Q38 hQ38 => ?_
          refine WL.q (Y.move (.pl rfl)) rfl ?_
          refine WL.q (Y.move (.pl rfl)) rfl ?_
          obtain ⟨x37, hx37, hF35⟩ := bnd hF35
          refine WL.q (Y.nEl Try.underlying89 cells148 (i := 0) rfl (.pl rfl) rfl (.pl rfl) (ix_lt (hx37))) rfl ?_
          refine WL.q (Y.assign (.pl rfl)) rfl ?_
          refine WL.next hQ38 (.cons (i := 0) rfl (.cons (i := 3) rfl (.cons (i := 8) rfl (.cons (i := 52) rfl (.cons (i := 53) rfl (.nil)))))) ?_
          obtain ⟨o39, hF39, hF35⟩ := bnd hF35
          refine W.join2 (Em := fun (out38 : (List ZonesCluster)) (hd39 : List Hd) => [(3, .slice A7 (out38).length c8)]) (M := fun out38 hd39 => [cN encNZonesCluster innNZonesCluster 9 A7 c8 148 hd39 out38]) (I := fun out38 hd39 => out38 = o39) (.cons (i := 0) rfl (.cons (i := 8) rfl (.cons (i := 52) rfl (.cons (i := 53) rfl (.nil))))) (fun K40 hK40 => ?_) ?_
          · -- up to
            -- region 16: zones.go:56
            refine W.seqR fun Q41 hQ41 => ?_
            refine WL.q (Y.move (.pl rfl)) rfl ?_
            refine WL.q (Y.len Try.underlying42 (.pl rfl)) rfl ?_
            refine WL.q (Y.move (.pl rfl)) rfl ?_
            refine WL.next hQ41 (.cons (i := 0) rfl (.cons (i := 3) rfl (.cons (i := 8) rfl (.cons (i := 52) rfl (.cons (i := 53) rfl (.cons (i := 59) rfl (.cons (i := 60) rfl (.cons (i := 61) rfl (.nil))))))))) ?_
            refine W.block ?_
            refine W.loop3 (Em := fun (out40 : (List ZonesCluster)) (v42 : Int) (hd41 : List Hd) => [(3, .slice A7 (out40).length c8), (61, .int .i64 v42)]) (M := fun out40 v42 hd41 => [cN encNZonesCluster innNZonesCluster 9 A7 c8 148 hd41 out40]) (I := fun out40 v42 hd41 k42 => iter (zones_clusters_L55 N c1 v34) k42 (out40, v42) = some o39) out32 0 hd33 N (hF39) (.cons rfl (.cons rfl (.nil))) (.cons (i := 0) rfl (.cons (i := 8) rfl (.cons (i := 52) rfl (.cons (i := 53) rfl (.cons (i := 59) rfl (.cons (i := 60) rfl (.nil))))))) (fun wz hw => hw.pick [0] rfl) (fun out40 v42 hd41 k42 hI K43 hK43 => ?_)
            obtain ⟨k42, t42, rfl, hF42, hN42⟩ := iter_step hI
            -- region 17: zones.go:56
            refine W.seqR fun Q44 hQ44 => ?_
            refine WL.q (Y.lss (.pl rfl) (.pl rfl)) rfl ?_
            refine WL.next hQ44 (.cons (i := 0) rfl (.cons (i := 3) rfl (.cons (i := 8) rfl (.cons (i := 52) rfl (.cons (i := 53) rfl (.cons (i := 59) rfl (.cons (i := 60) rfl (.cons (i := 61) rfl (.cons (i := 62) rfl (.nil)))))))))) ?_
            refine W.seq fun K45 hK45 => ?_
            refine W.cond (.pl rfl) (fun hC46 => ?_) (fun hC46 => ?_)
            · replace hF42 := cpos hC46 hF42
              refine W.skip ?_
              refine W.go hK45 (.cons (i := 0) rfl (.cons (i := 3) rfl (.cons (i := 8) rfl (.cons (i := 52) rfl (.cons (i := 53) rfl (.cons (i := 59) rfl (.cons (i := 60) rfl (.cons (i := 61) rfl (.nil))))))))) ?_
              refine W.seq fun K47 hK47 => ?_
              refine W.block ?_
              -- region 18: zones.go:56
              refine W.seqR fun Q48 hQ48 => ?_
              refine WL.q (Y.move (.pl rfl)) rfl ?_
              obtain ⟨x43, hx43, hF42⟩ := bnd hF42
              refine WL.q (Y.slEl Try.underlying42 cells48 hs4 (.pl rfl) (.pl rfl) (ix_lt (hx43))) rfl ?_
              refine WL.q (Y.loadSA (enc := encCall) (ds := (encCall x43)) (j := 0) Try.underlying48 rfl cells48 hs4 (.pl rfl) (hx43) rfl rfl subW) rfl ?_
              refine WL.step (WO.alloc (cs := (encCall (Call.mk 0 0 0 0 0 0 0)).toArray) zero48 rfl rfl fun b44 => ?_)
              refine WL.q (Y.assign (.pl rfl)) rfl ?_
              refine WL.step (WO.storeBA (ds := (encCall x43)) (cs' := (encCall x43)) cells48 (.pl rfl) (.pl rfl) rfl (oneCall _) (i := 0) rfl (lel (o := 0) (l := 7) (m := 7) (by decide) rfl rfl) (putW rfl) ?_)
              refine WL.next hQ48 (.cons (i := 0) rfl (.cons (i := 3) rfl (.cons (i := 8) rfl (.cons (i := 9) rfl (.cons (i := 10) rfl (.cons (i := 52) rfl (.cons (i := 53) rfl (.cons (i := 59) rfl (.cons (i := 60) rfl (.cons (i := 61) rfl (.nil))))))))))) ?_
              -- region 19: zones.go:57
              refine W.seqD (by kernel_rfl) (by kernel_rfl) fun R49 hR49 => ?_
              refine WD.q (Y.fieldAddr0 (off := 2) (ft := 3) Try.underlying48 rfl cells3 (.pl rfl)) rfl ?_
              refine WD.q (Y.loadB (v := .int .i64 x43.kind) Try.underlying3 rfl (.pl rfl) (i := 0) rfl (rfl)) rfl ?_
              refine WD.q (Y.eql (.pl rfl) (.pl rfl)) rfl ?_
              refine WD.q (Y.move (.pl rfl)) rfl ?_
              refine WD.g (.pl rfl rfl rfl) (fun hg => Y.fieldAddr0 (off := 6) (ft := 3) Try.underlying48 rfl cells3 (.pl rfl)) rfl ?_
              refine WD.g (.pl rfl rfl rfl) (fun hg => Y.loadB (v := .int .i64 x43.to_) Try.underlying3 rfl (.gd (hg) rfl) (i := 0) rfl (rfl)) rfl ?_
              refine WD.g (.pl rfl rfl rfl) (fun hg => Y.neq (.gd (hg) rfl) (.pl rfl)) rfl ?_
              refine WD.q (Y.and (.pl rfl) (fun h2 => .gd (eqt h2) rfl)) rfl ?_
              refine WD.q (Y.move (.pl rfl)) rfl ?_
              refine WD.g (.pl rfl rfl rfl) (fun hg => Y.fieldAddr0 (off := 4) (ft := 3) Try.underlying48 rfl cells3 (.pl rfl)) rfl ?_
              refine WD.g (.pl rfl rfl rfl) (fun hg => Y.loadB (v := .int .i64 x43.res) Try.underlying3 rfl (.gd (hg) rfl) (i := 0) rfl (rfl)) rfl ?_
              refine WD.g (.pl rfl rfl rfl) (fun hg => Y.move (.pl rfl)) rfl ?_
              refine WD.g (.pl rfl rfl rfl) (fun hg => Y.nilCheck (.gd (hg) rfl)) rfl ?_
              obtain ⟨x45, hx45, hF42⟩ := bnd hF42
              refine WD.g (.pl rfl rfl rfl) (fun hg => Y.nField (off := 0) (ft := 3) Try.underlying148 rfl cells3 (i' := 1) rfl (ix_lt (gpos hg hx45)) (.gd (hg) rfl)) rfl ?_
              refine WD.g (.pl rfl rfl rfl) (fun hg => Y.loadN (enc := encNZonesCluster) (h0 := ((none, 0) : Hd)) (v := .int .i64 x45.value) (a := (ZonesCluster.mk x45.value x45.write x45.from_ x45.reads x45.zone x45.counts)) (idx := v34) (j := 0) Try.underlying3 rfl lenNZonesCluster (i := 1) rfl (.gd (hg) rfl) (ix_get (gpos hg hx45)) rfl rfl) rfl ?_
              refine WD.g (.pl rfl rfl rfl) (fun hg => Y.eql (.gd (hg) rfl) (.gd (hg) rfl)) rfl ?_
              refine WD.q (Y.and (.pl rfl) (fun h2 => .gd (eqt h2) rfl)) rfl ?_
              refine WD.next hR49 (.cons (i := 0) rfl (.cons (i := 3) rfl (.cons (i := 8) rfl (.cons (i := 9) rfl (.cons (i := 10) rfl (.cons (i := 52) rfl (.cons (i := 53) rfl (.cons (i := 59) rfl (.cons (i := 60) rfl (.cons (i := 61) rfl (.cons (i := 82) rfl (.nil)))))))))))) ?_
              refine W.cond (.pl rfl) (fun hC50 => ?_) (fun hC50 => ?_)
              · replace hF42 := cpos hC50 hF42
                -- region 20: zones.go:58
                refine W.seqR fun Q51 hQ51 => ?_
                refine WL.q (Y.move (.pl rfl)) rfl ?_
                refine WL.q (Y.move (.pl rfl)) rfl ?_
                refine WL.q (Y.nilCheck (.pl rfl)) rfl ?_
                obtain ⟨x46, hx46, hF42⟩ := bnd hF42
                refine WL.q (Y.nField (off := 3) (ft := 45) Try.underlying148 rfl cells45 (i' := 1) rfl (ix_lt (hx46)) (.pl rfl)) rfl ?_
                refine WL.q (Y.loadN (enc := encNZonesCluster) (h0 := ((none, 0) : Hd)) (v := .slice (hd41.getD v34.toNat ((none, 0) : Hd)).1 (x46.reads).length (hd41.getD v34.toNat ((none, 0) : Hd)).2) (a := (ZonesCluster.mk x46.value x46.write x46.from_ x46.reads x46.zone x46.counts)) (idx := v34) (j := 3) Try.underlying45 rfl lenNZonesCluster (i := 1) rfl (.pl rfl) (ix_get (hx46)) rfl rfl) rfl ?_
                refine WL.q (Y.move (.pl rfl)) rfl ?_
                refine WL.step (WO.bsliceC (enc := (eI .i64)) (ys := ([v42] : List Int)) Try.underlying45 bz3 (.cons (.pl rfl) (.nil)) rfl (fun _ => rfl) rfl rfl (by decide) (by decide) rfl fun b47 => ?_)
                refine WL.ent (Ent.hole (h0 := ((none, 0) : Hd)) (i := 2) rfl (ix_get (hx46))) ?_
                obtain ⟨hk50, hF42⟩ := ckh hF42
                refine WL.step (WO.appendC (enc := (eI .i64)) Try.underlying45 ap3 (fun _ => rfl) oneI (.pl rfl) rfl (.pl rfl) (i := 0) rfl (m2 := 2) rfl (hk50) rfl fun A48 c49 => ?_)
                refine WL.q (Y.nilCheck (.pl rfl)) rfl ?_
                obtain ⟨x51, hx51, hF42⟩ := bnd hF42
                refine WL.q (Y.hField (off := 3) (ft := 45) Try.underlying148 rfl cells45 (i' := 1) rfl (ix_lt (hx51)) (.pl rfl)) rfl ?_
                refine WL.step (WO.storeH (enc := encNZonesCluster) (inn := innNZonesCluster) (h0 := ((none, 0) : Hd)) (h' := ((A48, c49) : Hd)) (a := x51) (a' := (ZonesCluster.mk x51.value x51.write x51.from_ (x46.reads ++ ([v42] : List Int)) x51.zone x51.counts)) (idx := v34) (j := 3) cells45 (.pl rfl) (.pl rfl) rfl lenNZonesCluster (i := 1) rfl (ix_get (hx51)) rfl (by decide) rfl (.pick [0, 1, 2] rfl) ?_)
                refine WL.next hQ51 (.cons (i := 0) rfl (.cons (i := 3) rfl (.cons (i := 8) rfl (.cons (i := 10) rfl (.cons (i := 52) rfl (.cons (i := 53) rfl (.cons (i := 59) rfl (.cons (i := 60) rfl (.cons (i := 61) rfl (.nil)))))))))) ?_
                -- region 21: zones.go:59
                refine W.seqR fun Q52 hQ52 => ?_
                refine WL.q (Y.move (.pl rfl)) rfl ?_
                refine WL.q (Y.nilCheck (.pl rfl)) rfl ?_
                obtain ⟨x52, hx52, hF42⟩ := bnd hF42
                refine WL.q (Y.nField (off := 8) (ft := 4) Try.underlying148 rfl cells4 (i' := 0) rfl (ix_lt (hx52)) (.pl rfl)) rfl ?_
                refine WL.step (WO.storeN0 (enc := encNZonesCluster) (inn := innNZonesCluster) (h0 := ((none, 0) : Hd)) (a := (ZonesCluster.mk x51.value x51.write x51.from_ (x46.reads ++ ([v42] : List Int)) x51.zone x51.counts)) (a' := (ZonesCluster.mk x51.value x51.write x51.from_ (x46.reads ++ ([v42] : List Int)) x51.zone true)) (idx := v34) (j := 8) cells4 (.pl rfl) (.pl rfl) rfl lenNZonesCluster (i := 0) rfl (setget (⟨(ix_lt (hx52)).1, by simpa only [List.length_set] using (ix_lt (hx52)).2⟩)) rfl (by decide) rfl rfl ?_)
                refine WL.next hQ52 (.cons (i := 0) rfl (.cons (i := 3) rfl (.cons (i := 8) rfl (.cons (i := 10) rfl (.cons (i := 52) rfl (.cons (i := 53) rfl (.cons (i := 59) rfl (.cons (i := 60) rfl (.cons (i := 61) rfl (.nil)))))))))) ?_
                -- region 22: zones.go:60
                refine W.know (fun wz hw => n_okA0 hw (i := 0) rfl) (fun hok54 => ?_)
                refine W.regXK 25 [1, 2] (by kernel_rfl) ?_
                refine WX.pure 0 #[true, false, false, false, false, false, false, false, false, false, false, false, false, false, false, false, false, false, false, false, false, false, false, false, false, false] rfl (by kernel_rfl) (fun _ _ => Y.move (.pl rfl)) rfl ?_
                refine WX.pure 1 #[true, true, false, false, false, false, false, false, false, false, false, false, false, false, false, false, false, false, false, false, false, false, false, false, false, false] rfl (by kernel_rfl) (fun _ _ => Y.move (.pl rfl)) rfl ?_
                refine WX.pure 2 #[true, true, true, false, false, false, false, false, false, false, false, false, false, false, false, false, false, false, false, false, false, false, false, false, false, false] rfl (by kernel_rfl) (fun _ _ => Y.move (.pl rfl)) rfl ?_
                refine WX.pure 3 #[true, true, true, true, false, false, false, false, false, false, false, false, false, false, false, false, false, false, false, false, false, false, false, false, false, false] rfl (by kernel_rfl) (fun _ _ => Y.nilCheck (.pl rfl)) rfl ?_
                obtain ⟨x53, hx53, hF42⟩ := bnd hF42
                refine WX.take 4 #[true, true, true, true, true, false, false, false, false, false, false, false, false, false, false, false, false, false, false, false, false, false, false, false, false, false] (fun wz hw => hw.pick [1, 2] rfl) rfl (by kernel_rfl) (Y.okField (off := 4) (ft := 105) Try.underlying148 rfl cells105 hok54 (by have := (ix_lt (hx53)); omega) (.pl rfl)) rfl ?_
                refine WX.take 5 #[true, true, true, true, true, true, false, false, false, false, false, false, false, false, false, false, false, false, false, false, false, false, false, false, false, false] (fun wz hw => hw.pick [1, 2] rfl) rfl (by kernel_rfl) (Y.okField (off := 1) (ft := 3) Try.underlying105 rfl cells3 hok54 (by have := (ix_lt (hx53)); omega) (.pl rfl)) rfl ?_
                refine WX.pure 7 #[true, true, true, true, true, true, false, true, false, false, false, false, false, false, false, false, false, false, false, false, false, false, false, false, false, false] rfl (by kernel_rfl) (fun _ _ => Y.fieldAddr0 (off := 6) (ft := 3) Try.underlying48 rfl cells3 (.pl rfl)) rfl ?_
                refine WX.take 8 #[true, true, true, true, true, true, false, true, true, false, false, false, false, false, false, false, false, false, false, false, false, false, false, false, false, false] (fun wz hw => hw.pick [1, 2] rfl) rfl (by kernel_rfl) (Y.loadB (v := .int .i64 x43.to_) Try.underlying3 rfl (.pl rfl) (i := 1) rfl (rfl)) rfl ?_
                refine WX.pure 10 #[true, true, true, true, true, true, false, true, true, false, true, false, false, false, false, false, false, false, false, false, false, false, false, false, false, false] rfl (by kernel_rfl) (fun _ _ => Y.move (.pl rfl)) rfl ?_
                refine WX.pure 11 #[true, true, true, true, true, true, false, true, true, false, true, true, false, false, false, false, false, false, false, false, false, false, false, false, false, false] rfl (by kernel_rfl) (fun _ _ => Y.nilCheck (.pl rfl)) rfl ?_
                obtain ⟨x54, hx54, hF42⟩ := bnd hF42
                refine WX.take 12 #[true, true, true, true, true, true, false, true, true, false, true, true, true, false, false, false, false, false, false, false, false, false, false, false, false, false] (fun wz hw => hw.pick [1, 2] rfl) rfl (by kernel_rfl) (Y.okField (off := 4) (ft := 105) Try.underlying148 rfl cells105 hok54 (by have := (ix_lt (hx54)); omega) (.pl rfl)) rfl ?_
                refine WX.take 13 #[true, true, true, true, true, true, false, true, true, false, true, true, true, true, false, false, false, false, false, false, false, false, false, false, false, false] (fun wz hw => hw.pick [1, 2] rfl) rfl (by kernel_rfl) (Y.okField (off := 2) (ft := 3) Try.underlying105 rfl cells3 hok54 (by have := (ix_lt (hx54)); omega) (.pl rfl)) rfl ?_
                refine WX.pure 15 #[true, true, true, true, true, true, false, true, true, false, true, true, true, true, false, true, false, false, false, false, false, false, false, false, false, false] rfl (by kernel_rfl) (fun _ _ => Y.fieldAddr0 (off := 5) (ft := 3) Try.underlying48 rfl cells3 (.pl rfl)) rfl ?_
                refine WX.take 16 #[true, true, true, true, true, true, false, true, true, false, true, true, true, true, false, true, true, false, false, false, false, false, false, false, false, false] (fun wz hw => hw.pick [1, 2] rfl) rfl (by kernel_rfl) (Y.loadB (v := .int .i64 x43.from_) Try.underlying3 rfl (.pl rfl) (i := 1) rfl (rfl)) rfl ?_
                obtain ⟨x55, hx55, hF42⟩ := bnd hF42
                obtain ⟨x56, hx56, hF42⟩ := bnd hF42
                refine WX.branch [6, 14] (fun wz hw => hw.pick [1, 2] rfl) (by kernel_rfl) ⟨?_, ?_, trivial⟩
                · skip
                  refine WXI.step #[true, true, true, true, true, true, true, true, true, false, true, true, true, true, false, true, true, false, false, false, false, false, false, false, false, false] rfl rfl (WO.q (Y.loadN (enc := encNZonesCluster) (h0 := ((none, 0) : Hd)) (v := .int .i64 x51.zone.first) (a := (ZonesCluster.mk x51.value x51.write x51.from_ (x46.reads ++ ([v42] : List Int)) x51.zone true)) (idx := v34) (j := 5) Try.underlying3 rfl lenNZonesCluster (i := 0) rfl (.pl rfl) (setget (⟨(ix_lt (hx53)).1, by simpa only [List.length_set] using (ix_lt (hx53)).2⟩)) rfl rfl) rfl ?_)
                  refine WX.take 9 #[true, true, true, true, true, true, true, true, true, true, true, true, true, true, false, true, true, false, false, false, false, false, false, false, false, false] (fun wz hw => hw.pick [1, 2] rfl) rfl (by kernel_rfl) (Y.min (.pl rfl) (.pl rfl)) rfl ?_
                  refine WX.one 14 #[true, true, true, true, true, true, true, true, true, true, true, true, true, true, true, true, true, false, false, false, false, false, false, false, false, false] (fun wz hw => hw.pick [1, 2] rfl) rfl (by kernel_rfl) (WO.q (Y.loadN (enc := encNZonesCluster) (h0 := ((none, 0) : Hd)) (v := .int .i64 x51.zone.last) (a := (ZonesCluster.mk x51.value x51.write x51.from_ (x46.reads ++ ([v42] : List Int)) x51.zone true)) (idx := v34) (j := 6) Try.underlying3 rfl lenNZonesCluster (i := 0) rfl (.pl rfl) (setget (⟨(ix_lt (hx54)).1, by simpa only [List.length_set] using (ix_lt (hx54)).2⟩)) rfl rfl) rfl ?_)
                  refine WX.take 17 #[true, true, true, true, true, true, true, true, true, true, true, true, true, true, true, true, true, true, false, false, false, false, false, false, false, false] (fun wz hw => hw.pick [1, 2] rfl) rfl (by kernel_rfl) (Y.max (.pl rfl) (.pl rfl)) rfl ?_
                  refine WX.pure 18 #[true, true, true, true, true, true, true, true, true, true, true, true, true, true, true, true, true, true, true, false, false, false, false, false, false, false] rfl (by kernel_rfl) (fun _ _ => Y.nilCheck (.pl rfl)) rfl ?_
                  refine WX.take 19 #[true, true, true, true, true, true, true, true, true, true, true, true, true, true, true, true, true, true, true, true, false, false, false, false, false, false] (fun wz hw => hw.pick [1, 2] rfl) rfl (by kernel_rfl) (Y.okField (off := 4) (ft := 105) Try.underlying148 rfl cells105 hok54 (by have := (ix_lt (hx55)); omega) (.pl rfl)) rfl ?_
                  refine WX.take 20 #[true, true, true, true, true, true, true, true, true, true, true, true, true, true, true, true, true, true, true, true, true, false, false, false, false, false] (fun wz hw => hw.pick [1, 2] rfl) rfl (by kernel_rfl) (Y.okField (off := 1) (ft := 3) Try.underlying105 rfl cells3 hok54 (by have := (ix_lt (hx55)); omega) (.pl rfl)) rfl ?_
                  refine WX.one 21 #[true, true, true, true, true, true, true, true, true, true, true, true, true, true, true, true, true, true, true, true, true, true, false, false, false, false] (fun wz hw => hw.pick [1, 2] rfl) rfl (by kernel_rfl) (WO.storeN0 (enc := encNZonesCluster) (inn := innNZonesCluster) (h0 := ((none, 0) : Hd)) (a := (ZonesCluster.mk x51.value x51.write x51.from_ (x46.reads ++ ([v42] : List Int)) x51.zone true)) (a' := (ZonesCluster.mk x51.value x51.write x51.from_ (x46.reads ++ ([v42] : List Int)) (Zone.mk x51.zone.value (min x51.zone.first x43.to_) x51.zone.last x51.zone.forward) true)) (idx := v34) (j := 5) cells3 (.pl rfl) (.pl rfl) rfl lenNZonesCluster (i := 0) rfl (setget (⟨(ix_lt (hx55)).1, by simpa only [List.length_set] using (ix_lt (hx55)).2⟩)) rfl (by decide) rfl rfl ?_)
                  refine WX.pure 22 #[true, true, true, true, true, true, true, true, true, true, true, true, true, true, true, true, true, true, true, true, true, true, true, false, false, false] rfl (by kernel_rfl) (fun _ _ => Y.nilCheck (.pl rfl)) rfl ?_
                  refine WX.take 23 #[true, true, true, true, true, true, true, true, true, true, true, true, true, true, true, true, true, true, true, true, true, true, true, true, false, false] (fun wz hw => hw.pick [1, 2] rfl) rfl (by kernel_rfl) (Y.okField (off := 4) (ft := 105) Try.underlying148 rfl cells105 hok54 (by have := (ix_lt (hx56)); have e1 : ((((out40.set v34.toNat (ZonesCluster.mk x51.value x51.write x51.from_ (x46.reads ++ ([v42] : List Int)) x51.zone x51.counts)).set v34.toNat (ZonesCluster.mk x51.value x51.write x51.from_ (x46.reads ++ ([v42] : List Int)) x51.zone true)).set v34.toNat (ZonesCluster.mk x51.value x51.write x51.from_ (x46.reads ++ ([v42] : List Int)) (Zone.mk x51.zone.value (min x51.zone.first x43.to_) x51.zone.last x51.zone.forward) true))).length = (((out40.set v34.toNat (ZonesCluster.mk x51.value x51.write x51.from_ (x46.reads ++ ([v42] : List Int)) x51.zone x51.counts)).set v34.toNat (ZonesCluster.mk x51.value x51.write x51.from_ (x46.reads ++ ([v42] : List Int)) x51.zone true))).length := (by simp only [List.length_set]); omega) (.pl rfl)) rfl ?_
                  refine WX.take 24 #[true, true, true, true, true, true, true, true, true, true, true, true, true, true, true, true, true, true, true, true, true, true, true, true, true, false] (fun wz hw => hw.pick [1, 2] rfl) rfl (by kernel_rfl) (Y.okField (off := 2) (ft := 3) Try.underlying105 rfl cells3 hok54 (by have := (ix_lt (hx56)); have e1 : ((((out40.set v34.toNat (ZonesCluster.mk x51.value x51.write x51.from_ (x46.reads ++ ([v42] : List Int)) x51.zone x51.counts)).set v34.toNat (ZonesCluster.mk x51.value x51.write x51.from_ (x46.reads ++ ([v42] : List Int)) x51.zone true)).set v34.toNat (ZonesCluster.mk x51.value x51.write x51.from_ (x46.reads ++ ([v42] : List Int)) (Zone.mk x51.zone.value (min x51.zone.first x43.to_) x51.zone.last x51.zone.forward) true))).length = (((out40.set v34.toNat (ZonesCluster.mk x51.value x51.write x51.from_ (x46.reads ++ ([v42] : List Int)) x51.zone x51.counts)).set v34.toNat (ZonesCluster.mk x51.value x51.write x51.from_ (x46.reads ++ ([v42] : List Int)) x51.zone true))).length := (by simp only [List.length_set]); omega) (.pl rfl)) rfl ?_
                  refine WX.stop #[true, true, true, true, true, true, true, true, true, true, true, true, true, true, true, true, true, true, true, true, true, true, true, true, true, true] (fun wz hw => hw.pick [1, 2] rfl) rfl (by kernel_rfl) (WO.storeN0 (enc := encNZonesCluster) (inn := innNZonesCluster) (h0 := ((none, 0) : Hd)) (a := (ZonesCluster.mk x51.value x51.write x51.from_ (x46.reads ++ ([v42] : List Int)) (Zone.mk x51.zone.value (min x51.zone.first x43.to_) x51.zone.last x51.zone.forward) true)) (a' := (ZonesCluster.mk x51.value x51.write x51.from_ (x46.reads ++ ([v42] : List Int)) (Zone.mk x51.zone.value (min x51.zone.first x43.to_) (max x51.zone.last x43.from_) x51.zone.forward) true)) (idx := v34) (j := 6) cells3 (.pl rfl) (.pl rfl) rfl lenNZonesCluster (i := 0) rfl (setget (⟨(ix_lt (hx56)).1, by simpa only [List.length_set] using (ix_lt (hx56)).2⟩)) rfl (by decide) rfl rfl ?_)
                  refine WA.done (by kernel_rfl) ?_
                  refine W.go hK47 (.cons (i := 0) rfl (.cons (i := 3) rfl (.cons (i := 8) rfl (.cons (i := 52) rfl (.cons (i := 53) rfl (.cons (i := 59) rfl (.cons (i := 60) rfl (.cons (i := 61) rfl (.nil))))))))) ?_
                  -- region 23: zones.go:56
                  refine W.reg ?_
                  obtain ⟨hk57, hF42⟩ := ckh hF42
                  refine WL.q (Y.add (.pl rfl) (.pl rfl) (ok64_lt (hk57))) rfl ?_
                  refine WL.q (Y.move (.pl rfl)) rfl ?_
                  refine WL.nil ?_
                  obtain rfl := Option.some.inj hF42
                  exact W.again3 hK43 ((((out40.set v34.toNat (ZonesCluster.mk x51.value x51.write x51.from_ (x46.reads ++ ([v42] : List Int)) x51.zone x51.counts)).set v34.toNat (ZonesCluster.mk x51.value x51.write x51.from_ (x46.reads ++ ([v42] : List Int)) x51.zone true)).set v34.toNat (ZonesCluster.mk x51.value x51.write x51.from_ (x46.reads ++ ([v42] : List Int)) (Zone.mk x51.zone.value (min x51.zone.first x43.to_) x51.zone.last x51.zone.forward) true)).set v34.toNat (ZonesCluster.mk x51.value x51.write x51.from_ (x46.reads ++ ([v42] : List Int)) (Zone.mk x51.zone.value (min x51.zone.first x43.to_) (max x51.zone.last x43.from_) x51.zone.forward) true)) (v42 + 1) (hd41.set v34.toNat ((A48, c49) : Hd)) k42 hN42 (Nat.lt_succ_self _) (.cons (eqSl (by simp)) (.cons rfl (.nil))) (.cons (i := 0) rfl (.cons (i := 8) rfl (.cons (i := 52) rfl (.cons (i := 53) rfl (.cons (i := 59) rfl (.cons (i := 60) rfl (.nil))))))) (fun wz hw => St.cong (L := [cN encNZonesCluster innNZonesCluster 9 A7 c8 148 (hd41.set v34.toNat ((A48, c49) : Hd)) ((((out40.set v34.toNat (ZonesCluster.mk x51.value x51.write x51.from_ (x46.reads ++ ([v42] : List Int)) x51.zone x51.counts)).set v34.toNat (ZonesCluster.mk x51.value x51.write x51.from_ (x46.reads ++ ([v42] : List Int)) x51.zone true)).set v34.toNat (ZonesCluster.mk x51.value x51.write x51.from_ (x46.reads ++ ([v42] : List Int)) (Zone.mk x51.zone.value (min x51.zone.first x43.to_) x51.zone.last x51.zone.forward) true)).set v34.toNat (ZonesCluster.mk x51.value x51.write x51.from_ (x46.reads ++ ([v42] : List Int)) (Zone.mk x51.zone.value (min x51.zone.first x43.to_) (max x51.zone.last x43.from_) x51.zone.forward) true))]) (hw.pick [0] rfl) (by simp only [List.length_set, List.nil_append, List.cons_append]))
                · skip
                  refine WXI.step #[true, true, true, true, true, true, false, true, true, false, true, true, true, true, true, true, true, false, false, false, false, false, false, false, false, false] rfl rfl (WO.q (Y.loadN (enc := encNZonesCluster) (h0 := ((none, 0) : Hd)) (v := .int .i64 x51.zone.last) (a := (ZonesCluster.mk x51.value x51.write x51.from_ (x46.reads ++ ([v42] : List Int)) x51.zone true)) (idx := v34) (j := 6) Try.underlying3 rfl lenNZonesCluster (i := 0) rfl (.pl rfl) (setget (⟨(ix_lt (hx54)).1, by simpa only [List.length_set] using (ix_lt (hx54)).2⟩)) rfl rfl) rfl ?_)
                  refine WX.take 17 #[true, true, true, true, true, true, false, true, true, false, true, true, true, true, true, true, true, true, false, false, false, false, false, false, false, false] (fun wz hw => hw.pick [1, 2] rfl) rfl (by kernel_rfl) (Y.max (.pl rfl) (.pl rfl)) rfl ?_
                  refine WX.one 6 #[true, true, true, true, true, true, true, true, true, false, true, true, true, true, true, true, true, true, false, false, false, false, false, false, false, false] (fun wz hw => hw.pick [1, 2] rfl) rfl (by kernel_rfl) (WO.q (Y.loadN (enc := encNZonesCluster) (h0 := ((none, 0) : Hd)) (v := .int .i64 x51.zone.first) (a := (ZonesCluster.mk x51.value x51.write x51.from_ (x46.reads ++ ([v42] : List Int)) x51.zone true)) (idx := v34) (j := 5) Try.underlying3 rfl lenNZonesCluster (i := 0) rfl (.pl rfl) (setget (⟨(ix_lt (hx53)).1, by simpa only [List.length_set] using (ix_lt (hx53)).2⟩)) rfl rfl) rfl ?_)
                  refine WX.take 9 #[true, true, true, true, true, true, true, true, true, true, true, true, true, true, true, true, true, true, false, false, false, false, false, false, false, false] (fun wz hw => hw.pick [1, 2] rfl) rfl (by kernel_rfl) (Y.min (.pl rfl) (.pl rfl)) rfl ?_
                  refine WX.pure 18 #[true, true, true, true, true, true, true, true, true, true, true, true, true, true, true, true, true, true, true, false, false, false, false, false, false, false] rfl (by kernel_rfl) (fun _ _ => Y.nilCheck (.pl rfl)) rfl ?_
                  refine WX.take 19 #[true, true, true, true, true, true, true, true, true, true, true, true, true, true, true, true, true, true, true, true, false, false, false, false, false, false] (fun wz hw => hw.pick [1, 2] rfl) rfl (by kernel_rfl) (Y.okField (off := 4) (ft := 105) Try.underlying148 rfl cells105 hok54 (by have := (ix_lt (hx55)); omega) (.pl rfl)) rfl ?_
                  refine WX.take 20 #[true, true, true, true, true, true, true, true, true, true, true, true, true, true, true, true, true, true, true, true, true, false, false, false, false, false] (fun wz hw => hw.pick [1, 2] rfl) rfl (by kernel_rfl) (Y.okField (off := 1) (ft := 3) Try.underlying105 rfl cells3 hok54 (by have := (ix_lt (hx55)); omega) (.pl rfl)) rfl ?_
                  refine WX.one 21 #[true, true, true, true, true, true, true, true, true, true, true, true, true, true, true, true, true, true, true, true, true, true, false, false, false, false] (fun wz hw => hw.pick [1, 2] rfl) rfl (by kernel_rfl) (WO.storeN0 (enc := encNZonesCluster) (inn := innNZonesCluster) (h0 := ((none, 0) : Hd)) (a := (ZonesCluster.mk x51.value x51.write x51.from_ (x46.reads ++ ([v42] : List Int)) x51.zone true)) (a' := (ZonesCluster.mk x51.value x51.write x51.from_ (x46.reads ++ ([v42] : List Int)) (Zone.mk x51.zone.value (min x51.zone.first x43.to_) x51.zone.last x51.zone.forward) true)) (idx := v34) (j := 5) cells3 (.pl rfl) (.pl rfl) rfl lenNZonesCluster (i := 0) rfl (setget (⟨(ix_lt (hx55)).1, by simpa only [List.length_set] using (ix_lt (hx55)).2⟩)) rfl (by decide) rfl rfl ?_)
                  refine WX.pure 22 #[true, true, true, true, true, true, true, true, true, true, true, true, true, true, true, true, true, true, true, true, true, true, true, false, false, false] rfl (by kernel_rfl) (fun _ _ => Y.nilCheck (.pl rfl)) rfl ?_
                  refine WX.take 23 #[true, true, true, true, true, true, true, true, true, true, true, true, true, true, true, true, true, true, true, true, true, true, true, true, false, false] (fun wz hw => hw.pick [1, 2] rfl) rfl (by kernel_rfl) (Y.okField (off := 4) (ft := 105) Try.underlying148 rfl cells105 hok54 (by have := (ix_lt (hx56)); have e1 : ((((out40.set v34.toNat (ZonesCluster.mk x51.value x51.write x51.from_ (x46.reads ++ ([v42] : List Int)) x51.zone x51.counts)).set v34.toNat (ZonesCluster.mk x51.value x51.write x51.from_ (x46.reads ++ ([v42] : List Int)) x51.zone true)).set v34.toNat (ZonesCluster.mk x51.value x51.write x51.from_ (x46.reads ++ ([v42] : List Int)) (Zone.mk x51.zone.value (min x51.zone.first x43.to_) x51.zone.last x51.zone.forward) true))).length = (((out40.set v34.toNat (ZonesCluster.mk x51.value x51.write x51.from_ (x46.reads ++ ([v42] : List Int)) x51.zone x51.counts)).set v34.toNat (ZonesCluster.mk x51.value x51.write x51.from_ (x46.reads ++ ([v42] : List Int)) x51.zone true))).length := (by simp only [List.length_set]); omega) (.pl rfl)) rfl ?_
                  refine WX.take 24 #[true, true, true, true, true, true, true, true, true, true, true, true, true, true, true, true, true, true, true, true, true, true, true, true, true, false] (fun wz hw => hw.pick [1, 2] rfl) rfl (by kernel_rfl) (Y.okField (off := 2) (ft := 3) Try.underlying105 rfl cells3 hok54 (by have := (ix_lt (hx56)); have e1 : ((((out40.set v34.toNat (ZonesCluster.mk x51.value x51.write x51.from_ (x46.reads ++ ([v42] : List Int)) x51.zone x51.counts)).set v34.toNat (ZonesCluster.mk x51.value x51.write x51.from_ (x46.reads ++ ([v42] : List Int)) x51.zone true)).set v34.toNat (ZonesCluster.mk x51.value x51.write x51.from_ (x46.reads ++ ([v42] : List Int)) (Zone.mk x51.zone.value (min x51.zone.first x43.to_) x51.zone.last x51.zone.forward) true))).length = (((out40.set v34.toNat (ZonesCluster.mk x51.value x51.write x51.from_ (x46.reads ++ ([v42] : List Int)) x51.zone x51.counts)).set v34.toNat (ZonesCluster.mk x51.value x51.write x51.from_ (x46.reads ++ ([v42] : List Int)) x51.zone true))).length := (by simp only [List.length_set]); omega) (.pl rfl)) rfl ?_
                  refine WX.stop #[true, true, true, true, true, true, true, true, true, true, true, true, true, true, true, true, true, true, true, true, true, true, true, true, true, true] (fun wz hw => hw.pick [1, 2] rfl) rfl (by kernel_rfl) (WO.storeN0 (enc := encNZonesCluster) (inn := innNZonesCluster) (h0 := ((none, 0) : Hd)) (a := (ZonesCluster.mk x51.value x51.write x51.from_ (x46.reads ++ ([v42] : List Int)) (Zone.mk x51.zone.value (min x51.zone.first x43.to_) x51.zone.last x51.zone.forward) true)) (a' := (ZonesCluster.mk x51.value x51.write x51.from_ (x46.reads ++ ([v42] : List Int)) (Zone.mk x51.zone.value (min x51.zone.first x43.to_) (max x51.zone.last x43.from_) x51.zone.forward) true)) (idx := v34) (j := 6) cells3 (.pl rfl) (.pl rfl) rfl lenNZonesCluster (i := 0) rfl (setget (⟨(ix_lt (hx56)).1, by simpa only [List.length_set] using (ix_lt (hx56)).2⟩)) rfl (by decide) rfl rfl ?_)
                  refine WA.done (by kernel_rfl) ?_
                  refine W.go hK47 (.cons (i := 0) rfl (.cons (i := 3) rfl (.cons (i := 8) rfl (.cons (i := 52) rfl (.cons (i := 53) rfl (.cons (i := 59) rfl (.cons (i := 60) rfl (.cons (i := 61) rfl (.nil))))))))) ?_
                  -- region 23: zones.go:56
                  refine W.reg ?_
                  obtain ⟨hk58, hF42⟩ := ckh hF42
                  refine WL.q (Y.add (.pl rfl) (.pl rfl) (ok64_lt (hk58))) rfl ?_
                  refine WL.q (Y.move (.pl rfl)) rfl ?_
                  refine WL.nil ?_
                  obtain rfl := Option.some.inj hF42
                  exact W.again3 hK43 ((((out40.set v34.toNat (ZonesCluster.mk x51.value x51.write x51.from_ (x46.reads ++ ([v42] : List Int)) x51.zone x51.counts)).set v34.toNat (ZonesCluster.mk x51.value x51.write x51.from_ (x46.reads ++ ([v42] : List Int)) x51.zone true)).set v34.toNat (ZonesCluster.mk x51.value x51.write x51.from_ (x46.reads ++ ([v42] : List Int)) (Zone.mk x51.zone.value (min x51.zone.first x43.to_) x51.zone.last x51.zone.forward) true)).set v34.toNat (ZonesCluster.mk x51.value x51.write x51.from_ (x46.reads ++ ([v42] : List Int)) (Zone.mk x51.zone.value (min x51.zone.first x43.to_) (max x51.zone.last x43.from_) x51.zone.forward) true)) (v42 + 1) (hd41.set v34.toNat ((A48, c49) : Hd)) k42 hN42 (Nat.lt_succ_self _) (.cons (eqSl (by simp)) (.cons rfl (.nil))) (.cons (i := 0) rfl (.cons (i := 8) rfl (.cons (i := 52) rfl (.cons (i := 53) rfl (.cons (i := 59) rfl (.cons (i := 60) rfl (.nil))))))) (fun wz hw => St.cong (L := [cN encNZonesCluster innNZonesCluster 9 A7 c8 148 (hd41.set v34.toNat ((A48, c49) : Hd)) ((((out40.set v34.toNat (ZonesCluster.mk x51.value x51.write x51.from_ (x46.reads ++ ([v42] : List Int)) x51.zone x51.counts)).set v34.toNat (ZonesCluster.mk x51.value x51.write x51.from_ (x46.reads ++ ([v42] : List Int)) x51.zone true)).set v34.toNat (ZonesCluster.mk x51.value x51.write x51.from_ (x46.reads ++ ([v42] : List Int)) (Zone.mk x51.zone.value (min x51.zone.first x43.to_) x51.zone.last x51.zone.forward) true)).set v34.toNat (ZonesCluster.mk x51.value x51.write x51.from_ (x46.reads ++ ([v42] : List Int)) (Zone.mk x51.zone.value (min x51.zone.first x43.to_) (max x51.zone.last x43.from_) x51.zone.forward) true))]) (hw.pick [0] rfl) (by simp only [List.length_set, List.nil_append, List.cons_append]))
              · replace hF42 := cneg hC50 hF42
                refine W.skip ?_
                refine W.go hK47 (.cons (i := 0) rfl (.cons (i := 3) rfl (.cons (i := 8) rfl (.cons (i := 52) rfl (.cons (i := 53) rfl (.cons (i := 59) rfl (.cons (i := 60) rfl (.cons (i := 61) rfl (.nil))))))))) ?_
                -- region 23: zones.go:56
                refine W.reg ?_
                obtain ⟨hk59, hF42⟩ := ckh hF42
                refine WL.q (Y.add (.pl rfl) (.pl rfl) (ok64_lt (hk59))) rfl ?_
                refine WL.q (Y.move (.pl rfl)) rfl ?_
                refine WL.nil ?_
                obtain rfl := Option.some.inj hF42
                exact W.again3 hK43 out40 (v42 + 1) hd41 k42 hN42 (Nat.lt_succ_self _) (.cons rfl (.cons rfl (.nil))) (.cons (i := 0) rfl (.cons (i := 8) rfl (.cons (i := 52) rfl (.cons (i := 53) rfl (.cons (i := 59) rfl (.cons (i := 60) rfl (.nil))))))) (fun wz hw => hw.pick [1] rfl)
            · replace hF42 := cneg hC46 hF42
              refine W.exit ?_
              obtain rfl := Option.some.inj hF42
              exact W.joinAt2 hK40 out40 hd41 (einr hN42) (.cons rfl (.nil)) (.cons (i := 0) rfl (.cons (i := 8) rfl (.cons (i := 52) rfl (.cons (i := 53) rfl (.nil))))) (fun wz hw => hw.pick [0] rfl)
          · -- behind
            rintro out38 hd39 rfl
            -- region 24: zones.go:63
            refine W.regT 15 (by kernel_rfl) (by kernel_rfl) ?_
            refine WS.q (Y.move (.pl rfl)) rfl ?_
            refine WS.q (Y.move (.pl rfl)) rfl ?_
            refine WS.q (Y.nilCheck (.pl rfl)) rfl ?_
            obtain ⟨x60, hx60, hF35⟩ := bnd hF35
            refine WS.q (Y.nField (off := 4) (ft := 105) Try.underlying148 rfl cells105 (i' := 0) rfl (ix_lt (hx60)) (.pl rfl)) rfl ?_
            refine WS.q (Y.nField (off := 1) (ft := 3) Try.underlying105 rfl cells3 (i' := 0) rfl (ix_lt (hx60)) (.pl rfl)) rfl ?_
            refine WS.q (Y.loadN (enc := encNZonesCluster) (h0 := ((none, 0) : Hd)) (v := .int .i64 x60.zone.first) (a := (ZonesCluster.mk x60.value x60.write x60.from_ x60.reads x60.zone x60.counts)) (idx := v34) (j := 5) Try.underlying3 rfl lenNZonesCluster (i := 0) rfl (.pl rfl) (ix_get (hx60)) rfl rfl) rfl ?_
            refine WS.q (Y.move (.pl rfl)) rfl ?_
            refine WS.q (Y.nilCheck (.pl rfl)) rfl ?_
            obtain ⟨x61, hx61, hF35⟩ := bnd hF35
            refine WS.q (Y.nField (off := 4) (ft := 105) Try.underlying148 rfl cells105 (i' := 0) rfl (ix_lt (hx61)) (.pl rfl)) rfl ?_
            refine WS.q (Y.nField (off := 2) (ft := 3) Try.underlying105 rfl cells3 (i' := 0) rfl (ix_lt (hx61)) (.pl rfl)) rfl ?_
            refine WS.q (Y.loadN (enc := encNZonesCluster) (h0 := ((none, 0) : Hd)) (v := .int .i64 x61.zone.last) (a := (ZonesCluster.mk x61.value x61.write x61.from_ x61.reads x61.zone x61.counts)) (idx := v34) (j := 6) Try.underlying3 rfl lenNZonesCluster (i := 0) rfl (.pl rfl) (ix_get (hx61)) rfl rfl) rfl ?_
            refine WS.q (Y.lss (.pl rfl) (.pl rfl)) rfl ?_
            refine WS.q (Y.nilCheck (.pl rfl)) rfl ?_
            obtain ⟨x62, hx62, hF35⟩ := bnd hF35
            refine WS.q (Y.nField (off := 4) (ft := 105) Try.underlying148 rfl cells105 (i' := 0) rfl (ix_lt (hx62)) (.pl rfl)) rfl ?_
            refine WS.q (Y.nField (off := 3) (ft := 4) Try.underlying105 rfl cells4 (i' := 0) rfl (ix_lt (hx62)) (.pl rfl)) rfl ?_
            refine WS.tail ?_
            refine WL.step (WO.storeN0 (enc := encNZonesCluster) (inn := innNZonesCluster) (h0 := ((none, 0) : Hd)) (a := (ZonesCluster.mk x62.value x62.write x62.from_ x62.reads x62.zone x62.counts)) (a' := (ZonesCluster.mk x62.value x62.write x62.from_ x62.reads (Zone.mk x62.zone.value x62.zone.first x62.zone.last (decide (x60.zone.first < x61.zone.last))) x62.counts)) (idx := v34) (j := 7) cells4 (.pl rfl) (.pl rfl) rfl lenNZonesCluster (i := 0) rfl (ix_get (hx62)) rfl (by decide) rfl rfl ?_)
            refine WL.nil ?_
            exact W.joinAt2 hK36 (out38.set v34.toNat (ZonesCluster.mk x62.value x62.write x62.from_ x62.reads (Zone.mk x62.zone.value x62.zone.first x62.zone.last (decide (x60.zone.first < x61.zone.last))) x62.counts)) hd39 (Option.some.inj hF35) (.cons (eqSl (by simp)) (.nil)) (.cons (i := 0) rfl (.cons (i := 52) rfl (.cons (i := 53) rfl (.nil)))) (fun wz hw => hw.pick [0] rfl)
        · -- behind
          rintro out35 hd36 rfl
          -- region 25: zones.go:54
          refine W.reg ?_
          obtain ⟨hk63, hF30⟩ := ckh hF30
          refine WL.q (Y.add (.pl rfl) (.pl rfl) (ok64_lt (hk63))) rfl ?_
          refine WL.q (Y.move (.pl rfl)) rfl ?_
          refine WL.nil ?_
          obtain rfl := Option.some.inj hF30
          exact W.again3 hK31 out35 (v34 + 1) hd36 k30 hN30 (Nat.lt_succ_self _) (.cons rfl (.cons rfl (.nil))) (.cons (i := 0) rfl (.cons (i := 52) rfl (.nil))) (fun wz hw => hw.pick [0] rfl)
      · replace hF30 := cneg hC34 hF30
        refine W.exit ?_
        obtain rfl := Option.some.inj hF30
        exact W.joinAt2 hK28 out32 hd33 (einr hN30) (.cons rfl (.nil)) (.nil) (fun wz hw => hw.pick [0] rfl)
    · -- behind
      rintro out30 hd31 rfl
      -- region 26: zones.go:65
      refine W.seqR fun Q60 hQ60 => ?_
      refine WL.q (Y.move (.pl rfl)) rfl ?_
      obtain ⟨r64, hr64, hF⟩ := bnd hF
      refine WL.step (WO.call (γ := (List Hd)) (fun g => .tuple #[]) (fun g => [cN encNZonesCluster innNZonesCluster 9 A7 c8 148 g r64]) (fun g => (r64).length = (out30).length) isGo94 (.cons (.pl rfl) (.cons (.pl rfl) (.nil))) rfl (fun wz hw => sort94_ok (T := []) (hr64) (hw.pick [0] rfl) ) ?_)
      rintro hO65 hl66
      refine WL.next hQ60 (.cons (i := 3) rfl (.nil)) ?_
      -- region 27: zones.go:66
      refine W.seqR fun Q61 hQ61 => ?_
      refine WL.q (Y.move (.pl rfl)) rfl ?_
      refine WL.q (Y.assign (.pl rfl)) rfl ?_
      refine WL.next hQ61 (.cons (i := 2) rfl (.nil)) ?_
      obtain rfl := Option.some.inj hF
      refine W.retV (fn := Try.f60) (vs := [.slice A7 (out30).length c8]) Try.results60 ⟨.tmp rfl, trivial⟩ (fun _ _ h => h) (fun wz hw => ?_)
      exact hR _ _ ⟨(A7, c8, hO65), trivial, by simp [resV, hl66], (hw.pick [0] rfl)⟩

def zones_reads_1 (N : Nat) (value1 : Int) (write2 : Int) (from3 : Int) (reads4 : (List Int)) (zone7 : Zone) (counts8 : Bool) (a10 : Call) : Option Unit :=
  some ()

theorem zones_reads_1_ok {N : Nat} {value1 : Int} {write2 : Int} {from3 : Int} {reads4 : (List Int)} {zone7 : Zone} {counts8 : Bool} {a10 : Call} {A5 : Option Addr} {c6 : Nat} {b9 : Nat} {res : Unit} (hF : zones_reads_1 N value1 write2 from3 reads4 zone7 counts8 a10 = some res) {w0 w : World} {T : List Chunk} (hw : St w0.heap.size w0 ([cBx b9 48 (encCall a10)] ++ T) w) :
    Calls Try.prog 98 (List.toArray [.agg (Value.int .i64 value1 :: (Value.int .i64 write2 :: (Value.int .i64 from3 :: (Value.slice A5 (reads4).length c6 :: ((encZone zone7) ++ (Value.bool counts8 :: [])))))).toArray, .pointer (some ⟨b9, 0, none⟩)]) w (fun e w' => ∃ g : Unit, (True) ∧ e = .returned (.bool (decide (value1 = a10.res))) ∧ St w0.heap.size w0 ([cBx b9 48 (encCall a10)] ++ T) w') := by
  refine W.enter (n := 9) Try.func98 rfl rfl Sub.refl (by simp) hw fun R hR => ?_
  unfold zones_reads_1 at hF
  -- region 0: zones.go:96
  refine W.seqR fun Q1 hQ1 => ?_
  refine WL.step (WO.boxA (.pl rfl) rfl fun b11 => ?_)
  refine WL.q (Y.assign (.pl rfl)) rfl ?_
  refine WL.next hQ1 (.cons (i := 1) rfl (.cons (i := 2) rfl (.nil))) ?_
  -- region 1: zones.go:96
  refine W.seqR fun Q2 hQ2 => ?_
  refine WL.q (Y.fieldAddr0 (off := 0) (ft := 3) Try.underlying148 rfl cells3 (.pl rfl)) rfl ?_
  refine WL.q (Y.loadB (v := .int .i64 value1) Try.underlying3 rfl (.pl rfl) (i := 0) rfl (rfl)) rfl ?_
  refine WL.q (Y.fieldAddr0 (off := 4) (ft := 3) Try.underlying48 rfl cells3 (.pl rfl)) rfl ?_
  refine WL.q (Y.loadB (v := .int .i64 a10.res) Try.underlying3 rfl (.pl rfl) (i := 1) rfl (rfl)) rfl ?_
  refine WL.q (Y.eql (.pl rfl) (.pl rfl)) rfl ?_
  refine WL.q (Y.assign (.pl rfl)) rfl ?_
  refine WL.next hQ2 (.cons (i := 3) rfl (.nil)) ?_
  obtain rfl := Option.some.inj hF
  refine W.retV (fn := Try.f98) (vs := [.bool (decide (value1 = a10.res))]) Try.results98 ⟨.tmp rfl, trivial⟩ (fun _ _ h => h) (fun wz hw => ?_)
  exact hR _ _ ⟨(), trivial, rfl, (hw.pickK 2 [1] rfl)⟩

def slices_IndexFunc_zones_cluster_zones_cluster_L3 (N : Nat) (s3 : (List ZonesCluster)) (c6 : Call) : Int → Option (Int ⊕ (Unit ⊕ Int))
  | v7 =>
    cond (decide (v7 < ((s3).length : Int)))
      (bd (ix s3 v7) fun (x8 : ZonesCluster) =>
      bd (zones_reads_1 N x8.value x8.write x8.from_ x8.reads x8.zone x8.counts c6) fun (r9 : Unit) =>
      cond (decide (x8.value = c6.res))
        (some (.inr (.inr v7)))
        (ck (ok64 (v7 + 1)) <|
        some (.inl (v7 + 1))))
      (some (.inr (.inl ())))

def slices_IndexFunc_zones_cluster_zones_cluster (N : Nat) (s3 : (List ZonesCluster)) (c6 : Call) : Option Int :=
  bd (α := (Unit ⊕ Int)) (iter (slices_IndexFunc_zones_cluster_zones_cluster_L3 N s3 c6) N 0) <|
  Sum.elim (fun _ => 
    some (-1)) (fun p => some p)

theorem slices_IndexFunc_zones_cluster_zones_cluster_ok {N : Nat} {s3 : (List ZonesCluster)} {c6 : Call} {A1 : Option Addr} {c2 : Nat} {hd4 : List Hd} {b5 : Nat} {res : Int} (hF : slices_IndexFunc_zones_cluster_zones_cluster N s3 c6 = some res) {w0 w : World} {T : List Chunk} (hw : St w0.heap.size w0 ([cN encNZonesCluster innNZonesCluster 9 A1 c2 148 hd4 s3, cBx b5 48 (encCall c6)] ++ T) w) :
    Calls Try.prog 97 (List.toArray [.slice A1 (s3).length c2, .func (.func 98) #[] #[.pointer (some ⟨b5, 0, none⟩)]]) w (fun e w' => ∃ g : Unit, (True) ∧ e = .returned (.int .i64 res) ∧ St w0.heap.size w0 ([cN encNZonesCluster innNZonesCluster 9 A1 c2 148 hd4 s3, cBx b5 48 (encCall c6)] ++ T) w') := by
  refine W.enter (n := 19) Try.func97 rfl rfl Sub.refl (by simp) hw fun R hR => ?_
  unfold slices_IndexFunc_zones_cluster_zones_cluster at hF
  -- region 0: slices.go:107
  refine W.seqR fun Q1 hQ1 => ?_
  refine WL.q (Y.assign (.pl rfl)) rfl ?_
  refine WL.next hQ1 (.cons (i := 0) rfl (.cons (i := 1) rfl (.nil))) ?_
  obtain ⟨o2, hF2, hF⟩ := bnd hF
  refine W.join0 (Em := []) (M := ([cN encNZonesCluster innNZonesCluster 9 A1 c2 148 hd4 s3, cBx b5 48 (encCall c6)] ++ T)) (I := (.inl ()) = o2) (.nil) (fun K3 hK3 => ?_) ?_
  · -- up to
    -- region 1: slices.go:108
    refine W.seqR fun Q4 hQ4 => ?_
    refine WL.q (Y.move (.pl rfl)) rfl ?_
    refine WL.q (Y.len Try.underlying89 (.pl rfl)) rfl ?_
    refine WL.q (Y.move (.pl rfl)) rfl ?_
    refine WL.next hQ4 (.cons (i := 0) rfl (.cons (i := 1) rfl (.cons (i := 7) rfl (.cons (i := 8) rfl (.nil))))) ?_
    refine W.block ?_
    refine W.loop1 (Em := fun (v7 : Int) => [(8, .int .i64 v7)]) (M := fun v7 => ([cN encNZonesCluster innNZonesCluster 9 A1 c2 148 hd4 s3, cBx b5 48 (encCall c6)] ++ T)) (I := fun v7 k5 => iter (slices_IndexFunc_zones_cluster_zones_cluster_L3 N s3 c6) k5 v7 = some o2) 0 N (hF2) (.cons rfl (.nil)) (.cons (i := 0) rfl (.cons (i := 1) rfl (.cons (i := 7) rfl (.nil)))) (fun wz hw => hw.pickK 2 [0, 1] rfl) (fun v7 k5 hI K6 hK6 => ?_)
    obtain ⟨k5, t5, rfl, hF5, hN5⟩ := iter_step hI
    -- region 2: slices.go:108
    refine W.seqR fun Q7 hQ7 => ?_
    refine WL.q (Y.lss (.pl rfl) (.pl rfl)) rfl ?_
    refine WL.next hQ7 (.cons (i := 0) rfl (.cons (i := 1) rfl (.cons (i := 7) rfl (.cons (i := 8) rfl (.cons (i := 9) rfl (.nil)))))) ?_
    refine W.seq fun K8 hK8 => ?_
    refine W.cond (.pl rfl) (fun hC9 => ?_) (fun hC9 => ?_)
    · replace hF5 := cpos hC9 hF5
      refine W.skip ?_
      refine W.go hK8 (.cons (i := 0) rfl (.cons (i := 1) rfl (.cons (i := 7) rfl (.cons (i := 8) rfl (.nil))))) ?_
      refine W.seq fun K10 hK10 => ?_
      refine W.block ?_
      -- region 3: slices.go:108
      refine W.seqR fun Q11 hQ11 => ?_
      refine WL.q (Y.move (.pl rfl)) rfl ?_
      refine WL.q (Y.assign (.pl rfl)) rfl ?_
      refine WL.next hQ11 (.cons (i := 0) rfl (.cons (i := 1) rfl (.cons (i := 5) rfl (.cons (i := 7) rfl (.cons (i := 8) rfl (.nil)))))) ?_
      -- region 4: slices.go:109
      refine W.seqR fun Q12 hQ12 => ?_
      refine WL.q (Y.move (.pl rfl)) rfl ?_
      refine WL.q (Y.move (.pl rfl)) rfl ?_
      refine WL.q (Y.move (.pl rfl)) rfl ?_
      obtain ⟨x8, hx8, hF5⟩ := bnd hF5
      refine WL.q (Y.nEl Try.underlying89 cells148 (i := 0) rfl (.pl rfl) rfl (.pl rfl) (ix_lt (hx8))) rfl ?_
      refine WL.q (Y.loadNA (enc := encNZonesCluster) (h0 := ((none, 0) : Hd)) (ds := (Value.int .i64 x8.value :: (Value.int .i64 x8.write :: (Value.int .i64 x8.from_ :: (Value.slice (hd4.getD v7.toNat ((none, 0) : Hd)).1 (x8.reads).length (hd4.getD v7.toNat ((none, 0) : Hd)).2 :: ((encZone x8.zone) ++ (Value.bool x8.counts :: []))))))) (a := (ZonesCluster.mk x8.value x8.write x8.from_ x8.reads x8.zone x8.counts)) (idx := v7) (j := 0) Try.underlying148 rfl cells148 lenNZonesCluster (i := 0) rfl (.pl rfl) (ix_get (hx8)) rfl rfl subW) rfl ?_
      obtain ⟨r9, hr9, hF5⟩ := bnd hF5
      refine WL.step (WO.callG (γ := Unit) (first := []) (cap := [.pointer (some ⟨b5, 0, none⟩)]) (fun g => .bool (decide (x8.value = c6.res))) (fun g => ([cBx b5 48 (encCall c6), cN encNZonesCluster innNZonesCluster 9 A1 c2 148 hd4 s3] ++ T)) (fun g => True) isGo98 (.pl rfl) (.cons (.pl rfl) (.nil)) rfl (fun wz hw => zones_reads_1_ok (T := ([cN encNZonesCluster innNZonesCluster 9 A1 c2 148 hd4 s3] ++ T)) (hr9) (hw.pickK 2 [1, 0] rfl) ) ?_)
      rintro _ -
      refine WL.next hQ12 (.cons (i := 0) rfl (.cons (i := 1) rfl (.cons (i := 5) rfl (.cons (i := 7) rfl (.cons (i := 8) rfl (.cons (i := 16) rfl (.nil))))))) ?_
      refine W.cond (.pl rfl) (fun hC13 => ?_) (fun hC13 => ?_)
      · replace hF5 := cpos hC13 hF5
        -- region 5: slices.go:110
        refine W.seqR fun Q14 hQ14 => ?_
        refine WL.q (Y.move (.pl rfl)) rfl ?_
        refine WL.q (Y.assign (.pl rfl)) rfl ?_
        refine WL.next hQ14 (.cons (i := 4) rfl (.nil)) ?_
        obtain rfl := Option.some.inj hF5
        obtain rfl := einr hN5
        obtain rfl := Option.some.inj hF
        refine W.retV (fn := Try.f97) (vs := [.int .i64 v7]) Try.results97 ⟨.tmp rfl, trivial⟩ (fun _ _ h => h) (fun wz hw => ?_)
        exact hR _ _ ⟨(), trivial, rfl, (hw.pickK 2 [1, 0] rfl)⟩
      · replace hF5 := cneg hC13 hF5
        refine W.skip ?_
        refine W.go hK10 (.cons (i := 0) rfl (.cons (i := 1) rfl (.cons (i := 7) rfl (.cons (i := 8) rfl (.nil))))) ?_
        -- region 6: slices.go:108
        refine W.reg ?_
        obtain ⟨hk10, hF5⟩ := ckh hF5
        refine WL.q (Y.add (.pl rfl) (.pl rfl) (ok64_lt (hk10))) rfl ?_
        refine WL.q (Y.move (.pl rfl)) rfl ?_
        refine WL.nil ?_
        obtain rfl := Option.some.inj hF5
        exact W.again1 hK6 (v7 + 1) k5 hN5 (Nat.lt_succ_self _) (.cons rfl (.nil)) (.cons (i := 0) rfl (.cons (i := 1) rfl (.cons (i := 7) rfl (.nil)))) (fun wz hw => hw.pickK 2 [1, 0] rfl)
    · replace hF5 := cneg hC9 hF5
      refine W.exit ?_
      obtain rfl := Option.some.inj hF5
      exact W.joinAt0 hK3  (einr hN5) (.nil) (.nil) (fun wz hw => hw.pickK 2 [0, 1] rfl)
  · -- behind
    rintro  rfl
    -- region 7: slices.go:113
    refine W.seqR fun Q16 hQ16 => ?_
    refine WL.q (Y.assign (.pl rfl)) rfl ?_
    refine WL.next hQ16 (.cons (i := 4) rfl (.nil)) ?_
    obtain rfl := Option.some.inj hF
    refine W.retV (fn := Try.f97) (vs := [.int .i64 (-1)]) Try.results97 ⟨.tmp rfl, trivial⟩ (fun _ _ h => h) (fun wz hw => ?_)
    exact hR _ _ ⟨(), trivial, rfl, (hw.pickK 2 [0, 1] rfl)⟩

def zones_reads_L3 (N : Nat) (c3 : (List Call)) (l6 : (List ZonesCluster)) : (Int × Int × Int × Int) → Option ((Int × Int × Int × Int) ⊕ ((Int × Int × Int) ⊕ (Int × Int × Int)))
  | (Kind13, A14, B15, v16) =>
    cond (decide (v16 < ((c3).length : Int)))
      (bd (ix c3 v16) fun (x17 : Call) =>
      cond ((!(decide (x17.kind = 2))) || (decide (x17.to_ = (-1))))
        (ck (ok64 (v16 + 1)) <|
        some (.inl (Kind13, A14, B15, (v16 + 1))))
        (bd (slices_IndexFunc_zones_cluster_zones_cluster N l6 x17) fun (r20 : Int) =>
        cond (decide (r20 < 0))
          (some (.inr (.inr (1, v16, 0))))
          (bd ((cond ((decide (Kind13 = 0)) == true) (ix l6 r20) (some ZonesCluster.z))) fun (x21 : ZonesCluster) =>
          cond ((decide (Kind13 = 0)) && (decide (x17.to_ < x21.from_)))
            (bd (ix l6 r20) fun (x22 : ZonesCluster) =>
            ck (ok64 (v16 + 1)) <|
            some (.inl (3, v16, x22.write, (v16 + 1))))
            (ck (ok64 (v16 + 1)) <|
            some (.inl (Kind13, A14, B15, (v16 + 1)))))))
      (some (.inr (.inl (Kind13, A14, B15))))

def zones_reads (N : Nat) (c3 : (List Call)) (l6 : (List ZonesCluster)) : Option (Int × Int × Int) :=
  bd (α := ((Int × Int × Int) ⊕ (Int × Int × Int))) (iter (zones_reads_L3 N c3 l6) N (0, 0, 0, 0)) <|
  Sum.elim (fun (Kind10, A11, B12) => 
    some (Kind10, A11, B12)) (fun p => some p)

theorem zones_reads_ok {N : Nat} {c3 : (List Call)} {l6 : (List ZonesCluster)} {A1 : Option Addr} {c2 : Nat} {A4 : Option Addr} {c5 : Nat} {hd7 : List Hd} {res : (Int × Int × Int)} (hF : zones_reads N c3 l6 = some res) {w0 w : World} {T : List Chunk} (hw : St w0.heap.size w0 ([cR encCall 7 A1 c2 48 c3, cN encNZonesCluster innNZonesCluster 9 A4 c5 148 hd7 l6] ++ T) w) :
    Calls Try.prog 61 (List.toArray [.slice A1 (c3).length c2, .slice A4 (l6).length c5]) w (fun e w' => ∃ g : Unit, (True) ∧ e = .returned (.agg (encBad (Bad.mk res.1 res.2.1 res.2.2)).toArray) ∧ St w0.heap.size w0 ([cR encCall 7 A1 c2 48 c3, cN encNZonesCluster innNZonesCluster 9 A4 c5 148 hd7 l6] ++ T) w') := by
  refine W.enter (n := 54) Try.func61 rfl rfl Sub.refl (by simp) hw fun R hR => ?_
  unfold zones_reads at hF
  -- region 0: zones.go:90
  refine W.seqR fun Q1 hQ1 => ?_
  refine WL.step (WO.alloc (cs := (encBad (Bad.mk 0 0 0)).toArray) zero34 rfl rfl fun b8 => ?_)
  refine WL.next hQ1 (.cons (i := 0) rfl (.cons (i := 1) rfl (.cons (i := 4) rfl (.nil)))) ?_
  -- region 1: zones.go:91
  refine W.seqR fun Q2 hQ2 => ?_
  refine WL.q (Y.build (cs := (encBad (Bad.mk 0 0 0)).toArray) shape34 (.nil) (one_parts trivial) rfl) rfl ?_
  refine WL.step (WO.alloc (cs := (encBad (Bad.mk 0 0 0)).toArray) zero34 rfl rfl fun b9 => ?_)
  refine WL.step (WO.storeBA (ds := (encBad (Bad.mk 0 0 0))) (cs' := (encBad (Bad.mk 0 0 0))) cells34 (.pl rfl) (.pl rfl) rfl (oneBad _) (i := 0) rfl (lel (o := 0) (l := 3) (m := 3) (by decide) rfl rfl) (putW rfl) ?_)
  refine WL.next hQ2 (.cons (i := 0) rfl (.cons (i := 1) rfl (.cons (i := 4) rfl (.cons (i := 5) rfl (.nil))))) ?_
  obtain ⟨o3, hF3, hF⟩ := bnd hF
  refine W.join3 (Em := fun (Kind10 : Int) (A11 : Int) (B12 : Int) => []) (M := fun Kind10 A11 B12 => ([cR encCall 7 A1 c2 48 c3, cN encNZonesCluster innNZonesCluster 9 A4 c5 148 hd7 l6, cBx b8 34 (encBad (Bad.mk 0 0 0)), cBx b9 34 (encBad (Bad.mk Kind10 A11 B12))] ++ T)) (I := fun Kind10 A11 B12 => (.inl (Kind10, A11, B12)) = o3) (.cons (i := 4) rfl (.cons (i := 5) rfl (.nil))) (fun K4 hK4 => ?_) ?_
  · -- up to
    -- region 2: zones.go:92
    refine W.seqR fun Q5 hQ5 => ?_
    refine WL.q (Y.move (.pl rfl)) rfl ?_
    refine WL.q (Y.len Try.underlying42 (.pl rfl)) rfl ?_
    refine WL.q (Y.move (.pl rfl)) rfl ?_
    refine WL.next hQ5 (.cons (i := 1) rfl (.cons (i := 4) rfl (.cons (i := 5) rfl (.cons (i := 10) rfl (.cons (i := 11) rfl (.cons (i := 12) rfl (.nil))))))) ?_
    refine W.block ?_
    refine W.loop4 (Em := fun (Kind13 : Int) (A14 : Int) (B15 : Int) (v16 : Int) => [(12, .int .i64 v16)]) (M := fun Kind13 A14 B15 v16 => ([cR encCall 7 A1 c2 48 c3, cN encNZonesCluster innNZonesCluster 9 A4 c5 148 hd7 l6, cBx b8 34 (encBad (Bad.mk 0 0 0)), cBx b9 34 (encBad (Bad.mk Kind13 A14 B15))] ++ T)) (I := fun Kind13 A14 B15 v16 k6 => iter (zones_reads_L3 N c3 l6) k6 (Kind13, A14, B15, v16) = some o3) 0 0 0 0 N (hF3) (.cons rfl (.nil)) (.cons (i := 1) rfl (.cons (i := 4) rfl (.cons (i := 5) rfl (.cons (i := 10) rfl (.cons (i := 11) rfl (.nil)))))) (fun wz hw => hw.pickK 4 [2, 3, 1, 0] rfl) (fun Kind13 A14 B15 v16 k6 hI K7 hK7 => ?_)
    obtain ⟨k6, t6, rfl, hF6, hN6⟩ := iter_step hI
    -- region 3: zones.go:92
    refine W.seqR fun Q8 hQ8 => ?_
    refine WL.q (Y.lss (.pl rfl) (.pl rfl)) rfl ?_
    refine WL.next hQ8 (.cons (i := 1) rfl (.cons (i := 4) rfl (.cons (i := 5) rfl (.cons (i := 10) rfl (.cons (i := 11) rfl (.cons (i := 12) rfl (.cons (i := 13) rfl (.nil)))))))) ?_
    refine W.seq fun K9 hK9 => ?_
    refine W.cond (.pl rfl) (fun hC10 => ?_) (fun hC10 => ?_)
    · replace hF6 := cpos hC10 hF6
      refine W.skip ?_
      refine W.go hK9 (.cons (i := 1) rfl (.cons (i := 4) rfl (.cons (i := 5) rfl (.cons (i := 10) rfl (.cons (i := 11) rfl (.cons (i := 12) rfl (.nil))))))) ?_
      refine W.seq fun K11 hK11 => ?_
      refine W.block ?_
      -- region 4: zones.go:92
      refine W.seqR fun Q12 hQ12 => ?_
      refine WL.q (Y.move (.pl rfl)) rfl ?_
      obtain ⟨x17, hx17, hF6⟩ := bnd hF6
      refine WL.q (Y.rowEl Try.underlying42 cells48 (i := 0) rfl (.pl rfl) rfl (.pl rfl) (ix_lt (hx17))) rfl ?_
      refine WL.q (Y.loadRA (enc := encCall) (ds := (encCall x17)) (a := x17) (idx := v16) (j := 0) Try.underlying48 rfl cells48 lenCall (i := 0) rfl (.pl rfl) (ix_get (hx17)) rfl rfl subW) rfl ?_
      refine WL.step (WO.alloc (cs := (encCall (Call.mk 0 0 0 0 0 0 0)).toArray) zero48 rfl rfl fun b18 => ?_)
      refine WL.q (Y.assign (.pl rfl)) rfl ?_
      refine WL.step (WO.storeBA (ds := (encCall x17)) (cs' := (encCall x17)) cells48 (.pl rfl) (.pl rfl) rfl (oneCall _) (i := 0) rfl (lel (o := 0) (l := 7) (m := 7) (by decide) rfl rfl) (putW rfl) ?_)
      refine WL.next hQ12 (.cons (i := 1) rfl (.cons (i := 4) rfl (.cons (i := 5) rfl (.cons (i := 6) rfl (.cons (i := 7) rfl (.cons (i := 10) rfl (.cons (i := 11) rfl (.cons (i := 12) rfl (.nil))))))))) ?_
      refine W.seq fun K13 hK13 => ?_
      -- region 5: zones.go:93
      refine W.seqR fun Q14 hQ14 => ?_
      refine WL.q (Y.fieldAddr0 (off := 2) (ft := 3) Try.underlying48 rfl cells3 (.pl rfl)) rfl ?_
      refine WL.q (Y.loadB (v := .int .i64 x17.kind) Try.underlying3 rfl (.pl rfl) (i := 0) rfl (rfl)) rfl ?_
      refine WL.q (Y.neq (.pl rfl) (.pl rfl)) rfl ?_
      refine WL.q (Y.move (.pl rfl)) rfl ?_
      refine WL.g (.pl rfl rfl rfl) (fun hg => Y.fieldAddr0 (off := 6) (ft := 3) Try.underlying48 rfl cells3 (.pl rfl)) rfl ?_
      refine WL.g (.pl rfl rfl rfl) (fun hg => Y.loadB (v := .int .i64 x17.to_) Try.underlying3 rfl (.gd (hg) rfl) (i := 0) rfl (rfl)) rfl ?_
      refine WL.g (.pl rfl rfl rfl) (fun hg => Y.eql (.gd (hg) rfl) (.pl rfl)) rfl ?_
      refine WL.q (Y.or (.pl rfl) (fun h2 => .gd (eqf h2) rfl)) rfl ?_
      refine WL.next hQ14 (.cons (i := 1) rfl (.cons (i := 4) rfl (.cons (i := 5) rfl (.cons (i := 6) rfl (.cons (i := 7) rfl (.cons (i := 10) rfl (.cons (i := 11) rfl (.cons (i := 12) rfl (.cons (i := 24) rfl (.nil)))))))))) ?_
      refine W.cond (.pl rfl) (fun hC15 => ?_) (fun hC15 => ?_)
      · replace hF6 := cpos hC15 hF6
        refine W.exit ?_
        refine W.go hK11 (.cons (i := 1) rfl (.cons (i := 4) rfl (.cons (i := 5) rfl (.cons (i := 10) rfl (.cons (i := 11) rfl (.cons (i := 12) rfl (.nil))))))) ?_
        -- region 11: zones.go:92
        refine W.reg ?_
        obtain ⟨hk19, hF6⟩ := ckh hF6
        refine WL.q (Y.add (.pl rfl) (.pl rfl) (ok64_lt (hk19))) rfl ?_
        refine WL.q (Y.move (.pl rfl)) rfl ?_
        refine WL.nil ?_
        obtain rfl := Option.some.inj hF6
        exact W.again4 hK7 Kind13 A14 B15 (v16 + 1) k6 hN6 (Nat.lt_succ_self _) (.cons rfl (.nil)) (.cons (i := 1) rfl (.cons (i := 4) rfl (.cons (i := 5) rfl (.cons (i := 10) rfl (.cons (i := 11) rfl (.nil)))))) (fun wz hw => hw.pickK 5 [1, 2, 3, 4] rfl)
      · replace hF6 := cneg hC15 hF6
        refine W.skip ?_
        refine W.go hK13 (.cons (i := 1) rfl (.cons (i := 4) rfl (.cons (i := 5) rfl (.cons (i := 6) rfl (.cons (i := 7) rfl (.cons (i := 10) rfl (.cons (i := 11) rfl (.cons (i := 12) rfl (.nil))))))))) ?_
        -- region 6: zones.go:96
        refine W.seqR fun Q17 hQ17 => ?_
        refine WL.q (Y.move (.pl rfl)) rfl ?_
        refine WL.q (Y.fnC (.cons (.pl rfl) (.nil))) rfl ?_
        obtain ⟨r20, hr20, hF6⟩ := bnd hF6
        refine WL.step (WO.call (γ := Unit) (fun g => .int .i64 r20) (fun g => ([cN encNZonesCluster innNZonesCluster 9 A4 c5 148 hd7 l6, cBx b18 48 (encCall x17), cR encCall 7 A1 c2 48 c3, cBx b8 34 (encBad (Bad.mk 0 0 0)), cBx b9 34 (encBad (Bad.mk Kind13 A14 B15))] ++ T)) (fun g => True) isGo97 (.cons (.pl rfl) (.cons (.pl rfl) (.nil))) rfl (fun wz hw => slices_IndexFunc_zones_cluster_zones_cluster_ok (T := ([cR encCall 7 A1 c2 48 c3, cBx b8 34 (encBad (Bad.mk 0 0 0)), cBx b9 34 (encBad (Bad.mk Kind13 A14 B15))] ++ T)) (hr20) (hw.pickK 5 [2, 0, 1, 3, 4] rfl) ) ?_)
        rintro _ -
        refine WL.q (Y.assign (.pl rfl)) rfl ?_
        refine WL.next hQ17 (.cons (i := 1) rfl (.cons (i := 4) rfl (.cons (i := 5) rfl (.cons (i := 6) rfl (.cons (i := 7) rfl (.cons (i := 8) rfl (.cons (i := 10) rfl (.cons (i := 11) rfl (.cons (i := 12) rfl (.nil)))))))))) ?_
        refine W.seq fun K18 hK18 => ?_
        -- region 7: zones.go:97
        refine W.seqR fun Q19 hQ19 => ?_
        refine WL.q (Y.move (.pl rfl)) rfl ?_
        refine WL.q (Y.lss (.pl rfl) (.pl rfl)) rfl ?_
        refine WL.next hQ19 (.cons (i := 1) rfl (.cons (i := 4) rfl (.cons (i := 5) rfl (.cons (i := 6) rfl (.cons (i := 7) rfl (.cons (i := 8) rfl (.cons (i := 10) rfl (.cons (i := 11) rfl (.cons (i := 12) rfl (.cons (i := 29) rfl (.nil))))))))))) ?_
        refine W.cond (.pl rfl) (fun hC20 => ?_) (fun hC20 => ?_)
        · replace hF6 := cpos hC20 hF6
          -- region 8: zones.go:98
          refine W.seqR fun Q21 hQ21 => ?_
          refine WL.q (Y.move (.pl rfl)) rfl ?_
          refine WL.q (Y.build (cs := (encBad (Bad.mk 1 v16 0)).toArray) shape34 (.cons (.pl rfl) (.cons (.pl rfl) (.nil))) (one_parts ⟨rfl, ⟨rfl, trivial⟩⟩) rfl) rfl ?_
          refine WL.step (WO.storeBA (ds := (encBad (Bad.mk 1 v16 0))) (cs' := (encBad (Bad.mk 1 v16 0))) cells34 (.pl rfl) (.pl rfl) rfl (oneBad _) (i := 3) rfl (lel (o := 0) (l := 3) (m := 3) (by decide) rfl rfl) (putW rfl) ?_)
          refine WL.next hQ21 (.cons (i := 4) rfl (.nil)) ?_
          obtain rfl := Option.some.inj hF6
          obtain rfl := einr hN6
          obtain rfl := Option.some.inj hF
          refine W.retV (fn := Try.f61) (vs := [.agg (encBad (Bad.mk 1 v16 0)).toArray]) Try.results61 ⟨.cellA Try.underlying34 rfl cells34 rfl (i := 3) rfl rfl, trivial⟩ (fun _ _ h => h) (fun wz hw => ?_)
          exact hR _ _ ⟨(), trivial, rfl, (hw.pickK 5 [2, 0] rfl)⟩
        · replace hF6 := cneg hC20 hF6
          refine W.skip ?_
          refine W.go hK18 (.cons (i := 1) rfl (.cons (i := 4) rfl (.cons (i := 5) rfl (.cons (i := 6) rfl (.cons (i := 7) rfl (.cons (i := 8) rfl (.cons (i := 10) rfl (.cons (i := 11) rfl (.cons (i := 12) rfl (.nil)))))))))) ?_
          -- region 9: zones.go:100
          refine W.seqD (by kernel_rfl) (by kernel_rfl) fun R22 hR22 => ?_
          refine WD.q (Y.fieldAddr0 (off := 0) (ft := 3) Try.underlying34 rfl cells3 (.pl rfl)) rfl ?_
          refine WD.q (Y.loadB (v := .int .i64 Kind13) Try.underlying3 rfl (.pl rfl) (i := 4) rfl (rfl)) rfl ?_
          refine WD.q (Y.eql (.pl rfl) (.pl rfl)) rfl ?_
          refine WD.q (Y.move (.pl rfl)) rfl ?_
          refine WD.g (.pl rfl rfl rfl) (fun hg => Y.fieldAddr0 (off := 6) (ft := 3) Try.underlying48 rfl cells3 (.pl rfl)) rfl ?_
          refine WD.g (.pl rfl rfl rfl) (fun hg => Y.loadB (v := .int .i64 x17.to_) Try.underlying3 rfl (.gd (hg) rfl) (i := 1) rfl (rfl)) rfl ?_
          refine WD.g (.pl rfl rfl rfl) (fun hg => Y.move (.pl rfl)) rfl ?_
          refine WD.g (.pl rfl rfl rfl) (fun hg => Y.move (.pl rfl)) rfl ?_
          obtain ⟨x21, hx21, hF6⟩ := bnd hF6
          refine WD.g (.pl rfl rfl rfl) (fun hg => Y.nEl Try.underlying89 cells148 (i := 0) rfl (.gd (hg) rfl) rfl (.gd (hg) rfl) (ix_lt (gpos hg hx21))) rfl ?_
          refine WD.g (.pl rfl rfl rfl) (fun hg => Y.nField (off := 2) (ft := 3) Try.underlying148 rfl cells3 (i' := 0) rfl (ix_lt (gpos hg hx21)) (.gd (hg) rfl)) rfl ?_
          refine WD.g (.pl rfl rfl rfl) (fun hg => Y.loadN (enc := encNZonesCluster) (h0 := ((none, 0) : Hd)) (v := .int .i64 x21.from_) (a := (ZonesCluster.mk x21.value x21.write x21.from_ x21.reads x21.zone x21.counts)) (idx := r20) (j := 2) Try.underlying3 rfl lenNZonesCluster (i := 0) rfl (.gd (hg) rfl) (ix_get (gpos hg hx21)) rfl rfl) rfl ?_
          refine WD.g (.pl rfl rfl rfl) (fun hg => Y.lss (.gd (hg) rfl) (.gd (hg) rfl)) rfl ?_
          refine WD.q (Y.and (.pl rfl) (fun h2 => .gd (eqt h2) rfl)) rfl ?_
          refine WD.next hR22 (.cons (i := 1) rfl (.cons (i := 4) rfl (.cons (i := 5) rfl (.cons (i := 6) rfl (.cons (i := 8) rfl (.cons (i := 10) rfl (.cons (i := 11) rfl (.cons (i := 12) rfl (.cons (i := 44) rfl (.nil)))))))))) ?_
          refine W.cond (.pl rfl) (fun hC23 => ?_) (fun hC23 => ?_)
          · replace hF6 := cpos hC23 hF6
            -- region 10: zones.go:101
            refine W.reg ?_
            refine WL.q (Y.move (.pl rfl)) rfl ?_
            refine WL.q (Y.move (.pl rfl)) rfl ?_
            refine WL.q (Y.move (.pl rfl)) rfl ?_
            obtain ⟨x22, hx22, hF6⟩ := bnd hF6
            refine WL.q (Y.nEl Try.underlying89 cells148 (i := 0) rfl (.pl rfl) rfl (.pl rfl) (ix_lt (hx22))) rfl ?_
            refine WL.q (Y.nField (off := 1) (ft := 3) Try.underlying148 rfl cells3 (i' := 0) rfl (ix_lt (hx22)) (.pl rfl)) rfl ?_
            refine WL.q (Y.loadN (enc := encNZonesCluster) (h0 := ((none, 0) : Hd)) (v := .int .i64 x22.write) (a := (ZonesCluster.mk x22.value x22.write x22.from_ x22.reads x22.zone x22.counts)) (idx := r20) (j := 1) Try.underlying3 rfl lenNZonesCluster (i := 0) rfl (.pl rfl) (ix_get (hx22)) rfl rfl) rfl ?_
            refine WL.q (Y.build (cs := (encBad (Bad.mk 3 v16 x22.write)).toArray) shape34 (.cons (.pl rfl) (.cons (.pl rfl) (.cons (.pl rfl) (.nil)))) (one_parts ⟨rfl, ⟨rfl, ⟨rfl, trivial⟩⟩⟩) rfl) rfl ?_
            refine WL.step (WO.storeBA (ds := (encBad (Bad.mk 3 v16 x22.write))) (cs' := (encBad (Bad.mk 3 v16 x22.write))) cells34 (.pl rfl) (.pl rfl) rfl (oneBad _) (i := 4) rfl (lel (o := 0) (l := 3) (m := 3) (by decide) rfl rfl) (putW rfl) ?_)
            refine WL.nil ?_
            refine W.go hK11 (.cons (i := 1) rfl (.cons (i := 4) rfl (.cons (i := 5) rfl (.cons (i := 10) rfl (.cons (i := 11) rfl (.cons (i := 12) rfl (.nil))))))) ?_
            -- region 11: zones.go:92
            refine W.reg ?_
            obtain ⟨hk23, hF6⟩ := ckh hF6
            refine WL.q (Y.add (.pl rfl) (.pl rfl) (ok64_lt (hk23))) rfl ?_
            refine WL.q (Y.move (.pl rfl)) rfl ?_
            refine WL.nil ?_
            obtain rfl := Option.some.inj hF6
            exact W.again4 hK7 3 v16 x22.write (v16 + 1) k6 hN6 (Nat.lt_succ_self _) (.cons rfl (.nil)) (.cons (i := 1) rfl (.cons (i := 4) rfl (.cons (i := 5) rfl (.cons (i := 10) rfl (.cons (i := 11) rfl (.nil)))))) (fun wz hw => hw.pickK 5 [2, 0, 3, 4] rfl)
          · replace hF6 := cneg hC23 hF6
            refine W.skip ?_
            refine W.go hK11 (.cons (i := 1) rfl (.cons (i := 4) rfl (.cons (i := 5) rfl (.cons (i := 10) rfl (.cons (i := 11) rfl (.cons (i := 12) rfl (.nil))))))) ?_
            -- region 11: zones.go:92
            refine W.reg ?_
            obtain ⟨hk24, hF6⟩ := ckh hF6
            refine WL.q (Y.add (.pl rfl) (.pl rfl) (ok64_lt (hk24))) rfl ?_
            refine WL.q (Y.move (.pl rfl)) rfl ?_
            refine WL.nil ?_
            obtain rfl := Option.some.inj hF6
            exact W.again4 hK7 Kind13 A14 B15 (v16 + 1) k6 hN6 (Nat.lt_succ_self _) (.cons rfl (.nil)) (.cons (i := 1) rfl (.cons (i := 4) rfl (.cons (i := 5) rfl (.cons (i := 10) rfl (.cons (i := 11) rfl (.nil)))))) (fun wz hw => hw.pickK 5 [2, 0, 3, 4] rfl)
    · replace hF6 := cneg hC10 hF6
      refine W.exit ?_
      obtain rfl := Option.some.inj hF6
      exact W.joinAt3 hK4 Kind13 A14 B15 (einr hN6) (.nil) (.cons (i := 4) rfl (.cons (i := 5) rfl (.nil))) (fun wz hw => hw.pickK 4 [0, 1, 2, 3] rfl)
  · -- behind
    rintro Kind10 A11 B12 rfl
    -- region 12: zones.go:104
    refine W.seqR fun Q27 hQ27 => ?_
    refine WL.q (Y.loadBA (ds := (encBad (Bad.mk Kind10 A11 B12))) Try.underlying34 rfl cells34 (.pl rfl) (i := 3) rfl rfl subW) rfl ?_
    refine WL.step (WO.storeBA (ds := (encBad (Bad.mk Kind10 A11 B12))) (cs' := (encBad (Bad.mk Kind10 A11 B12))) cells34 (.pl rfl) (.pl rfl) rfl (oneBad _) (i := 2) rfl (lel (o := 0) (l := 3) (m := 3) (by decide) rfl rfl) (putW rfl) ?_)
    refine WL.next hQ27 (.cons (i := 4) rfl (.nil)) ?_
    obtain rfl := Option.some.inj hF
    refine W.retV (fn := Try.f61) (vs := [.agg (encBad (Bad.mk Kind10 A11 B12)).toArray]) Try.results61 ⟨.cellA Try.underlying34 rfl cells34 rfl (i := 2) rfl rfl, trivial⟩ (fun _ _ h => h) (fun wz hw => ?_)
    exact hR _ _ ⟨(), trivial, rfl, (hw.pickK 4 [0, 1] rfl)⟩

def zones_zonesOf_L3 (N : Nat) (l3 : (List ZonesCluster)) : ((List Zone) × Int) → Option (((List Zone) × Int) ⊕ (List Zone))
  | (out10, v11) =>
    cond (decide (v11 < ((l3).length : Int)))
      (bd (ix l3 v11) fun (x12 : ZonesCluster) =>
      cond x12.counts
        (ck (limB 32 ((out10).length + (([x12.zone] : List Zone)).length)) <|
        ck (ok64 (v11 + 1)) <|
        some (.inl ((out10 ++ ([x12.zone] : List Zone)), (v11 + 1))))
        (ck (ok64 (v11 + 1)) <|
        some (.inl (out10, (v11 + 1)))))
      (some (.inr out10))

def zones_zonesOf (N : Nat) (l3 : (List ZonesCluster)) : Option (List Zone) :=
  bd (α := (List Zone)) (iter (zones_zonesOf_L3 N l3) N ([], 0)) <|
  fun (out7 : (List Zone)) => 
    some out7

theorem zones_zonesOf_ok {N : Nat} {l3 : (List ZonesCluster)} {A1 : Option Addr} {c2 : Nat} {hd4 : List Hd} {res : (List Zone)} (hF : zones_zonesOf N l3 = some res) {w0 w : World} {T : List Chunk} (hw : St w0.heap.size w0 ([cN encNZonesCluster innNZonesCluster 9 A1 c2 148 hd4 l3] ++ T) w) :
    Calls Try.prog 63 (List.toArray [.slice A1 (l3).length c2]) w (fun e w' => ∃ g : (Option Addr × Nat), (True) ∧ e = .returned (.slice g.1 (res).length g.2) ∧ St w0.heap.size w0 ([cN encNZonesCluster innNZonesCluster 9 A1 c2 148 hd4 l3, cR encZone 4 g.1 g.2 105 res] ++ T) w') := by
  refine W.enter (n := 21) Try.func63 rfl rfl Sub.refl (by simp) hw fun R hR => ?_
  unfold zones_zonesOf at hF
  -- region 0: zones.go:70
  refine W.seqR fun Q1 hQ1 => ?_
  refine WL.q (Y.assign (.pl rfl)) rfl ?_
  refine WL.next hQ1 (.cons (i := 0) rfl (.nil)) ?_
  -- region 1: zones.go:71
  refine W.seqR fun Q2 hQ2 => ?_
  refine WL.q (Y.assign (.pl rfl)) rfl ?_
  refine WL.next hQ2 (.cons (i := 0) rfl (.cons (i := 3) rfl (.nil))) ?_
  obtain ⟨o3, hF3, hF⟩ := bnd hF
  refine W.join3 (Em := fun (out7 : (List Zone)) (A5 : Option Addr) (c6 : Nat) => [(3, .slice A5 (out7).length c6)]) (M := fun out7 A5 c6 => ([cN encNZonesCluster innNZonesCluster 9 A1 c2 148 hd4 l3, cR encZone 4 A5 c6 105 out7] ++ T)) (I := fun out7 A5 c6 => out7 = o3) (.nil) (fun K4 hK4 => ?_) ?_
  · -- up to
    -- region 2: zones.go:72
    refine W.seqR fun Q5 hQ5 => ?_
    refine WL.q (Y.move (.pl rfl)) rfl ?_
    refine WL.q (Y.len Try.underlying89 (.pl rfl)) rfl ?_
    refine WL.q (Y.move (.pl rfl)) rfl ?_
    refine WL.next hQ5 (.cons (i := 3) rfl (.cons (i := 6) rfl (.cons (i := 7) rfl (.cons (i := 8) rfl (.nil))))) ?_
    refine W.block ?_
    refine W.loop4 (Em := fun (out10 : (List Zone)) (v11 : Int) (A8 : Option Addr) (c9 : Nat) => [(3, .slice A8 (out10).length c9), (8, .int .i64 v11)]) (M := fun out10 v11 A8 c9 => ([cN encNZonesCluster innNZonesCluster 9 A1 c2 148 hd4 l3, cR encZone 4 A8 c9 105 out10] ++ T)) (I := fun out10 v11 A8 c9 k6 => iter (zones_zonesOf_L3 N l3) k6 (out10, v11) = some o3) [] 0 none 0 N (hF3) (.cons rfl (.cons rfl (.nil))) (.cons (i := 6) rfl (.cons (i := 7) rfl (.nil))) (fun wz hw => (St.nilR (hw.pickK 1 [0] rfl) encZone 4 105).pickK 2 [1, 0] rfl) (fun out10 v11 A8 c9 k6 hI K7 hK7 => ?_)
    obtain ⟨k6, t6, rfl, hF6, hN6⟩ := iter_step hI
    -- region 3: zones.go:72
    refine W.seqR fun Q8 hQ8 => ?_
    refine WL.q (Y.lss (.pl rfl) (.pl rfl)) rfl ?_
    refine WL.next hQ8 (.cons (i := 3) rfl (.cons (i := 6) rfl (.cons (i := 7) rfl (.cons (i := 8) rfl (.cons (i := 9) rfl (.nil)))))) ?_
    refine W.seq fun K9 hK9 => ?_
    refine W.cond (.pl rfl) (fun hC10 => ?_) (fun hC10 => ?_)
    · replace hF6 := cpos hC10 hF6
      refine W.skip ?_
      refine W.go hK9 (.cons (i := 3) rfl (.cons (i := 6) rfl (.cons (i := 7) rfl (.cons (i := 8) rfl (.nil))))) ?_
      refine W.seq fun K11 hK11 => ?_
      refine W.block ?_
      -- region 4: zones.go:72
      refine W.seqR fun Q12 hQ12 => ?_
      obtain ⟨x12, hx12, hF6⟩ := bnd hF6
      refine WL.q (Y.nEl Try.underlying89 cells148 (i := 0) rfl (.pl rfl) rfl (.pl rfl) (ix_lt (hx12))) rfl ?_
      refine WL.q (Y.loadNA (enc := encNZonesCluster) (h0 := ((none, 0) : Hd)) (ds := (Value.int .i64 x12.value :: (Value.int .i64 x12.write :: (Value.int .i64 x12.from_ :: (Value.slice (hd4.getD v11.toNat ((none, 0) : Hd)).1 (x12.reads).length (hd4.getD v11.toNat ((none, 0) : Hd)).2 :: ((encZone x12.zone) ++ (Value.bool x12.counts :: []))))))) (a := (ZonesCluster.mk x12.value x12.write x12.from_ x12.reads x12.zone x12.counts)) (idx := v11) (j := 0) Try.underlying148 rfl cells148 lenNZonesCluster (i := 0) rfl (.pl rfl) (ix_get (hx12)) rfl rfl subW) rfl ?_
      refine WL.step (WO.alloc (cs := (Value.int .i64 0 :: (Value.int .i64 0 :: (Value.int .i64 0 :: (Value.slice none 0 0 :: ((encZone (Zone.mk 0 0 0 false)) ++ (Value.bool false :: [])))))).toArray) zero148 rfl rfl fun b13 => ?_)
      refine WL.step (WO.storeBA (ds := (Value.int .i64 x12.value :: (Value.int .i64 x12.write :: (Value.int .i64 x12.from_ :: (Value.slice (hd4.getD v11.toNat ((none, 0) : Hd)).1 (x12.reads).length (hd4.getD v11.toNat ((none, 0) : Hd)).2 :: ((encZone x12.zone) ++ (Value.bool x12.counts :: []))))))) (cs' := (Value.int .i64 x12.value :: (Value.int .i64 x12.write :: (Value.int .i64 x12.from_ :: (Value.slice (hd4.getD v11.toNat ((none, 0) : Hd)).1 (x12.reads).length (hd4.getD v11.toNat ((none, 0) : Hd)).2 :: ((encZone x12.zone) ++ (Value.bool x12.counts :: []))))))) cells148 (.pl rfl) (.pl rfl) rfl (one_cons rfl (one_cons rfl (one_cons rfl (one_cons rfl (one_app (oneZone _) (one_cons rfl one_nil)))))) (i := 0) rfl (lel (o := 0) (l := 9) (m := 9) (by decide) rfl rfl) (putW rfl) ?_)
      refine WL.next hQ12 (.cons (i := 3) rfl (.cons (i := 5) rfl (.cons (i := 6) rfl (.cons (i := 7) rfl (.cons (i := 8) rfl (.nil)))))) ?_
      -- region 5: zones.go:73
      refine W.seqR fun Q13 hQ13 => ?_
      refine WL.q (Y.fieldAddr0 (off := 8) (ft := 4) Try.underlying148 rfl cells4 (.pl rfl)) rfl ?_
      refine WL.q (Y.loadB (v := .bool x12.counts) Try.underlying4 rfl (.pl rfl) (i := 0) rfl (rfl)) rfl ?_
      refine WL.next hQ13 (.cons (i := 3) rfl (.cons (i := 5) rfl (.cons (i := 6) rfl (.cons (i := 7) rfl (.cons (i := 8) rfl (.cons (i := 13) rfl (.nil))))))) ?_
      refine W.cond (.pl rfl) (fun hC14 => ?_) (fun hC14 => ?_)
      · replace hF6 := cpos hC14 hF6
        -- region 6: zones.go:74
        refine W.reg ?_
        refine WL.q (Y.move (.pl rfl)) rfl ?_
        refine WL.q (Y.fieldAddr0 (off := 4) (ft := 105) Try.underlying148 rfl cells105 (.pl rfl)) rfl ?_
        refine WL.q (Y.loadBA (ds := (encZone x12.zone)) Try.underlying105 rfl cells105 (.pl rfl) (i := 0) rfl rfl (subM (pre := (Value.int .i64 x12.value :: (Value.int .i64 x12.write :: (Value.int .i64 x12.from_ :: (Value.slice (hd4.getD v11.toNat ((none, 0) : Hd)).1 (x12.reads).length (hd4.getD v11.toNat ((none, 0) : Hd)).2 :: []))))) (o := 4) rfl)) rfl ?_
        refine WL.step (WO.bsliceC (enc := encZone) (ys := ([x12.zone] : List Zone)) Try.underlying93 bz105 (.cons (.pl rfl) (.nil)) rfl lenZone rfl rfl (by decide) (by decide) rfl fun b14 => ?_)
        obtain ⟨hk17, hF6⟩ := ckh hF6
        refine WL.step (WO.appendC (enc := encZone) Try.underlying93 ap105 lenZone oneZone (.pl rfl) rfl (.pl rfl) (i := 3) rfl (m2 := 0) rfl (hk17) rfl fun A15 c16 => ?_)
        refine WL.q (Y.assign (.pl rfl)) rfl ?_
        refine WL.nil ?_
        refine W.go hK11 (.cons (i := 3) rfl (.cons (i := 6) rfl (.cons (i := 7) rfl (.cons (i := 8) rfl (.nil))))) ?_
        -- region 7: zones.go:72
        refine W.reg ?_
        obtain ⟨hk18, hF6⟩ := ckh hF6
        refine WL.q (Y.add (.pl rfl) (.pl rfl) (ok64_lt (hk18))) rfl ?_
        refine WL.q (Y.move (.pl rfl)) rfl ?_
        refine WL.nil ?_
        obtain rfl := Option.some.inj hF6
        exact W.again4 hK7 (out10 ++ ([x12.zone] : List Zone)) (v11 + 1) A15 c16 k6 hN6 (Nat.lt_succ_self _) (.cons rfl (.cons rfl (.nil))) (.cons (i := 6) rfl (.cons (i := 7) rfl (.nil))) (fun wz hw => hw.pickK 4 [2, 3] rfl)
      · replace hF6 := cneg hC14 hF6
        refine W.skip ?_
        refine W.go hK11 (.cons (i := 3) rfl (.cons (i := 6) rfl (.cons (i := 7) rfl (.cons (i := 8) rfl (.nil))))) ?_
        -- region 7: zones.go:72
        refine W.reg ?_
        obtain ⟨hk19, hF6⟩ := ckh hF6
        refine WL.q (Y.add (.pl rfl) (.pl rfl) (ok64_lt (hk19))) rfl ?_
        refine WL.q (Y.move (.pl rfl)) rfl ?_
        refine WL.nil ?_
        obtain rfl := Option.some.inj hF6
        exact W.again4 hK7 out10 (v11 + 1) A8 c9 k6 hN6 (Nat.lt_succ_self _) (.cons rfl (.cons rfl (.nil))) (.cons (i := 6) rfl (.cons (i := 7) rfl (.nil))) (fun wz hw => hw.pickK 3 [1, 2] rfl)
    · replace hF6 := cneg hC10 hF6
      refine W.exit ?_
      obtain rfl := Option.some.inj hF6
      exact W.joinAt3 hK4 out10 A8 c9 (einr hN6) (.cons rfl (.nil)) (.nil) (fun wz hw => hw.pickK 2 [0, 1] rfl)
  · -- behind
    rintro out7 A5 c6 rfl
    -- region 8: zones.go:77
    refine W.seqR fun Q18 hQ18 => ?_
    refine WL.q (Y.move (.pl rfl)) rfl ?_
    refine WL.q (Y.assign (.pl rfl)) rfl ?_
    refine WL.next hQ18 (.cons (i := 2) rfl (.nil)) ?_
    obtain rfl := Option.some.inj hF
    refine W.retV (fn := Try.f63) (vs := [.slice A5 (out7).length c6]) Try.results63 ⟨.tmp rfl, trivial⟩ (fun _ _ h => h) (fun wz hw => ?_)
    exact hR _ _ ⟨(A5, c6), trivial, rfl, (hw.pickK 2 [0, 1] rfl)⟩

def zones_pairs_1 (N : Nat) (a1 : Zone) (b2 : Zone) : Option Unit :=
  some ()

theorem zones_pairs_1_ok {N : Nat} {a1 : Zone} {b2 : Zone} {res : Unit} (hF : zones_pairs_1 N a1 b2 = some res) (w : World) :
    Pure Try.prog 99 [.agg (encZone a1).toArray, .agg (encZone b2).toArray] w (.bool ((decide (a1.first < b2.last)) && (decide (b2.first < a1.last)))) := by
  refine W.enter (n := 17) Try.func99 rfl rfl Sub.refl (by simp) (St.start w) fun R hR => ?_
  unfold zones_pairs_1 at hF
  -- region 0: zones.go:109
  refine W.seqR fun Q1 hQ1 => ?_
  refine WL.step (WO.boxA (.pl rfl) rfl fun b3 => ?_)
  refine WL.step (WO.boxA (.pl rfl) rfl fun b4 => ?_)
  refine WL.q (Y.assign (.pl rfl)) rfl ?_
  refine WL.next hQ1 (.cons (i := 2) rfl (.cons (i := 3) rfl (.nil))) ?_
  -- region 1: zones.go:109
  refine W.seqR fun Q2 hQ2 => ?_
  refine WL.q (Y.fieldAddr0 (off := 1) (ft := 3) Try.underlying105 rfl cells3 (.pl rfl)) rfl ?_
  refine WL.q (Y.loadB (v := .int .i64 a1.first) Try.underlying3 rfl (.pl rfl) (i := 1) rfl (rfl)) rfl ?_
  refine WL.q (Y.fieldAddr0 (off := 2) (ft := 3) Try.underlying105 rfl cells3 (.pl rfl)) rfl ?_
  refine WL.q (Y.loadB (v := .int .i64 b2.last) Try.underlying3 rfl (.pl rfl) (i := 0) rfl (rfl)) rfl ?_
  refine WL.q (Y.lss (.pl rfl) (.pl rfl)) rfl ?_
  refine WL.q (Y.move (.pl rfl)) rfl ?_
  refine WL.g (.pl rfl rfl rfl) (fun hg => Y.fieldAddr0 (off := 1) (ft := 3) Try.underlying105 rfl cells3 (.pl rfl)) rfl ?_
  refine WL.g (.pl rfl rfl rfl) (fun hg => Y.loadB (v := .int .i64 b2.first) Try.underlying3 rfl (.gd (hg) rfl) (i := 0) rfl (rfl)) rfl ?_
  refine WL.g (.pl rfl rfl rfl) (fun hg => Y.fieldAddr0 (off := 2) (ft := 3) Try.underlying105 rfl cells3 (.pl rfl)) rfl ?_
  refine WL.g (.pl rfl rfl rfl) (fun hg => Y.loadB (v := .int .i64 a1.last) Try.underlying3 rfl (.gd (hg) rfl) (i := 1) rfl (rfl)) rfl ?_
  refine WL.g (.pl rfl rfl rfl) (fun hg => Y.lss (.gd (hg) rfl) (.gd (hg) rfl)) rfl ?_
  refine WL.q (Y.and (.pl rfl) (fun h2 => .gd (eqt h2) rfl)) rfl ?_
  refine WL.q (Y.assign (.pl rfl)) rfl ?_
  refine WL.next hQ2 (.cons (i := 4) rfl (.nil)) ?_
  obtain rfl := Option.some.inj hF
  refine W.retV (fn := Try.f99) (vs := [.bool ((decide (a1.first < b2.last)) && (decide (b2.first < a1.last)))]) Try.results99 ⟨.tmp rfl, trivial⟩ (fun _ _ h => h) (fun wz hw => ?_)
  exact hR _ _ ⟨rfl, (hw.pick [] rfl)⟩

def zones_pairs_L41 (N : Nat) (z1 : (List Zone)) (v7 : Int) (x8 : Zone) : Int → Option (Int ⊕ (Unit ⊕ (Int × Int × Int)))
  | v12 =>
    cond (decide (v12 < (((z1.drop (v7 + 1).toNat)).length : Int)))
      (bd (ix (z1.drop (v7 + 1).toNat) v12) fun (x13 : Zone) =>
      bd (α := Bool) (cond ((x8.forward && x13.forward) == true)
          (bd (zones_pairs_1 N x8 x13) fun (r16 : Unit) =>
          some ((x8.forward && x13.forward) && ((decide (x8.first < x13.last)) && (decide (x13.first < x8.last)))))
          (some ((x8.forward && x13.forward) && false))) <|
      fun (v15 : Bool) => 
        cond v15
          (some (.inr (.inr (4, x8.value, x13.value))))
          (ck (ok64 (v12 + 1)) <|
          some (.inl (v12 + 1))))
      (some (.inr (.inl ())))

def zones_pairs_L39 (N : Nat) (z1 : (List Zone)) : Int → Option (Int ⊕ (Unit ⊕ (Int × Int × Int)))
  | v7 =>
    cond (decide (v7 < ((z1).length : Int)))
      (bd (α := (Unit ⊕ (Int × Int × Int))) (bd (ix z1 v7) fun (x8 : Zone) =>
        ck (ok64 (v7 + 1)) <|
        ck (slB (z1).length (v7 + 1) ((z1).length : Int)) <|
        iter (zones_pairs_L41 N z1 v7 x8) N 0) <|
      Sum.elim (fun _ => 
        ck (ok64 (v7 + 1)) <|
        some (.inl (v7 + 1))) (fun p => some (.inr (.inr p))))
      (some (.inr (.inl ())))

def zones_pairs_L55 (N : Nat) (z1 : (List Zone)) (x20 : Zone) : Int → Option (Int ⊕ (Unit ⊕ (Int × Int × Int)))
  | v22 =>
    cond (decide (v22 < ((z1).length : Int)))
      (bd (ix z1 v22) fun (x23 : Zone) =>
      bd (α := Bool) (cond ((x20.forward && (!x23.forward)) == true)
          (bd (zones_pairs_1 N x20 x23) fun (r26 : Unit) =>
          some ((x20.forward && (!x23.forward)) && ((decide (x20.first < x23.last)) && (decide (x23.first < x20.last)))))
          (some ((x20.forward && (!x23.forward)) && false))) <|
      fun (v25 : Bool) => 
        cond v25
          (some (.inr (.inr (5, x20.value, x23.value))))
          (ck (ok64 (v22 + 1)) <|
          some (.inl (v22 + 1))))
      (some (.inr (.inl ())))

def zones_pairs_L53 (N : Nat) (z1 : (List Zone)) : Int → Option (Int ⊕ (Unit ⊕ (Int × Int × Int)))
  | v19 =>
    cond (decide (v19 < ((z1).length : Int)))
      (bd (α := (Unit ⊕ (Int × Int × Int))) (bd (ix z1 v19) fun (x20 : Zone) =>
        iter (zones_pairs_L55 N z1 x20) N 0) <|
      Sum.elim (fun _ => 
        ck (ok64 (v19 + 1)) <|
        some (.inl (v19 + 1))) (fun p => some (.inr (.inr p))))
      (some (.inr (.inl ())))

def zones_pairs (N : Nat) (z1 : (List Zone)) : Option (Int × Int × Int) :=
  bd (α := (Unit ⊕ (Int × Int × Int))) (iter (zones_pairs_L39 N z1) N 0) <|
  Sum.elim (fun _ => 
    bd (α := (Unit ⊕ (Int × Int × Int))) (iter (zones_pairs_L53 N z1) N 0) <|
    Sum.elim (fun _ => 
      some (0, 0, 0)) (fun p => some p)) (fun p => some p)

theorem zones_pairs_ok {N : Nat} {z1 : (List Zone)} {res : (Int × Int × Int)} (hF : zones_pairs N z1 = some res) (w : World) {v5 : Value} (hs4 : SlIn encZone 4 w v5 z1) :
    Pure Try.prog 62 [v5] w (.agg (encBad (Bad.mk res.1 res.2.1 res.2.2)).toArray) := by
  obtain ⟨A2, c3, rfl, hcc3, hs4⟩ := hs4.form
  refine W.enter (n := 80) Try.func62 rfl rfl Sub.refl (by simp) (St.start w) fun R hR => ?_
  unfold zones_pairs at hF
  -- region 0: zones.go:108
  refine W.seqR fun Q1 hQ1 => ?_
  refine WL.step (WO.alloc (cs := (encBad (Bad.mk 0 0 0)).toArray) zero34 rfl rfl fun b6 => ?_)
  refine WL.next hQ1 (.cons (i := 0) rfl (.cons (i := 2) rfl (.nil))) ?_
  -- region 1: zones.go:109
  refine W.seqR fun Q2 hQ2 => ?_
  refine WL.q (Y.assign (.pl rfl)) rfl ?_
  refine WL.next hQ2 (.cons (i := 0) rfl (.cons (i := 2) rfl (.cons (i := 3) rfl (.nil)))) ?_
  obtain ⟨o3, hF3, hF⟩ := bnd hF
  refine W.join0 (Em := []) (M := [cBx b6 34 (encBad (Bad.mk 0 0 0))]) (I := (.inl ()) = o3) (.cons (i := 0) rfl (.cons (i := 2) rfl (.cons (i := 3) rfl (.nil)))) (fun K4 hK4 => ?_) ?_
  · -- up to
    -- region 2: zones.go:110
    refine W.seqR fun Q5 hQ5 => ?_
    refine WL.q (Y.move (.pl rfl)) rfl ?_
    refine WL.q (Y.len Try.underlying93 (.pl rfl)) rfl ?_
    refine WL.q (Y.move (.pl rfl)) rfl ?_
    refine WL.next hQ5 (.cons (i := 0) rfl (.cons (i := 2) rfl (.cons (i := 3) rfl (.cons (i := 12) rfl (.cons (i := 13) rfl (.cons (i := 14) rfl (.nil))))))) ?_
    refine W.block ?_
    refine W.loop1 (Em := fun (v7 : Int) => [(14, .int .i64 v7)]) (M := fun v7 => [cBx b6 34 (encBad (Bad.mk 0 0 0))]) (I := fun v7 k6 => iter (zones_pairs_L39 N z1) k6 v7 = some o3) 0 N (hF3) (.cons rfl (.nil)) (.cons (i := 0) rfl (.cons (i := 2) rfl (.cons (i := 3) rfl (.cons (i := 12) rfl (.cons (i := 13) rfl (.nil)))))) (fun wz hw => hw.pick [0] rfl) (fun v7 k6 hI K7 hK7 => ?_)
    obtain ⟨k6, t6, rfl, hF6, hN6⟩ := iter_step hI
    -- region 3: zones.go:110
    refine W.seqR fun Q8 hQ8 => ?_
    refine WL.q (Y.lss (.pl rfl) (.pl rfl)) rfl ?_
    refine WL.next hQ8 (.cons (i := 0) rfl (.cons (i := 2) rfl (.cons (i := 3) rfl (.cons (i := 12) rfl (.cons (i := 13) rfl (.cons (i := 14) rfl (.cons (i := 15) rfl (.nil)))))))) ?_
    refine W.seq fun K9 hK9 => ?_
    refine W.cond (.pl rfl) (fun hC10 => ?_) (fun hC10 => ?_)
    · replace hF6 := cpos hC10 hF6
      refine W.skip ?_
      refine W.go hK9 (.cons (i := 0) rfl (.cons (i := 2) rfl (.cons (i := 3) rfl (.cons (i := 12) rfl (.cons (i := 13) rfl (.cons (i := 14) rfl (.nil))))))) ?_
      obtain ⟨o11, hF11, hF6⟩ := bnd hF6
      refine W.join0 (Em := []) (M := [cBx b6 34 (encBad (Bad.mk 0 0 0))]) (I := (.inl ()) = o11) (.cons (i := 0) rfl (.cons (i := 2) rfl (.cons (i := 3) rfl (.cons (i := 12) rfl (.cons (i := 13) rfl (.cons (i := 14) rfl (.nil))))))) (fun K12 hK12 => ?_) ?_
      · -- up to
        refine W.block ?_
        -- region 4: zones.go:110
        refine W.seqR fun Q13 hQ13 => ?_
        refine WL.q (Y.move (.pl rfl)) rfl ?_
        obtain ⟨x8, hx8, hF11⟩ := bnd hF11
        refine WL.q (Y.slEl Try.underlying93 cells105 hs4 (.pl rfl) (.pl rfl) (ix_lt (hx8))) rfl ?_
        refine WL.q (Y.loadSA (enc := encZone) (ds := (encZone x8)) (j := 0) Try.underlying105 rfl cells105 hs4 (.pl rfl) (hx8) rfl rfl subW) rfl ?_
        refine WL.step (WO.alloc (cs := (encZone (Zone.mk 0 0 0 false)).toArray) zero105 rfl rfl fun b9 => ?_)
        refine WL.q (Y.assign (.pl rfl)) rfl ?_
        refine WL.step (WO.storeBA (ds := (encZone x8)) (cs' := (encZone x8)) cells105 (.pl rfl) (.pl rfl) rfl (oneZone _) (i := 0) rfl (lel (o := 0) (l := 4) (m := 4) (by decide) rfl rfl) (putW rfl) ?_)
        refine WL.next hQ13 (.cons (i := 0) rfl (.cons (i := 2) rfl (.cons (i := 3) rfl (.cons (i := 4) rfl (.cons (i := 5) rfl (.cons (i := 12) rfl (.cons (i := 13) rfl (.cons (i := 14) rfl (.nil))))))))) ?_
        -- region 5: zones.go:111
        refine W.seqR fun Q14 hQ14 => ?_
        refine WL.q (Y.move (.pl rfl)) rfl ?_
        refine WL.q (Y.move (.pl rfl)) rfl ?_
        obtain ⟨hk10, hF11⟩ := ckh hF11
        refine WL.q (Y.add (.pl rfl) (.pl rfl) (ok64_lt (hk10))) rfl ?_
        obtain ⟨hk11, hF11⟩ := ckh hF11
        refine WL.q (Y.slice1 (xs := z1) Try.underlying93 cells105 (.pl rfl) rfl (hs4).cap_le (.pl rfl) (hk11)) rfl ?_
        refine WL.q (Y.len Try.underlying93 (.pl rfl)) rfl ?_
        refine WL.q (Y.move (.pl rfl)) rfl ?_
        refine WL.next hQ14 (.cons (i := 0) rfl (.cons (i := 2) rfl (.cons (i := 3) rfl (.cons (i := 5) rfl (.cons (i := 12) rfl (.cons (i := 13) rfl (.cons (i := 14) rfl (.cons (i := 22) rfl (.cons (i := 23) rfl (.cons (i := 24) rfl (.nil))))))))))) ?_
        refine W.block ?_
        refine W.loop1 (Em := fun (v12 : Int) => [(24, .int .i64 v12)]) (M := fun v12 => [cBx b6 34 (encBad (Bad.mk 0 0 0)), cBx b9 105 (encZone x8)]) (I := fun v12 k15 => iter (zones_pairs_L41 N z1 v7 x8) k15 v12 = some o11) 0 N (hF11) (.cons rfl (.nil)) (.cons (i := 0) rfl (.cons (i := 2) rfl (.cons (i := 3) rfl (.cons (i := 5) rfl (.cons (i := 12) rfl (.cons (i := 13) rfl (.cons (i := 14) rfl (.cons (i := 22) rfl (.cons (i := 23) rfl (.nil)))))))))) (fun wz hw => hw.pick [1, 0] rfl) (fun v12 k15 hI K16 hK16 => ?_)
        obtain ⟨k15, t15, rfl, hF15, hN15⟩ := iter_step hI
        -- region 6: zones.go:111
        refine W.seqR fun Q17 hQ17 => ?_
        refine WL.q (Y.lss (.pl rfl) (.pl rfl)) rfl ?_
        refine WL.next hQ17 (.cons (i := 0) rfl (.cons (i := 2) rfl (.cons (i := 3) rfl (.cons (i := 5) rfl (.cons (i := 12) rfl (.cons (i := 13) rfl (.cons (i := 14) rfl (.cons (i := 22) rfl (.cons (i := 23) rfl (.cons (i := 24) rfl (.cons (i := 25) rfl (.nil)))))))))))) ?_
        refine W.seq fun K18 hK18 => ?_
        refine W.cond (.pl rfl) (fun hC19 => ?_) (fun hC19 => ?_)
        · replace hF15 := cpos hC19 hF15
          refine W.skip ?_
          refine W.go hK18 (.cons (i := 0) rfl (.cons (i := 2) rfl (.cons (i := 3) rfl (.cons (i := 5) rfl (.cons (i := 12) rfl (.cons (i := 13) rfl (.cons (i := 14) rfl (.cons (i := 22) rfl (.cons (i := 23) rfl (.cons (i := 24) rfl (.nil))))))))))) ?_
          refine W.seq fun K20 hK20 => ?_
          refine W.block ?_
          -- region 7: zones.go:111
          refine W.seqR fun Q21 hQ21 => ?_
          obtain ⟨x13, hx13, hF15⟩ := bnd hF15
          refine WL.q (Y.slEl Try.underlying93 cells105 (SlIn.sub1 hs4 (slB_nat (hk11)).1) (.pl rfl) (.pl rfl) (ix_lt (hx13))) rfl ?_
          refine WL.q (Y.loadSA (enc := encZone) (ds := (encZone x13)) (j := 0) Try.underlying105 rfl cells105 (SlIn.sub1 hs4 (slB_nat (hk11)).1) (.pl rfl) (hx13) rfl rfl subW) rfl ?_
          refine WL.step (WO.alloc (cs := (encZone (Zone.mk 0 0 0 false)).toArray) zero105 rfl rfl fun b14 => ?_)
          refine WL.step (WO.storeBA (ds := (encZone x13)) (cs' := (encZone x13)) cells105 (.pl rfl) (.pl rfl) rfl (oneZone _) (i := 0) rfl (lel (o := 0) (l := 4) (m := 4) (by decide) rfl rfl) (putW rfl) ?_)
          refine WL.next hQ21 (.cons (i := 0) rfl (.cons (i := 2) rfl (.cons (i := 3) rfl (.cons (i := 5) rfl (.cons (i := 7) rfl (.cons (i := 12) rfl (.cons (i := 13) rfl (.cons (i := 14) rfl (.cons (i := 22) rfl (.cons (i := 23) rfl (.cons (i := 24) rfl (.nil)))))))))))) ?_
          obtain ⟨o22, hF22, hF15⟩ := bnd hF15
          refine W.join1 (Em := fun (v15 : Bool) => [(39, .bool v15)]) (M := fun v15 => [cBx b6 34 (encBad (Bad.mk 0 0 0)), cBx b9 105 (encZone x8), cBx b14 105 (encZone x13)]) (I := fun v15 => v15 = o22) (.cons (i := 0) rfl (.cons (i := 2) rfl (.cons (i := 3) rfl (.cons (i := 5) rfl (.cons (i := 7) rfl (.cons (i := 12) rfl (.cons (i := 13) rfl (.cons (i := 14) rfl (.cons (i := 22) rfl (.cons (i := 23) rfl (.cons (i := 24) rfl (.nil)))))))))))) (fun K23 hK23 => ?_) ?_
          · -- up to
            -- region 8: zones.go:112
            refine W.reg ?_
            refine WL.q (Y.fieldAddr0 (off := 3) (ft := 4) Try.underlying105 rfl cells4 (.pl rfl)) rfl ?_
            refine WL.q (Y.loadB (v := .bool x8.forward) Try.underlying4 rfl (.pl rfl) (i := 2) rfl (rfl)) rfl ?_
            refine WL.q (Y.move (.pl rfl)) rfl ?_
            refine WL.g (.pl rfl rfl rfl) (fun hg => Y.fieldAddr0 (off := 3) (ft := 4) Try.underlying105 rfl cells4 (.pl rfl)) rfl ?_
            refine WL.g (.pl rfl rfl rfl) (fun hg => Y.loadB (v := .bool x13.forward) Try.underlying4 rfl (.gd (hg) rfl) (i := 0) rfl (rfl)) rfl ?_
            refine WL.q (Y.and (.pl rfl) (fun h2 => .gd (eqt h2) rfl)) rfl ?_
            refine WL.q (Y.move (.pl rfl)) rfl ?_
            refine WL.g (.pl rfl rfl rfl) (fun hg => Y.move (.pl rfl)) rfl ?_
            refine WL.g (.pl rfl rfl rfl) (fun hg => Y.loadBA (ds := (encZone x8)) Try.underlying105 rfl cells105 (.pl rfl) (i := 2) rfl rfl subW) rfl ?_
            refine WL.g (.pl rfl rfl rfl) (fun hg => Y.loadBA (ds := (encZone x13)) Try.underlying105 rfl cells105 (.pl rfl) (i := 0) rfl rfl subW) rfl ?_
            refine bsplit ((x8.forward && x13.forward) == true) (fun hg24 => ?_) (fun hg24 => ?_)
            · replace hF22 := cpos hg24 hF22
              refine WL.gd (.pl rfl rfl rfl) (hg24) ?_
              obtain ⟨r16, hr16, hF22⟩ := bnd hF22
              refine WL.step (WO.callG (γ := Unit) (first := []) (cap := []) (fun g => .bool ((decide (x8.first < x13.last)) && (decide (x13.first < x8.last)))) (fun g => [cBx b14 105 (encZone x13), cBx b6 34 (encBad (Bad.mk 0 0 0)), cBx b9 105 (encZone x8)]) (fun g => True) isGo99 (.gd (hg24) rfl) (.cons (.gd (hg24) rfl) (.cons (.gd (hg24) rfl) (.nil))) rfl (fun wz hw => (zones_pairs_1_ok (hr16) wz ).calls hw) ?_)
              rintro _ -
              refine WL.q (Y.and (.pl rfl) (fun _ => .pl rfl)) rfl ?_
              refine WL.nil ?_
              exact W.joinAt1 hK23 ((x8.forward && x13.forward) && ((decide (x8.first < x13.last)) && (decide (x13.first < x8.last)))) (Option.some.inj hF22) (.cons rfl (.nil)) (.cons (i := 0) rfl (.cons (i := 2) rfl (.cons (i := 3) rfl (.cons (i := 5) rfl (.cons (i := 7) rfl (.cons (i := 12) rfl (.cons (i := 13) rfl (.cons (i := 14) rfl (.cons (i := 22) rfl (.cons (i := 23) rfl (.cons (i := 24) rfl (.nil)))))))))))) (fun wz hw => hw.pick [1, 2, 0] rfl)
            · replace hF22 := cneg hg24 hF22
              refine WL.gn (.pl rfl rfl rfl) hg24 rfl ?_
              refine WL.q (Y.and (b := false) (.pl rfl) (fun h2 => (gabsA hg24 h2).elim)) rfl ?_
              refine WL.nil ?_
              exact W.joinAt1 hK23 ((x8.forward && x13.forward) && false) (Option.some.inj hF22) (.cons rfl (.nil)) (.cons (i := 0) rfl (.cons (i := 2) rfl (.cons (i := 3) rfl (.cons (i := 5) rfl (.cons (i := 7) rfl (.cons (i := 12) rfl (.cons (i := 13) rfl (.cons (i := 14) rfl (.cons (i := 22) rfl (.cons (i := 23) rfl (.cons (i := 24) rfl (.nil)))))))))))) (fun wz hw => hw.pick [1, 2, 0] rfl)
          · -- behind
            rintro v15 rfl
            refine W.cond (.pl rfl) (fun hC25 => ?_) (fun hC25 => ?_)
            · replace hF15 := cpos hC25 hF15
              -- region 9: zones.go:113
              refine W.seqR fun Q26 hQ26 => ?_
              refine WL.q (Y.fieldAddr0 (off := 0) (ft := 3) Try.underlying105 rfl cells3 (.pl rfl)) rfl ?_
              refine WL.q (Y.loadB (v := .int .i64 x8.value) Try.underlying3 rfl (.pl rfl) (i := 1) rfl (rfl)) rfl ?_
              refine WL.q (Y.fieldAddr0 (off := 0) (ft := 3) Try.underlying105 rfl cells3 (.pl rfl)) rfl ?_
              refine WL.q (Y.loadB (v := .int .i64 x13.value) Try.underlying3 rfl (.pl rfl) (i := 2) rfl (rfl)) rfl ?_
              refine WL.q (Y.build (cs := (encBad (Bad.mk 4 x8.value x13.value)).toArray) shape34 (.cons (.pl rfl) (.cons (.pl rfl) (.cons (.pl rfl) (.nil)))) (one_parts ⟨rfl, ⟨rfl, ⟨rfl, trivial⟩⟩⟩) rfl) rfl ?_
              refine WL.step (WO.storeBA (ds := (encBad (Bad.mk 4 x8.value x13.value))) (cs' := (encBad (Bad.mk 4 x8.value x13.value))) cells34 (.pl rfl) (.pl rfl) rfl (oneBad _) (i := 0) rfl (lel (o := 0) (l := 3) (m := 3) (by decide) rfl rfl) (putW rfl) ?_)
              refine WL.next hQ26 (.cons (i := 2) rfl (.nil)) ?_
              obtain rfl := Option.some.inj hF15
              obtain rfl := einr hN15
              obtain rfl := Option.some.inj hF6
              obtain rfl := einr hN6
              obtain rfl := Option.some.inj hF
              refine W.retV (fn := Try.f62) (vs := [.agg (encBad (Bad.mk 4 x8.value x13.value)).toArray]) Try.results62 ⟨.cellA Try.underlying34 rfl cells34 rfl (i := 0) rfl rfl, trivial⟩ (fun _ _ h => h) (fun wz hw => ?_)
              exact hR _ _ ⟨rfl, (hw.pick [] rfl)⟩
            · replace hF15 := cneg hC25 hF15
              refine W.skip ?_
              refine W.go hK20 (.cons (i := 0) rfl (.cons (i := 2) rfl (.cons (i := 3) rfl (.cons (i := 5) rfl (.cons (i := 12) rfl (.cons (i := 13) rfl (.cons (i := 14) rfl (.cons (i := 22) rfl (.cons (i := 23) rfl (.cons (i := 24) rfl (.nil))))))))))) ?_
              -- region 10: zones.go:111
              refine W.reg ?_
              obtain ⟨hk17, hF15⟩ := ckh hF15
              refine WL.q (Y.add (.pl rfl) (.pl rfl) (ok64_lt (hk17))) rfl ?_
              refine WL.q (Y.move (.pl rfl)) rfl ?_
              refine WL.nil ?_
              obtain rfl := Option.some.inj hF15
              exact W.again1 hK16 (v12 + 1) k15 hN15 (Nat.lt_succ_self _) (.cons rfl (.nil)) (.cons (i := 0) rfl (.cons (i := 2) rfl (.cons (i := 3) rfl (.cons (i := 5) rfl (.cons (i := 12) rfl (.cons (i := 13) rfl (.cons (i := 14) rfl (.cons (i := 22) rfl (.cons (i := 23) rfl (.nil)))))))))) (fun wz hw => hw.pick [0, 1] rfl)
        · replace hF15 := cneg hC19 hF15
          refine W.exit ?_
          obtain rfl := Option.some.inj hF15
          exact W.joinAt0 hK12  (einr hN15) (.nil) (.cons (i := 0) rfl (.cons (i := 2) rfl (.cons (i := 3) rfl (.cons (i := 12) rfl (.cons (i := 13) rfl (.cons (i := 14) rfl (.nil))))))) (fun wz hw => hw.pick [0] rfl)
      · -- behind
        rintro  rfl
        -- region 11: zones.go:110
        refine W.reg ?_
        obtain ⟨hk18, hF6⟩ := ckh hF6
        refine WL.q (Y.add (.pl rfl) (.pl rfl) (ok64_lt (hk18))) rfl ?_
        refine WL.q (Y.move (.pl rfl)) rfl ?_
        refine WL.nil ?_
        obtain rfl := Option.some.inj hF6
        exact W.again1 hK7 (v7 + 1) k6 hN6 (Nat.lt_succ_self _) (.cons rfl (.nil)) (.cons (i := 0) rfl (.cons (i := 2) rfl (.cons (i := 3) rfl (.cons (i := 12) rfl (.cons (i := 13) rfl (.nil)))))) (fun wz hw => hw.pick [0] rfl)
    · replace hF6 := cneg hC10 hF6
      refine W.exit ?_
      obtain rfl := Option.some.inj hF6
      exact W.joinAt0 hK4  (einr hN6) (.nil) (.cons (i := 0) rfl (.cons (i := 2) rfl (.cons (i := 3) rfl (.nil)))) (fun wz hw => hw.pick [0] rfl)
  · -- behind
    rintro  rfl
    obtain ⟨o29, hF29, hF⟩ := bnd hF
    refine W.join0 (Em := []) (M := [cBx b6 34 (encBad (Bad.mk 0 0 0))]) (I := (.inl ()) = o29) (.cons (i := 2) rfl (.nil)) (fun K30 hK30 => ?_) ?_
    · -- up to
      -- region 12: zones.go:117
      refine W.seqR fun Q31 hQ31 => ?_
      refine WL.q (Y.move (.pl rfl)) rfl ?_
      refine WL.q (Y.len Try.underlying93 (.pl rfl)) rfl ?_
      refine WL.q (Y.move (.pl rfl)) rfl ?_
      refine WL.next hQ31 (.cons (i := 0) rfl (.cons (i := 2) rfl (.cons (i := 3) rfl (.cons (i := 47) rfl (.cons (i := 48) rfl (.cons (i := 49) rfl (.nil))))))) ?_
      refine W.block ?_
      refine W.loop1 (Em := fun (v19 : Int) => [(49, .int .i64 v19)]) (M := fun v19 => [cBx b6 34 (encBad (Bad.mk 0 0 0))]) (I := fun v19 k32 => iter (zones_pairs_L53 N z1) k32 v19 = some o29) 0 N (hF29) (.cons rfl (.nil)) (.cons (i := 0) rfl (.cons (i := 2) rfl (.cons (i := 3) rfl (.cons (i := 47) rfl (.cons (i := 48) rfl (.nil)))))) (fun wz hw => hw.pick [0] rfl) (fun v19 k32 hI K33 hK33 => ?_)
      obtain ⟨k32, t32, rfl, hF32, hN32⟩ := iter_step hI
      -- region 13: zones.go:117
      refine W.seqR fun Q34 hQ34 => ?_
      refine WL.q (Y.lss (.pl rfl) (.pl rfl)) rfl ?_
      refine WL.next hQ34 (.cons (i := 0) rfl (.cons (i := 2) rfl (.cons (i := 3) rfl (.cons (i := 47) rfl (.cons (i := 48) rfl (.cons (i := 49) rfl (.cons (i := 50) rfl (.nil)))))))) ?_
      refine W.seq fun K35 hK35 => ?_
      refine W.cond (.pl rfl) (fun hC36 => ?_) (fun hC36 => ?_)
      · replace hF32 := cpos hC36 hF32
        refine W.skip ?_
        refine W.go hK35 (.cons (i := 0) rfl (.cons (i := 2) rfl (.cons (i := 3) rfl (.cons (i := 47) rfl (.cons (i := 48) rfl (.cons (i := 49) rfl (.nil))))))) ?_
        obtain ⟨o37, hF37, hF32⟩ := bnd hF32
        refine W.join0 (Em := []) (M := [cBx b6 34 (encBad (Bad.mk 0 0 0))]) (I := (.inl ()) = o37) (.cons (i := 0) rfl (.cons (i := 2) rfl (.cons (i := 3) rfl (.cons (i := 47) rfl (.cons (i := 48) rfl (.cons (i := 49) rfl (.nil))))))) (fun K38 hK38 => ?_) ?_
        · -- up to
          refine W.block ?_
          -- region 14: zones.go:117
          refine W.seqR fun Q39 hQ39 => ?_
          obtain ⟨x20, hx20, hF37⟩ := bnd hF37
          refine WL.q (Y.slEl Try.underlying93 cells105 hs4 (.pl rfl) (.pl rfl) (ix_lt (hx20))) rfl ?_
          refine WL.q (Y.loadSA (enc := encZone) (ds := (encZone x20)) (j := 0) Try.underlying105 rfl cells105 hs4 (.pl rfl) (hx20) rfl rfl subW) rfl ?_
          refine WL.step (WO.alloc (cs := (encZone (Zone.mk 0 0 0 false)).toArray) zero105 rfl rfl fun b21 => ?_)
          refine WL.step (WO.storeBA (ds := (encZone x20)) (cs' := (encZone x20)) cells105 (.pl rfl) (.pl rfl) rfl (oneZone _) (i := 0) rfl (lel (o := 0) (l := 4) (m := 4) (by decide) rfl rfl) (putW rfl) ?_)
          refine WL.next hQ39 (.cons (i := 0) rfl (.cons (i := 2) rfl (.cons (i := 3) rfl (.cons (i := 9) rfl (.cons (i := 47) rfl (.cons (i := 48) rfl (.cons (i := 49) rfl (.nil)))))))) ?_
          -- region 15: zones.go:118
          refine W.seqR fun Q40 hQ40 => ?_
          refine WL.q (Y.move (.pl rfl)) rfl ?_
          refine WL.q (Y.len Try.underlying93 (.pl rfl)) rfl ?_
          refine WL.q (Y.move (.pl rfl)) rfl ?_
          refine WL.next hQ40 (.cons (i := 0) rfl (.cons (i := 2) rfl (.cons (i := 3) rfl (.cons (i := 9) rfl (.cons (i := 47) rfl (.cons (i := 48) rfl (.cons (i := 49) rfl (.cons (i := 53) rfl (.cons (i := 54) rfl (.cons (i := 55) rfl (.nil))))))))))) ?_
          refine W.block ?_
          refine W.loop1 (Em := fun (v22 : Int) => [(55, .int .i64 v22)]) (M := fun v22 => [cBx b6 34 (encBad (Bad.mk 0 0 0)), cBx b21 105 (encZone x20)]) (I := fun v22 k41 => iter (zones_pairs_L55 N z1 x20) k41 v22 = some o37) 0 N (hF37) (.cons rfl (.nil)) (.cons (i := 0) rfl (.cons (i := 2) rfl (.cons (i := 3) rfl (.cons (i := 9) rfl (.cons (i := 47) rfl (.cons (i := 48) rfl (.cons (i := 49) rfl (.cons (i := 53) rfl (.cons (i := 54) rfl (.nil)))))))))) (fun wz hw => hw.pick [1, 0] rfl) (fun v22 k41 hI K42 hK42 => ?_)
          obtain ⟨k41, t41, rfl, hF41, hN41⟩ := iter_step hI
          -- region 16: zones.go:118
          refine W.seqR fun Q43 hQ43 => ?_
          refine WL.q (Y.lss (.pl rfl) (.pl rfl)) rfl ?_
          refine WL.next hQ43 (.cons (i := 0) rfl (.cons (i := 2) rfl (.cons (i := 3) rfl (.cons (i := 9) rfl (.cons (i := 47) rfl (.cons (i := 48) rfl (.cons (i := 49) rfl (.cons (i := 53) rfl (.cons (i := 54) rfl (.cons (i := 55) rfl (.cons (i := 56) rfl (.nil)))))))))))) ?_
          refine W.seq fun K44 hK44 => ?_
          refine W.cond (.pl rfl) (fun hC45 => ?_) (fun hC45 => ?_)
          · replace hF41 := cpos hC45 hF41
            refine W.skip ?_
            refine W.go hK44 (.cons (i := 0) rfl (.cons (i := 2) rfl (.cons (i := 3) rfl (.cons (i := 9) rfl (.cons (i := 47) rfl (.cons (i := 48) rfl (.cons (i := 49) rfl (.cons (i := 53) rfl (.cons (i := 54) rfl (.cons (i := 55) rfl (.nil))))))))))) ?_
            refine W.seq fun K46 hK46 => ?_
            refine W.block ?_
            -- region 17: zones.go:118
            refine W.seqR fun Q47 hQ47 => ?_
            obtain ⟨x23, hx23, hF41⟩ := bnd hF41
            refine WL.q (Y.slEl Try.underlying93 cells105 hs4 (.pl rfl) (.pl rfl) (ix_lt (hx23))) rfl ?_
            refine WL.q (Y.loadSA (enc := encZone) (ds := (encZone x23)) (j := 0) Try.underlying105 rfl cells105 hs4 (.pl rfl) (hx23) rfl rfl subW) rfl ?_
            refine WL.step (WO.alloc (cs := (encZone (Zone.mk 0 0 0 false)).toArray) zero105 rfl rfl fun b24 => ?_)
            refine WL.step (WO.storeBA (ds := (encZone x23)) (cs' := (encZone x23)) cells105 (.pl rfl) (.pl rfl) rfl (oneZone _) (i := 0) rfl (lel (o := 0) (l := 4) (m := 4) (by decide) rfl rfl) (putW rfl) ?_)
            refine WL.next hQ47 (.cons (i := 0) rfl (.cons (i := 2) rfl (.cons (i := 3) rfl (.cons (i := 9) rfl (.cons (i := 11) rfl (.cons (i := 47) rfl (.cons (i := 48) rfl (.cons (i := 49) rfl (.cons (i := 53) rfl (.cons (i := 54) rfl (.cons (i := 55) rfl (.nil)))))))))))) ?_
            obtain ⟨o48, hF48, hF41⟩ := bnd hF41
            refine W.join1 (Em := fun (v25 : Bool) => [(71, .bool v25)]) (M := fun v25 => [cBx b6 34 (encBad (Bad.mk 0 0 0)), cBx b21 105 (encZone x20), cBx b24 105 (encZone x23)]) (I := fun v25 => v25 = o48) (.cons (i := 0) rfl (.cons (i := 2) rfl (.cons (i := 3) rfl (.cons (i := 9) rfl (.cons (i := 11) rfl (.cons (i := 47) rfl (.cons (i := 48) rfl (.cons (i := 49) rfl (.cons (i := 53) rfl (.cons (i := 54) rfl (.cons (i := 55) rfl (.nil)))))))))))) (fun K49 hK49 => ?_) ?_
            · -- up to
              -- region 18: zones.go:119
              refine W.reg ?_
              refine WL.q (Y.fieldAddr0 (off := 3) (ft := 4) Try.underlying105 rfl cells4 (.pl rfl)) rfl ?_
              refine WL.q (Y.loadB (v := .bool x20.forward) Try.underlying4 rfl (.pl rfl) (i := 2) rfl (rfl)) rfl ?_
              refine WL.q (Y.move (.pl rfl)) rfl ?_
              refine WL.g (.pl rfl rfl rfl) (fun hg => Y.fieldAddr0 (off := 3) (ft := 4) Try.underlying105 rfl cells4 (.pl rfl)) rfl ?_
              refine WL.g (.pl rfl rfl rfl) (fun hg => Y.loadB (v := .bool x23.forward) Try.underlying4 rfl (.gd (hg) rfl) (i := 0) rfl (rfl)) rfl ?_
              refine WL.g (.pl rfl rfl rfl) (fun hg => Y.not (.gd (hg) rfl)) rfl ?_
              refine WL.q (Y.and (.pl rfl) (fun h2 => .gd (eqt h2) rfl)) rfl ?_
              refine WL.q (Y.move (.pl rfl)) rfl ?_
              refine WL.g (.pl rfl rfl rfl) (fun hg => Y.move (.pl rfl)) rfl ?_
              refine WL.g (.pl rfl rfl rfl) (fun hg => Y.loadBA (ds := (encZone x20)) Try.underlying105 rfl cells105 (.pl rfl) (i := 2) rfl rfl subW) rfl ?_
              refine WL.g (.pl rfl rfl rfl) (fun hg => Y.loadBA (ds := (encZone x23)) Try.underlying105 rfl cells105 (.pl rfl) (i := 0) rfl rfl subW) rfl ?_
              refine bsplit ((x20.forward && (!x23.forward)) == true) (fun hg50 => ?_) (fun hg50 => ?_)
              · replace hF48 := cpos hg50 hF48
                refine WL.gd (.pl rfl rfl rfl) (hg50) ?_
                obtain ⟨r26, hr26, hF48⟩ := bnd hF48
                refine WL.step (WO.callG (γ := Unit) (first := []) (cap := []) (fun g => .bool ((decide (x20.first < x23.last)) && (decide (x23.first < x20.last)))) (fun g => [cBx b24 105 (encZone x23), cBx b6 34 (encBad (Bad.mk 0 0 0)), cBx b21 105 (encZone x20)]) (fun g => True) isGo99 (.gd (hg50) rfl) (.cons (.gd (hg50) rfl) (.cons (.gd (hg50) rfl) (.nil))) rfl (fun wz hw => (zones_pairs_1_ok (hr26) wz ).calls hw) ?_)
                rintro _ -
                refine WL.q (Y.and (.pl rfl) (fun _ => .pl rfl)) rfl ?_
                refine WL.nil ?_
                exact W.joinAt1 hK49 ((x20.forward && (!x23.forward)) && ((decide (x20.first < x23.last)) && (decide (x23.first < x20.last)))) (Option.some.inj hF48) (.cons rfl (.nil)) (.cons (i := 0) rfl (.cons (i := 2) rfl (.cons (i := 3) rfl (.cons (i := 9) rfl (.cons (i := 11) rfl (.cons (i := 47) rfl (.cons (i := 48) rfl (.cons (i := 49) rfl (.cons (i := 53) rfl (.cons (i := 54) rfl (.cons (i := 55) rfl (.nil)))))))))))) (fun wz hw => hw.pick [1, 2, 0] rfl)
              · replace hF48 := cneg hg50 hF48
                refine WL.gn (.pl rfl rfl rfl) hg50 rfl ?_
                refine WL.q (Y.and (b := false) (.pl rfl) (fun h2 => (gabsA hg50 h2).elim)) rfl ?_
                refine WL.nil ?_
                exact W.joinAt1 hK49 ((x20.forward && (!x23.forward)) && false) (Option.some.inj hF48) (.cons rfl (.nil)) (.cons (i := 0) rfl (.cons (i := 2) rfl (.cons (i := 3) rfl (.cons (i := 9) rfl (.cons (i := 11) rfl (.cons (i := 47) rfl (.cons (i := 48) rfl (.cons (i := 49) rfl (.cons (i := 53) rfl (.cons (i := 54) rfl (.cons (i := 55) rfl (.nil)))))))))))) (fun wz hw => hw.pick [1, 2, 0] rfl)
            · -- behind
              rintro v25 rfl
              refine W.cond (.pl rfl) (fun hC51 => ?_) (fun hC51 => ?_)
              · replace hF41 := cpos hC51 hF41
                -- region 19: zones.go:120
                refine W.seqR fun Q52 hQ52 => ?_
                refine WL.q (Y.fieldAddr0 (off := 0) (ft := 3) Try.underlying105 rfl cells3 (.pl rfl)) rfl ?_
                refine WL.q (Y.loadB (v := .int .i64 x20.value) Try.underlying3 rfl (.pl rfl) (i := 1) rfl (rfl)) rfl ?_
                refine WL.q (Y.fieldAddr0 (off := 0) (ft := 3) Try.underlying105 rfl cells3 (.pl rfl)) rfl ?_
                refine WL.q (Y.loadB (v := .int .i64 x23.value) Try.underlying3 rfl (.pl rfl) (i := 2) rfl (rfl)) rfl ?_
                refine WL.q (Y.build (cs := (encBad (Bad.mk 5 x20.value x23.value)).toArray) shape34 (.cons (.pl rfl) (.cons (.pl rfl) (.cons (.pl rfl) (.nil)))) (one_parts ⟨rfl, ⟨rfl, ⟨rfl, trivial⟩⟩⟩) rfl) rfl ?_
                refine WL.step (WO.storeBA (ds := (encBad (Bad.mk 5 x20.value x23.value))) (cs' := (encBad (Bad.mk 5 x20.value x23.value))) cells34 (.pl rfl) (.pl rfl) rfl (oneBad _) (i := 0) rfl (lel (o := 0) (l := 3) (m := 3) (by decide) rfl rfl) (putW rfl) ?_)
                refine WL.next hQ52 (.cons (i := 2) rfl (.nil)) ?_
                obtain rfl := Option.some.inj hF41
                obtain rfl := einr hN41
                obtain rfl := Option.some.inj hF32
                obtain rfl := einr hN32
                obtain rfl := Option.some.inj hF
                refine W.retV (fn := Try.f62) (vs := [.agg (encBad (Bad.mk 5 x20.value x23.value)).toArray]) Try.results62 ⟨.cellA Try.underlying34 rfl cells34 rfl (i := 0) rfl rfl, trivial⟩ (fun _ _ h => h) (fun wz hw => ?_)
                exact hR _ _ ⟨rfl, (hw.pick [] rfl)⟩
              · replace hF41 := cneg hC51 hF41
                refine W.skip ?_
                refine W.go hK46 (.cons (i := 0) rfl (.cons (i := 2) rfl (.cons (i := 3) rfl (.cons (i := 9) rfl (.cons (i := 47) rfl (.cons (i := 48) rfl (.cons (i := 49) rfl (.cons (i := 53) rfl (.cons (i := 54) rfl (.cons (i := 55) rfl (.nil))))))))))) ?_
                -- region 20: zones.go:118
                refine W.reg ?_
                obtain ⟨hk27, hF41⟩ := ckh hF41
                refine WL.q (Y.add (.pl rfl) (.pl rfl) (ok64_lt (hk27))) rfl ?_
                refine WL.q (Y.move (.pl rfl)) rfl ?_
                refine WL.nil ?_
                obtain rfl := Option.some.inj hF41
                exact W.again1 hK42 (v22 + 1) k41 hN41 (Nat.lt_succ_self _) (.cons rfl (.nil)) (.cons (i := 0) rfl (.cons (i := 2) rfl (.cons (i := 3) rfl (.cons (i := 9) rfl (.cons (i := 47) rfl (.cons (i := 48) rfl (.cons (i := 49) rfl (.cons (i := 53) rfl (.cons (i := 54) rfl (.nil)))))))))) (fun wz hw => hw.pick [0, 1] rfl)
          · replace hF41 := cneg hC45 hF41
            refine W.exit ?_
            obtain rfl := Option.some.inj hF41
            exact W.joinAt0 hK38  (einr hN41) (.nil) (.cons (i := 0) rfl (.cons (i := 2) rfl (.cons (i := 3) rfl (.cons (i := 47) rfl (.cons (i := 48) rfl (.cons (i := 49) rfl (.nil))))))) (fun wz hw => hw.pick [0] rfl)
        · -- behind
          rintro  rfl
          -- region 21: zones.go:117
          refine W.reg ?_
          obtain ⟨hk28, hF32⟩ := ckh hF32
          refine WL.q (Y.add (.pl rfl) (.pl rfl) (ok64_lt (hk28))) rfl ?_
          refine WL.q (Y.move (.pl rfl)) rfl ?_
          refine WL.nil ?_
          obtain rfl := Option.some.inj hF32
          exact W.again1 hK33 (v19 + 1) k32 hN32 (Nat.lt_succ_self _) (.cons rfl (.nil)) (.cons (i := 0) rfl (.cons (i := 2) rfl (.cons (i := 3) rfl (.cons (i := 47) rfl (.cons (i := 48) rfl (.nil)))))) (fun wz hw => hw.pick [0] rfl)
      · replace hF32 := cneg hC36 hF32
        refine W.exit ?_
        obtain rfl := Option.some.inj hF32
        exact W.joinAt0 hK30  (einr hN32) (.nil) (.cons (i := 2) rfl (.nil)) (fun wz hw => hw.pick [0] rfl)
    · -- behind
      rintro  rfl
      -- region 22: zones.go:124
      refine W.seqR fun Q55 hQ55 => ?_
      refine WL.q (Y.build (cs := (encBad (Bad.mk 0 0 0)).toArray) shape34 (.nil) (one_parts trivial) rfl) rfl ?_
      refine WL.step (WO.storeBA (ds := (encBad (Bad.mk 0 0 0))) (cs' := (encBad (Bad.mk 0 0 0))) cells34 (.pl rfl) (.pl rfl) rfl (oneBad _) (i := 0) rfl (lel (o := 0) (l := 3) (m := 3) (by decide) rfl rfl) (putW rfl) ?_)
      refine WL.next hQ55 (.cons (i := 2) rfl (.nil)) ?_
      obtain rfl := Option.some.inj hF
      refine W.retV (fn := Try.f62) (vs := [.agg (encBad (Bad.mk 0 0 0)).toArray]) Try.results62 ⟨.cellA Try.underlying34 rfl cells34 rfl (i := 0) rfl rfl, trivial⟩ (fun _ _ h => h) (fun wz hw => ?_)
      exact hR _ _ ⟨rfl, (hw.pick [] rfl)⟩

def zones_Check (N : Nat) (l1 : (List Event)) : Option (Bool × Int × Int × Int × Int) :=
  bd (zones_calls N l1) fun (r7 : ((List Call) × Int)) =>
  cond (!(decide (r7.2 = 0)))
    (some (false, 0, 0, 0, r7.2))
    (bd (zones_clusters N r7.1) fun (r10 : (List ZonesCluster)) =>
    bd (zones_reads N r7.1 r10) fun (r14 : (Int × Int × Int)) =>
    bd (α := (Int × Int × Int)) (cond (decide (r14.1 = 0))
        (bd (zones_zonesOf N r10) fun (r19 : (List Zone)) =>
        bd (zones_pairs N r19) fun (r22 : (Int × Int × Int)) =>
        some (r22.1, r22.2.1, r22.2.2))
        (some (r14.1, r14.2.1, r14.2.2))) <|
    fun (Kind16, A17, B18) => 
      some ((decide (Kind16 = 0)), Kind16, A17, B18, 0))

theorem zones_Check_ok {N : Nat} {l1 : (List Event)} {res : (Bool × Int × Int × Int × Int)} (hF : zones_Check N l1 = some res) (w : World) {v5 : Value} (hs4 : SlIn encEvent 4 w v5 l1) :
    Pure Try.prog 25 [v5] w (.tuple #[.bool res.1, .agg (encBad (Bad.mk res.2.1 res.2.2.1 res.2.2.2.1)).toArray, .int .i64 res.2.2.2.2]) := by
  obtain ⟨A2, c3, rfl, hcc3, hs4⟩ := hs4.form
  refine W.enter (n := 33) Try.func25 rfl rfl Sub.refl (by simp) (St.start w) fun R hR => ?_
  unfold zones_Check at hF
  -- region 0: zones.go:128
  refine W.seqR fun Q1 hQ1 => ?_
  refine WL.q (Y.assign (.pl rfl)) rfl ?_
  refine WL.step (WO.alloc (cs := (encBad (Bad.mk 0 0 0)).toArray) zero34 rfl rfl fun b6 => ?_)
  refine WL.q (Y.assign (.pl rfl)) rfl ?_
  refine WL.next hQ1 (.cons (i := 0) rfl (.cons (i := 3) rfl (.nil))) ?_
  -- region 1: zones.go:129
  refine W.seqR fun Q2 hQ2 => ?_
  refine WL.q (Y.move (.pl rfl)) rfl ?_
  obtain ⟨r7, hr7, hF⟩ := bnd hF
  refine WL.step (WO.callM isGo59 (.cons (.pl rfl) (.nil)) rfl (fun wz hw => zones_calls_ok (hr7) wz (hs4.mono hw)) ?_)
  rintro ⟨A8, c9⟩ -
  refine WL.q (Y.move (.pl rfl)) rfl ?_
  refine WL.q (Y.extract (.pl rfl) rfl) rfl ?_
  refine WL.q (Y.extract (.pl rfl) rfl) rfl ?_
  refine WL.q (Y.assign (.pl rfl)) rfl ?_
  refine WL.q (Y.assign (.pl rfl)) rfl ?_
  refine WL.next hQ2 (.cons (i := 3) rfl (.cons (i := 5) rfl (.cons (i := 6) rfl (.nil)))) ?_
  refine W.seq fun K3 hK3 => ?_
  -- region 2: zones.go:130
  refine W.seqR fun Q4 hQ4 => ?_
  refine WL.q (Y.move (.pl rfl)) rfl ?_
  refine WL.q (Y.neq (.pl rfl) (.pl rfl)) rfl ?_
  refine WL.next hQ4 (.cons (i := 3) rfl (.cons (i := 5) rfl (.cons (i := 6) rfl (.cons (i := 15) rfl (.nil))))) ?_
  refine W.cond (.pl rfl) (fun hC5 => ?_) (fun hC5 => ?_)
  · replace hF := cpos hC5 hF
    -- region 3: zones.go:131
    refine W.seqR fun Q6 hQ6 => ?_
    refine WL.q (Y.build (cs := (encBad (Bad.mk 0 0 0)).toArray) shape34 (.nil) (one_parts trivial) rfl) rfl ?_
    refine WL.q (Y.move (.pl rfl)) rfl ?_
    refine WL.q (Y.assign (.pl rfl)) rfl ?_
    refine WL.step (WO.storeBA (ds := (encBad (Bad.mk 0 0 0))) (cs' := (encBad (Bad.mk 0 0 0))) cells34 (.pl rfl) (.pl rfl) rfl (oneBad _) (i := 1) rfl (lel (o := 0) (l := 3) (m := 3) (by decide) rfl rfl) (putW rfl) ?_)
    refine WL.q (Y.assign (.pl rfl)) rfl ?_
    refine WL.next hQ6 (.cons (i := 2) rfl (.cons (i := 3) rfl (.cons (i := 4) rfl (.nil)))) ?_
    obtain rfl := Option.some.inj hF
    refine W.retV (fn := Try.f25) (vs := [.bool false, .agg (encBad (Bad.mk 0 0 0)).toArray, .int .i64 r7.2]) Try.results25 ⟨.tmp rfl, ⟨.cellA Try.underlying34 rfl cells34 rfl (i := 1) rfl rfl, ⟨.tmp rfl, trivial⟩⟩⟩ (fun _ _ h => h) (fun wz hw => ?_)
    exact hR _ _ ⟨rfl, (hw.pick [] rfl)⟩
  · replace hF := cneg hC5 hF
    refine W.skip ?_
    refine W.go hK3 (.cons (i := 3) rfl (.cons (i := 5) rfl (.nil))) ?_
    -- region 4: zones.go:133
    refine W.seqR fun Q7 hQ7 => ?_
    refine WL.q (Y.move (.pl rfl)) rfl ?_
    obtain ⟨r10, hr10, hF⟩ := bnd hF
    refine WL.step (WO.callM isGo60 (.cons (.pl rfl) (.nil)) rfl (fun wz hw => zones_clusters_ok (hr10) wz (SlIn.ofRow lenCall hw (i := 0) rfl)) ?_)
    rintro ⟨A11, c12, hd13⟩ -
    refine WL.q (Y.assign (.pl rfl)) rfl ?_
    refine WL.next hQ7 (.cons (i := 3) rfl (.cons (i := 5) rfl (.cons (i := 7) rfl (.nil)))) ?_
    -- region 5: zones.go:134
    refine W.seqR fun Q8 hQ8 => ?_
    refine WL.q (Y.move (.pl rfl)) rfl ?_
    refine WL.q (Y.move (.pl rfl)) rfl ?_
    obtain ⟨r14, hr14, hF⟩ := bnd hF
    refine WL.step (WO.call (γ := Unit) (fun g => .agg (encBad (Bad.mk r14.1 r14.2.1 r14.2.2)).toArray) (fun g => [cR encCall 7 A8 c9 48 r7.1, cN encNZonesCluster innNZonesCluster 9 A11 c12 148 hd13 r10, cBx b6 34 (encBad (Bad.mk 0 0 0))]) (fun g => True) isGo61 (.cons (.pl rfl) (.cons (.pl rfl) (.nil))) rfl (fun wz hw => zones_reads_ok (T := [cBx b6 34 (encBad (Bad.mk 0 0 0))]) (hr14) (hw.pick [1, 0, 2] rfl) ) ?_)
    rintro _ -
    refine WL.step (WO.alloc (cs := (encBad (Bad.mk 0 0 0)).toArray) zero34 rfl rfl fun b15 => ?_)
    refine WL.step (WO.storeBA (ds := (encBad (Bad.mk r14.1 r14.2.1 r14.2.2))) (cs' := (encBad (Bad.mk r14.1 r14.2.1 r14.2.2))) cells34 (.pl rfl) (.pl rfl) rfl (oneBad _) (i := 0) rfl (lel (o := 0) (l := 3) (m := 3) (by decide) rfl rfl) (putW rfl) ?_)
    refine WL.next hQ8 (.cons (i := 3) rfl (.cons (i := 7) rfl (.cons (i := 8) rfl (.nil)))) ?_
    obtain ⟨o9, hF9, hF⟩ := bnd hF
    refine W.join3 (Em := fun (Kind16 : Int) (A17 : Int) (B18 : Int) => []) (M := fun Kind16 A17 B18 => [cBx b6 34 (encBad (Bad.mk 0 0 0)), cBx b15 34 (encBad (Bad.mk Kind16 A17 B18))]) (I := fun Kind16 A17 B18 => (Kind16, A17, B18) = o9) (.cons (i := 3) rfl (.cons (i := 8) rfl (.nil))) (fun K10 hK10 => ?_) ?_
    · -- up to
      -- region 6: zones.go:135
      refine W.seqR fun Q11 hQ11 => ?_
      refine WL.q (Y.fieldAddr0 (off := 0) (ft := 3) Try.underlying34 rfl cells3 (.pl rfl)) rfl ?_
      refine WL.q (Y.loadB (v := .int .i64 r14.1) Try.underlying3 rfl (.pl rfl) (i := 0) rfl (rfl)) rfl ?_
      refine WL.q (Y.eql (.pl rfl) (.pl rfl)) rfl ?_
      refine WL.next hQ11 (.cons (i := 3) rfl (.cons (i := 7) rfl (.cons (i := 8) rfl (.cons (i := 25) rfl (.nil))))) ?_
      refine W.cond (.pl rfl) (fun hC12 => ?_) (fun hC12 => ?_)
      · replace hF9 := cpos hC12 hF9
        -- region 7: zones.go:136
        refine W.reg ?_
        refine WL.q (Y.move (.pl rfl)) rfl ?_
        obtain ⟨r19, hr19, hF9⟩ := bnd hF9
        refine WL.step (WO.call (γ := (Option Addr × Nat)) (fun g => .slice g.1 (r19).length g.2) (fun g => [cN encNZonesCluster innNZonesCluster 9 A11 c12 148 hd13 r10, cR encZone 4 g.1 g.2 105 r19, cBx b15 34 (encBad (Bad.mk r14.1 r14.2.1 r14.2.2)), cR encCall 7 A8 c9 48 r7.1, cBx b6 34 (encBad (Bad.mk 0 0 0))]) (fun g => True) isGo63 (.cons (.pl rfl) (.nil)) rfl (fun wz hw => zones_zonesOf_ok (T := [cBx b15 34 (encBad (Bad.mk r14.1 r14.2.1 r14.2.2)), cR encCall 7 A8 c9 48 r7.1, cBx b6 34 (encBad (Bad.mk 0 0 0))]) (hr19) (hw.pick [2, 0, 1, 3] rfl) ) ?_)
        rintro ⟨A20, c21⟩ -
        obtain ⟨r22, hr22, hF9⟩ := bnd hF9
        refine WL.step (WO.callP isGo62 (.cons (.pl rfl) (.nil)) rfl (fun wz hw => zones_pairs_ok (hr22) wz (SlIn.ofRow lenZone hw (i := 1) rfl)) ?_)
        refine WL.step (WO.storeBA (ds := (encBad (Bad.mk r22.1 r22.2.1 r22.2.2))) (cs' := (encBad (Bad.mk r22.1 r22.2.1 r22.2.2))) cells34 (.pl rfl) (.pl rfl) rfl (oneBad _) (i := 2) rfl (lel (o := 0) (l := 3) (m := 3) (by decide) rfl rfl) (putW rfl) ?_)
        refine WL.nil ?_
        exact W.joinAt3 hK10 r22.1 r22.2.1 r22.2.2 (Option.some.inj hF9) (.nil) (.cons (i := 3) rfl (.cons (i := 8) rfl (.nil))) (fun wz hw => hw.pick [4, 2] rfl)
      · replace hF9 := cneg hC12 hF9
        refine W.skip ?_
        exact W.joinAt3 hK10 r14.1 r14.2.1 r14.2.2 (Option.some.inj hF9) (.nil) (.cons (i := 3) rfl (.cons (i := 8) rfl (.nil))) (fun wz hw => hw.pick [3, 0] rfl)
    · -- behind
      rintro Kind16 A17 B18 rfl
      -- region 8: zones.go:138
      refine W.seqT 5 (by kernel_rfl) (by kernel_rfl) fun Q14 hQ14 => ?_
      refine WS.q (Y.fieldAddr0 (off := 0) (ft := 3) Try.underlying34 rfl cells3 (.pl rfl)) rfl ?_
      refine WS.q (Y.loadB (v := .int .i64 Kind16) Try.underlying3 rfl (.pl rfl) (i := 1) rfl (rfl)) rfl ?_
      refine WS.q (Y.eql (.pl rfl) (.pl rfl)) rfl ?_
      refine WS.q (Y.loadBA (ds := (encBad (Bad.mk Kind16 A17 B18))) Try.underlying34 rfl cells34 (.pl rfl) (i := 1) rfl rfl subW) rfl ?_
      refine WS.q (Y.assign (.pl rfl)) rfl ?_
      refine WS.tail ?_
      refine WL.step (WO.storeBA (ds := (encBad (Bad.mk Kind16 A17 B18))) (cs' := (encBad (Bad.mk Kind16 A17 B18))) cells34 (.pl rfl) (.pl rfl) rfl (oneBad _) (i := 0) rfl (lel (o := 0) (l := 3) (m := 3) (by decide) rfl rfl) (putW rfl) ?_)
      refine WL.q (Y.assign (.pl rfl)) rfl ?_
      refine WL.next hQ14 (.cons (i := 2) rfl (.cons (i := 3) rfl (.cons (i := 4) rfl (.nil)))) ?_
      obtain rfl := Option.some.inj hF
      refine W.retV (fn := Try.f25) (vs := [.bool (decide (Kind16 = 0)), .agg (encBad (Bad.mk Kind16 A17 B18)).toArray, .int .i64 0]) Try.results25 ⟨.tmp rfl, ⟨.cellA Try.underlying34 rfl cells34 rfl (i := 0) rfl rfl, ⟨.tmp rfl, trivial⟩⟩⟩ (fun _ _ h => h) (fun wz hw => ?_)
      exact hR _ _ ⟨rfl, (hw.pick [] rfl)⟩

def zones_Zones (N : Nat) (l1 : (List Event)) : Option ((List Zone) × Int) :=
  bd (zones_calls N l1) fun (r6 : ((List Call) × Int)) =>
  cond (!(decide (r6.2 = 0)))
    (some ([], r6.2))
    (bd (zones_clusters N r6.1) fun (r9 : (List ZonesCluster)) =>
    bd (zones_zonesOf N r9) fun (r13 : (List Zone)) =>
    some (r13, 0))

theorem zones_Zones_ok {N : Nat} {l1 : (List Event)} {res : ((List Zone) × Int)} (hF : zones_Zones N l1 = some res) (w : World) {v5 : Value} (hs4 : SlIn encEvent 4 w v5 l1) :
    Made Try.prog 67 [v5] w (fun g : (Option Addr × Nat) => .tuple #[.slice g.1 (res.1).length g.2, .int .i64 res.2]) (fun g => [cR encZone 4 g.1 g.2 105 res.1]) (fun g => True) := by
  obtain ⟨A2, c3, rfl, hcc3, hs4⟩ := hs4.form
  refine W.enter (n := 17) Try.func67 rfl rfl Sub.refl (by simp) (St.start w) fun R hR => ?_
  unfold zones_Zones at hF
  -- region 0: zones.go:81
  refine W.seqR fun Q1 hQ1 => ?_
  refine WL.q (Y.assign (.pl rfl)) rfl ?_
  refine WL.q (Y.assign (.pl rfl)) rfl ?_
  refine WL.next hQ1 (.cons (i := 0) rfl (.nil)) ?_
  -- region 1: zones.go:82
  refine W.seqR fun Q2 hQ2 => ?_
  refine WL.q (Y.move (.pl rfl)) rfl ?_
  obtain ⟨r6, hr6, hF⟩ := bnd hF
  refine WL.step (WO.callM isGo59 (.cons (.pl rfl) (.nil)) rfl (fun wz hw => zones_calls_ok (hr6) wz (hs4.mono hw)) ?_)
  rintro ⟨A7, c8⟩ -
  refine WL.q (Y.move (.pl rfl)) rfl ?_
  refine WL.q (Y.extract (.pl rfl) rfl) rfl ?_
  refine WL.q (Y.extract (.pl rfl) rfl) rfl ?_
  refine WL.q (Y.assign (.pl rfl)) rfl ?_
  refine WL.q (Y.assign (.pl rfl)) rfl ?_
  refine WL.next hQ2 (.cons (i := 4) rfl (.cons (i := 5) rfl (.nil))) ?_
  refine W.seq fun K3 hK3 => ?_
  -- region 2: zones.go:83
  refine W.seqR fun Q4 hQ4 => ?_
  refine WL.q (Y.move (.pl rfl)) rfl ?_
  refine WL.q (Y.neq (.pl rfl) (.pl rfl)) rfl ?_
  refine WL.next hQ4 (.cons (i := 4) rfl (.cons (i := 5) rfl (.cons (i := 12) rfl (.nil)))) ?_
  refine W.cond (.pl rfl) (fun hC5 => ?_) (fun hC5 => ?_)
  · replace hF := cpos hC5 hF
    -- region 3: zones.go:84
    refine W.seqR fun Q6 hQ6 => ?_
    refine WL.q (Y.move (.pl rfl)) rfl ?_
    refine WL.q (Y.assign (.pl rfl)) rfl ?_
    refine WL.q (Y.assign (.pl rfl)) rfl ?_
    refine WL.next hQ6 (.cons (i := 2) rfl (.cons (i := 3) rfl (.nil))) ?_
    obtain rfl := Option.some.inj hF
    refine W.retV (fn := Try.f67) (vs := [.slice none 0 0, .int .i64 r6.2]) Try.results67 ⟨.tmp rfl, ⟨.tmp rfl, trivial⟩⟩ (fun _ _ h => h) (fun wz hw => ?_)
    exact hR _ _ ⟨(none, 0), trivial, rfl, ((St.nilR (hw.pick [] rfl) encZone 4 105).pick [0] rfl)⟩
  · replace hF := cneg hC5 hF
    refine W.skip ?_
    refine W.go hK3 (.cons (i := 4) rfl (.nil)) ?_
    -- region 4: zones.go:86
    refine W.seqR fun Q7 hQ7 => ?_
    refine WL.q (Y.move (.pl rfl)) rfl ?_
    obtain ⟨r9, hr9, hF⟩ := bnd hF
    refine WL.step (WO.callM isGo60 (.cons (.pl rfl) (.nil)) rfl (fun wz hw => zones_clusters_ok (hr9) wz (SlIn.ofRow lenCall hw (i := 0) rfl)) ?_)
    rintro ⟨A10, c11, hd12⟩ -
    obtain ⟨r13, hr13, hF⟩ := bnd hF
    refine WL.step (WO.call (γ := (Option Addr × Nat)) (fun g => .slice g.1 (r13).length g.2) (fun g => [cN encNZonesCluster innNZonesCluster 9 A10 c11 148 hd12 r9, cR encZone 4 g.1 g.2 105 r13, cR encCall 7 A7 c8 48 r6.1]) (fun g => True) isGo63 (.cons (.pl rfl) (.nil)) rfl (fun wz hw => zones_zonesOf_ok (T := [cR encCall 7 A7 c8 48 r6.1]) (hr13) (hw.pick [0, 1] rfl) ) ?_)
    rintro ⟨A14, c15⟩ -
    refine WL.q (Y.assign (.pl rfl)) rfl ?_
    refine WL.q (Y.assign (.pl rfl)) rfl ?_
    refine WL.next hQ7 (.cons (i := 2) rfl (.cons (i := 3) rfl (.nil))) ?_
    obtain rfl := Option.some.inj hF
    refine W.retV (fn := Try.f67) (vs := [.slice A14 (r13).length c15, .int .i64 0]) Try.results67 ⟨.tmp rfl, ⟨.tmp rfl, trivial⟩⟩ (fun _ _ h => h) (fun wz hw => ?_)
    exact hR _ _ ⟨(A14, c15), trivial, rfl, (hw.pick [1] rfl)⟩

end Go.Proofs.Ytolneilkgjglkaa
