/- Sites: what their code computes, and the walks. -/
import Derived.Test.YteklmleiiiodfaaChecked
import Derived.Test.YteklmleiiiodfaaBor
set_option linter.unusedVariables false
set_option linter.unusedSimpArgs false
set_option linter.unusedSectionVars false
set_option maxRecDepth 100000
namespace Go.Proofs.Yteklmleiiiodfaa
open Go.RowKit
structure Ask where
  thing : Int
  kind : Int
  arg : Int
deriving DecidableEq
def Ask.z : Ask := ⟨0, 0, 0⟩
def encAsk (x : Ask) : List Value := (Value.int .i64 x.thing :: (Value.int .i64 x.kind :: (Value.int .i64 x.arg :: [])))
theorem lenAsk (x : Ask) : (encAsk x).length = 3 := rfl
theorem eqAsk (x y : Ask) : eqCells [true, true, true] (encAsk x) (encAsk y) = some (decide (x = y)) := by
  cases x; cases y; simp [encAsk, eqCells, Ask.mk.injEq, Bool.beq_eq_decide_eq]
theorem oneAsk : ∀ x, ∀ v ∈ encAsk x, v.oneCell' = true := fun x => (one_cons rfl (one_cons rfl (one_cons rfl one_nil)))
structure Act where
  kind : Int
  a : Int
deriving DecidableEq
def Act.z : Act := ⟨0, 0⟩
def encAct (x : Act) : List Value := (Value.int .i64 x.kind :: (Value.int .i64 x.a :: []))
theorem lenAct (x : Act) : (encAct x).length = 2 := rfl
theorem eqAct (x y : Act) : eqCells [true, true] (encAct x) (encAct y) = some (decide (x = y)) := by
  cases x; cases y; simp [encAct, eqCells, Act.mk.injEq, Bool.beq_eq_decide_eq]
theorem oneAct : ∀ x, ∀ v ∈ encAct x, v.oneCell' = true := fun x => (one_cons rfl (one_cons rfl one_nil))
structure Site where
  stamp : Int
  who : Int
  value : Int
  down : Bool
deriving DecidableEq
def Site.z : Site := ⟨0, 0, 0, false⟩
def encSite (x : Site) : List Value := (Value.int .i64 x.stamp :: (Value.int .i64 x.who :: (Value.int .i64 x.value :: (Value.bool x.down :: []))))
theorem lenSite (x : Site) : (encSite x).length = 4 := rfl
theorem eqSite (x y : Site) : eqCells [true, true, true, false] (encSite x) (encSite y) = some (decide (x = y)) := by
  cases x; cases y; simp [encSite, eqCells, Site.mk.injEq, Bool.beq_eq_decide_eq]
theorem oneSite : ∀ x, ∀ v ∈ encSite x, v.oneCell' = true := fun x => (one_cons rfl (one_cons rfl (one_cons rfl (one_cons rfl one_nil))))
structure SitesTag where
  stamp : Int
  who : Int
deriving DecidableEq
def SitesTag.z : SitesTag := ⟨0, 0⟩
def encSitesTag (x : SitesTag) : List Value := (Value.int .i64 x.stamp :: (Value.int .i64 x.who :: []))
theorem lenSitesTag (x : SitesTag) : (encSitesTag x).length = 2 := rfl
theorem eqSitesTag (x y : SitesTag) : eqCells [true, true] (encSitesTag x) (encSitesTag y) = some (decide (x = y)) := by
  cases x; cases y; simp [encSitesTag, eqCells, SitesTag.mk.injEq, Bool.beq_eq_decide_eq]
theorem oneSitesTag : ∀ x, ∀ v ∈ encSitesTag x, v.oneCell' = true := fun x => (one_cons rfl (one_cons rfl one_nil))
structure SitesProcess where
  program : List Ask
  pending : Bool
  round : Int
  store : Bool
  replies : Int
  best : SitesTag
  value : Int
deriving DecidableEq
def SitesProcess.z : SitesProcess := ⟨[], false, 0, false, 0, SitesTag.z, 0⟩
def encNSitesProcess (h : Hd) (x : SitesProcess) : List Value := (Value.slice h.1 x.program.length h.2 :: (Value.bool x.pending :: (Value.int .i64 x.round :: (Value.bool x.store :: (Value.int .i64 x.replies :: (encSitesTag x.best ++ (Value.int .i64 x.value :: [])))))))
def innNSitesProcess (wq : World) (h : Hd) (x : SitesProcess) : List Chunk := [cF (SlIn encAsk 3 wq (.slice h.1 x.program.length h.2) x.program)]
theorem lenNSitesProcess (h : Hd) (x : SitesProcess) : (encNSitesProcess h x).length = 8 := rfl
theorem oneNSitesProcess (h : Hd) (x : SitesProcess) : ∀ v ∈ encNSitesProcess h x, v.oneCell' = true := (one_cons rfl (one_cons rfl (one_cons rfl (one_cons rfl (one_cons rfl (one_app (oneSitesTag _) (one_cons rfl one_nil)))))))
theorem nilNSitesProcess (wq : World) : ∀ c ∈ innNSitesProcess wq ((none, 0) : Hd) SitesProcess.z, c.own = [] ∧ ∀ f, c.ok f := by
  intro c hc
  simp only [innNSitesProcess, List.mem_cons, List.not_mem_nil, or_false] at hc
  subst hc
  exact ⟨rfl, fun f => SlIn.nil0⟩
structure SitesLetter where
  who : Int
  round : Int
  site : Int
  store : Bool
  tag : SitesTag
  value : Int
  delivered : Bool
  received : Bool
deriving DecidableEq
def SitesLetter.z : SitesLetter := ⟨0, 0, 0, false, SitesTag.z, 0, false, false⟩
def encSitesLetter (x : SitesLetter) : List Value := (Value.int .i64 x.who :: (Value.int .i64 x.round :: (Value.int .i64 x.site :: (Value.bool x.store :: (encSitesTag x.tag ++ (Value.int .i64 x.value :: (Value.bool x.delivered :: (Value.bool x.received :: []))))))))
theorem lenSitesLetter (x : SitesLetter) : (encSitesLetter x).length = 9 := rfl
theorem oneSitesLetter : ∀ x, ∀ v ∈ encSitesLetter x, v.oneCell' = true := fun x => (one_cons rfl (one_cons rfl (one_cons rfl (one_cons rfl (one_app (oneSitesTag _) (one_cons rfl (one_cons rfl (one_cons rfl one_nil))))))))
structure Event where
  who : Int
  thing : Int
  kind : Int
  value : Int
deriving DecidableEq
def Event.z : Event := ⟨0, 0, 0, 0⟩
def encEvent (x : Event) : List Value := (Value.int .i64 x.who :: (Value.int .i64 x.thing :: (Value.int .i64 x.kind :: (Value.int .i64 x.value :: []))))
theorem lenEvent (x : Event) : (encEvent x).length = 4 := rfl
theorem eqEvent (x y : Event) : eqCells [true, true, true, true] (encEvent x) (encEvent y) = some (decide (x = y)) := by
  cases x; cases y; simp [encEvent, eqCells, Event.mk.injEq, Bool.beq_eq_decide_eq]
theorem oneEvent : ∀ x, ∀ v ∈ encEvent x, v.oneCell' = true := fun x => (one_cons rfl (one_cons rfl (one_cons rfl (one_cons rfl one_nil))))
theorem cells3 : Try.prog.cellsOf 3 = 0 + 1 := by kernel_rfl
theorem cells4 : Try.prog.cellsOf 4 = 0 + 1 := by kernel_rfl
theorem cells25 : Try.prog.cellsOf 25 = 1 + 1 := by kernel_rfl
theorem cells26 : Try.prog.cellsOf 26 = 0 + 1 := by kernel_rfl
theorem cells27 : Try.prog.cellsOf 27 = 0 + 1 := by kernel_rfl
theorem cells39 : Try.prog.cellsOf 39 = 3 + 1 := by kernel_rfl
theorem cells41 : Try.prog.cellsOf 41 = 0 + 1 := by kernel_rfl
theorem cells58 : Try.prog.cellsOf 58 = 2 + 1 := by kernel_rfl
theorem cells92 : Try.prog.cellsOf 92 = 0 + 1 := by kernel_rfl
theorem cells93 : Try.prog.cellsOf 93 = 0 + 1 := by kernel_rfl
theorem cells97 : Try.prog.cellsOf 97 = 1 + 1 := by kernel_rfl
theorem cells99 : Try.prog.cellsOf 99 = 7 + 1 := by kernel_rfl
theorem cells172 : Try.prog.cellsOf 172 = 8 + 1 := by kernel_rfl
theorem isGo51 : IsGo Try.prog 51 := ⟨_, Try.func51, by kernel_rfl, rfl⟩
theorem isGo52 : IsGo Try.prog 52 := ⟨_, Try.func52, by kernel_rfl, rfl⟩
theorem isGo53 : IsGo Try.prog 53 := ⟨_, Try.func53, by kernel_rfl, rfl⟩
theorem isGo54 : IsGo Try.prog 54 := ⟨_, Try.func54, by kernel_rfl, rfl⟩
theorem isGo56 : IsGo Try.prog 56 := ⟨_, Try.func56, by kernel_rfl, rfl⟩
theorem isGo63 : IsGo Try.prog 63 := ⟨_, Try.func63, by kernel_rfl, rfl⟩
theorem isGo86 : IsGo Try.prog 86 := ⟨_, Try.func86, by kernel_rfl, rfl⟩
theorem isGo87 : IsGo Try.prog 87 := ⟨_, Try.func87, by kernel_rfl, rfl⟩
theorem isGo88 : IsGo Try.prog 88 := ⟨_, Try.func88, by kernel_rfl, rfl⟩
theorem isGo89 : IsGo Try.prog 89 := ⟨_, Try.func89, by kernel_rfl, rfl⟩
theorem isGo90 : IsGo Try.prog 90 := ⟨_, Try.func90, by kernel_rfl, rfl⟩
theorem isGo91 : IsGo Try.prog 91 := ⟨_, Try.func91, by kernel_rfl, rfl⟩
theorem isGo92 : IsGo Try.prog 92 := ⟨_, Try.func92, by kernel_rfl, rfl⟩
theorem isGo117 : IsGo Try.prog 117 := ⟨_, Try.func117, by kernel_rfl, rfl⟩
theorem isGo121 : IsGo Try.prog 121 := ⟨_, Try.func121, by kernel_rfl, rfl⟩
theorem isGo122 : IsGo Try.prog 122 := ⟨_, Try.func122, by kernel_rfl, rfl⟩
theorem isGo123 : IsGo Try.prog 123 := ⟨_, Try.func123, by kernel_rfl, rfl⟩
theorem isGo124 : IsGo Try.prog 124 := ⟨_, Try.func124, by kernel_rfl, rfl⟩
theorem isGo142 : IsGo Try.prog 142 := ⟨_, Try.func142, by kernel_rfl, rfl⟩
theorem zero25 : ∃ i, Try.prog.info? 25 = some i ∧ i.zero = some (Value.agg #[(Value.int .i64 0), (Value.int .i64 0)]) := ⟨_, rfl, by kernel_rfl⟩
theorem zero58 : ∃ i, Try.prog.info? 58 = some i ∧ i.zero = some (Value.agg #[(Value.int .i64 0), (Value.int .i64 0), (Value.int .i64 0)]) := ⟨_, rfl, by kernel_rfl⟩
theorem zero97 : ∃ i, Try.prog.info? 97 = some i ∧ i.zero = some (Value.agg #[(Value.int .i64 0), (Value.int .i64 0)]) := ⟨_, rfl, by kernel_rfl⟩
theorem bz3 : ∃ i, Try.prog.info? 3 = some i ∧ i.zero = some (Value.int .i64 0) ∧ i.size = 1 := ⟨_, rfl, by kernel_rfl, by kernel_rfl⟩
theorem bz34 : ∃ i, Try.prog.info? 34 = some i ∧ i.zero = some (Value.agg #[(Value.int .i64 0), (Value.int .i64 0), (Value.int .i64 0), (Value.int .i64 0)]) ∧ i.size = 4 := ⟨_, rfl, by kernel_rfl, by kernel_rfl⟩
theorem bz99 : ∃ i, Try.prog.info? 99 = some i ∧ i.zero = some (Value.agg #[(Value.slice none 0 0), (Value.bool false), (Value.int .i64 0), (Value.bool false), (Value.int .i64 0), (Value.int .i64 0), (Value.int .i64 0), (Value.int .i64 0)]) ∧ i.size = 8 := ⟨_, rfl, by kernel_rfl, by kernel_rfl⟩
theorem bz172 : ∃ i, Try.prog.info? 172 = some i ∧ i.zero = some (Value.agg #[(Value.int .i64 0), (Value.int .i64 0), (Value.int .i64 0), (Value.bool false), (Value.int .i64 0), (Value.int .i64 0), (Value.int .i64 0), (Value.bool false), (Value.bool false)]) ∧ i.size = 9 := ⟨_, rfl, by kernel_rfl, by kernel_rfl⟩
theorem mka39 : ∃ i z, Try.prog.info? 39 = some i ∧ i.zero = some z ∧ i.size = 4 ∧ i.bytes = 32 ∧ z.cells = ([(Value.int .i64 0), (Value.int .i64 0), (Value.int .i64 0), (Value.bool false)] : List Value).toArray ∧ ([(Value.int .i64 0), (Value.int .i64 0), (Value.int .i64 0), (Value.bool false)] : List Value).length = 4 ∧ 0 < 4 := ⟨_, (Value.agg #[(Value.int .i64 0), (Value.int .i64 0), (Value.int .i64 0), (Value.bool false)]), rfl, by kernel_rfl, by kernel_rfl, by kernel_rfl, rfl, rfl, by decide⟩
theorem ap34 : ∃ i z, Try.prog.info? 34 = some i ∧ i.zero = some z ∧ i.size = 4 ∧ i.bytes = 32 ∧ z.cells.size = 4 ∧ 0 < 4 := ⟨_, (Value.agg #[(Value.int .i64 0), (Value.int .i64 0), (Value.int .i64 0), (Value.int .i64 0)]), rfl, by kernel_rfl, by kernel_rfl, by kernel_rfl, by kernel_rfl, by decide⟩
theorem ap99 : ∃ i z, Try.prog.info? 99 = some i ∧ i.zero = some z ∧ i.size = 8 ∧ i.bytes = 80 ∧ z.cells.size = 8 ∧ 0 < 8 := ⟨_, (Value.agg #[(Value.slice none 0 0), (Value.bool false), (Value.int .i64 0), (Value.bool false), (Value.int .i64 0), (Value.int .i64 0), (Value.int .i64 0), (Value.int .i64 0)]), rfl, by kernel_rfl, by kernel_rfl, by kernel_rfl, by kernel_rfl, by decide⟩
theorem ap172 : ∃ i z, Try.prog.info? 172 = some i ∧ i.zero = some z ∧ i.size = 9 ∧ i.bytes = 64 ∧ z.cells.size = 9 ∧ 0 < 9 := ⟨_, (Value.agg #[(Value.int .i64 0), (Value.int .i64 0), (Value.int .i64 0), (Value.bool false), (Value.int .i64 0), (Value.int .i64 0), (Value.int .i64 0), (Value.bool false), (Value.bool false)]), rfl, by kernel_rfl, by kernel_rfl, by kernel_rfl, by kernel_rfl, by decide⟩
theorem shape34 : Shape Try.prog 34 [(0, 1), (1, 1), (2, 1), (3, 1)] #[(Value.int .i64 0), (Value.int .i64 0), (Value.int .i64 0), (Value.int .i64 0)] := ⟨_, _, Value.agg #[(Value.int .i64 0), (Value.int .i64 0), (Value.int .i64 0), (Value.int .i64 0)], Try.underlying34, rfl, by kernel_rfl, rfl, by kernel_rfl, by decide⟩
theorem shape95 : Shape Try.prog 95 [(0, 1), (1, 1), (2, 1), (3, 1), (4, 1)] #[(Value.bool false), (Value.slice none 0 0), (Value.slice none 0 0), (Value.slice none 0 0), (Value.slice none 0 0)] := ⟨_, _, Value.agg #[(Value.bool false), (Value.slice none 0 0), (Value.slice none 0 0), (Value.slice none 0 0), (Value.slice none 0 0)], Try.underlying95, rfl, by kernel_rfl, rfl, by kernel_rfl, by decide⟩
theorem shape97 : Shape Try.prog 97 [(0, 1), (1, 1)] #[(Value.int .i64 0), (Value.int .i64 0)] := ⟨_, _, Value.agg #[(Value.int .i64 0), (Value.int .i64 0)], Try.underlying97, rfl, by kernel_rfl, rfl, by kernel_rfl, by decide⟩
theorem shape99 : Shape Try.prog 99 [(0, 1), (1, 1), (2, 1), (3, 1), (4, 1), (5, 2), (7, 1)] #[(Value.slice none 0 0), (Value.bool false), (Value.int .i64 0), (Value.bool false), (Value.int .i64 0), (Value.int .i64 0), (Value.int .i64 0), (Value.int .i64 0)] := ⟨_, _, Value.agg #[(Value.slice none 0 0), (Value.bool false), (Value.int .i64 0), (Value.bool false), (Value.int .i64 0), (Value.int .i64 0), (Value.int .i64 0), (Value.int .i64 0)], Try.underlying99, rfl, by kernel_rfl, rfl, by kernel_rfl, by decide⟩
theorem shape172 : Shape Try.prog 172 [(0, 1), (1, 1), (2, 1), (3, 1), (4, 2), (6, 1), (7, 1), (8, 1)] #[(Value.int .i64 0), (Value.int .i64 0), (Value.int .i64 0), (Value.bool false), (Value.int .i64 0), (Value.int .i64 0), (Value.int .i64 0), (Value.bool false), (Value.bool false)] := ⟨_, _, Value.agg #[(Value.int .i64 0), (Value.int .i64 0), (Value.int .i64 0), (Value.bool false), (Value.int .i64 0), (Value.int .i64 0), (Value.int .i64 0), (Value.bool false), (Value.bool false)], Try.underlying172, rfl, by kernel_rfl, rfl, by kernel_rfl, by decide⟩
def history_Types_1 (N : Nat) (t1 : Int) : Option Unit :=
  some ()

theorem history_Types_1_ok {N : Nat} {t1 : Int} {res : Unit} (hF : history_Types_1 N t1 = some res) (w : World) :
    Pure Try.prog 89 [.int .i64 t1] w (.bool ((decide (t1 < 1)) || (decide (5 < t1)))) := by
  refine W.enter (n := 9) Try.func89 rfl rfl Sub.refl (by simp) (St.start w) fun R hR => ?_
  unfold history_Types_1 at hF
  -- region 0: history.go:54
  refine W.seqR fun Q1 hQ1 => ?_
  refine WL.q (Y.assign (.pl rfl)) rfl ?_
  refine WL.next hQ1 (.cons (i := 0) rfl (.nil)) ?_
  -- region 1: history.go:54
  refine W.seqR fun Q2 hQ2 => ?_
  refine WL.q (Y.move (.pl rfl)) rfl ?_
  refine WL.q (Y.lss (.pl rfl) (.pl rfl)) rfl ?_
  refine WL.q (Y.move (.pl rfl)) rfl ?_
  refine WL.g (.pl rfl rfl rfl) (fun hg => Y.move (.pl rfl)) rfl ?_
  refine WL.g (.pl rfl rfl rfl) (fun hg => Y.gtr (.gd (hg) rfl) (.pl rfl)) rfl ?_
  refine WL.q (Y.or (.pl rfl) (fun h2 => .gd (eqf h2) rfl)) rfl ?_
  refine WL.q (Y.assign (.pl rfl)) rfl ?_
  refine WL.next hQ2 (.cons (i := 2) rfl (.nil)) ?_
  obtain rfl := Option.some.inj hF
  refine W.retV (fn := Try.f89) (vs := [.bool ((decide (t1 < 1)) || (decide (5 < t1)))]) Try.results89 ⟨.tmp rfl, trivial⟩ (fun _ _ h => h) (fun wz hw => ?_)
  exact hR _ _ ⟨rfl, (hw.pick [] rfl)⟩

def slices_IndexFunc_int_int_L3 (N : Nat) (s1 : (List Int)) : Int → Option (Int ⊕ (Unit ⊕ Int))
  | v6 =>
    cond (decide (v6 < ((s1).length : Int)))
      (bd (ix s1 v6) fun (x7 : Int) =>
      bd (history_Types_1 N x7) fun (r8 : Unit) =>
      cond ((decide (x7 < 1)) || (decide (5 < x7)))
        (some (.inr (.inr v6)))
        (ck (ok64 (v6 + 1)) <|
        some (.inl (v6 + 1))))
      (some (.inr (.inl ())))

def slices_IndexFunc_int_int (N : Nat) (s1 : (List Int)) : Option Int :=
  bd (α := (Unit ⊕ Int)) (iter (slices_IndexFunc_int_int_L3 N s1) N 0) <|
  Sum.elim (fun _ => 
    some (-1)) (fun p => some p)

theorem slices_IndexFunc_int_int_ok {N : Nat} {s1 : (List Int)} {res : Int} (hF : slices_IndexFunc_int_int N s1 = some res) (w : World) {v5 : Value} (hs4 : SlIn (eI .i64) 1 w v5 s1) :
    Pure Try.prog 123 [v5, .func (.func 89) #[] #[]] w (.int .i64 res) := by
  obtain ⟨A2, c3, rfl, hcc3, hs4⟩ := hs4.form
  refine W.enter (n := 19) Try.func123 rfl rfl Sub.refl (by simp) (St.start w) fun R hR => ?_
  unfold slices_IndexFunc_int_int at hF
  -- region 0: slices.go:107
  refine W.seqR fun Q1 hQ1 => ?_
  refine WL.q (Y.assign (.pl rfl)) rfl ?_
  refine WL.next hQ1 (.cons (i := 0) rfl (.cons (i := 1) rfl (.nil))) ?_
  obtain ⟨o2, hF2, hF⟩ := bnd hF
  refine W.join0 (Em := []) (M := []) (I := (.inl ()) = o2) (.nil) (fun K3 hK3 => ?_) ?_
  · -- up to
    -- region 1: slices.go:108
    refine W.seqR fun Q4 hQ4 => ?_
    refine WL.q (Y.move (.pl rfl)) rfl ?_
    refine WL.q (Y.len Try.underlying47 (.pl rfl)) rfl ?_
    refine WL.q (Y.move (.pl rfl)) rfl ?_
    refine WL.next hQ4 (.cons (i := 0) rfl (.cons (i := 1) rfl (.cons (i := 7) rfl (.cons (i := 8) rfl (.nil))))) ?_
    refine W.block ?_
    refine W.loop1 (Em := fun (v6 : Int) => [(8, .int .i64 v6)]) (M := fun v6 => []) (I := fun v6 k5 => iter (slices_IndexFunc_int_int_L3 N s1) k5 v6 = some o2) 0 N (hF2) (.cons rfl (.nil)) (.cons (i := 0) rfl (.cons (i := 1) rfl (.cons (i := 7) rfl (.nil)))) (fun wz hw => hw.pick [] rfl) (fun v6 k5 hI K6 hK6 => ?_)
    obtain ⟨k5, t5, rfl, hF5, hN5⟩ := iter_step hI
    -- region 2: slices.go:108
    refine W.seqR fun Q7 hQ7 => ?_
    refine WL.q (Y.lss (.pl rfl) (.pl rfl)) rfl ?_
    refine WL.next hQ7 (.cons (i := 0) rfl (.cons (i := 1) rfl (.cons (i := 7) rfl (.cons (i := 8) rfl (.cons (i := 9) rfl (.nil)))))) ?_
    refine W.seq fun K8 hK8 => ?_
    refine W.cond (.pl rfl) (fun hC9 => ?_) (fun hC9 => ?_)
    · replace hF5 := cpos hC9 hF5
      refine W.skip ?_
      refine W.go hK8 (.cons (i := 0) rfl (.cons (i := 1) rfl (.cons (i := 7) rfl (.cons (i := 8) rfl (.nil))))) ?_
      refine W.seq fun K10 hK10 => ?_
      refine W.block ?_
      -- region 3: slices.go:108
      refine W.seqR fun Q11 hQ11 => ?_
      refine WL.q (Y.move (.pl rfl)) rfl ?_
      refine WL.q (Y.assign (.pl rfl)) rfl ?_
      refine WL.next hQ11 (.cons (i := 0) rfl (.cons (i := 1) rfl (.cons (i := 5) rfl (.cons (i := 7) rfl (.cons (i := 8) rfl (.nil)))))) ?_
      -- region 4: slices.go:109
      refine W.seqR fun Q12 hQ12 => ?_
      refine WL.q (Y.move (.pl rfl)) rfl ?_
      refine WL.q (Y.move (.pl rfl)) rfl ?_
      refine WL.q (Y.move (.pl rfl)) rfl ?_
      obtain ⟨x7, hx7, hF5⟩ := bnd hF5
      refine WL.q (Y.slEl Try.underlying47 cells3 hs4 (.pl rfl) (.pl rfl) (ix_lt (hx7))) rfl ?_
      refine WL.q (Y.loadS (enc := (eI .i64)) (v := .int .i64 x7) (j := 0) Try.underlying3 rfl hs4 (.pl rfl) (hx7) rfl rfl) rfl ?_
      obtain ⟨r8, hr8, hF5⟩ := bnd hF5
      refine WL.step (WO.callG (γ := Unit) (first := []) (cap := []) (fun g => .bool ((decide (x7 < 1)) || (decide (5 < x7)))) (fun g => []) (fun g => True) isGo89 (.pl rfl) (.cons (.pl rfl) (.nil)) rfl (fun wz hw => (history_Types_1_ok (hr8) wz ).calls hw) ?_)
      rintro _ -
      refine WL.next hQ12 (.cons (i := 0) rfl (.cons (i := 1) rfl (.cons (i := 5) rfl (.cons (i := 7) rfl (.cons (i := 8) rfl (.cons (i := 16) rfl (.nil))))))) ?_
      refine W.cond (.pl rfl) (fun hC13 => ?_) (fun hC13 => ?_)
      · replace hF5 := cpos hC13 hF5
        -- region 5: slices.go:110
        refine W.seqR fun Q14 hQ14 => ?_
        refine WL.q (Y.move (.pl rfl)) rfl ?_
        refine WL.q (Y.assign (.pl rfl)) rfl ?_
        refine WL.next hQ14 (.cons (i := 4) rfl (.nil)) ?_
        obtain rfl := Option.some.inj hF5
        obtain rfl := einr hN5
        obtain rfl := Option.some.inj hF
        refine W.retV (fn := Try.f123) (vs := [.int .i64 v6]) Try.results123 ⟨.tmp rfl, trivial⟩ (fun _ _ h => h) (fun wz hw => ?_)
        exact hR _ _ ⟨rfl, (hw.pick [] rfl)⟩
      · replace hF5 := cneg hC13 hF5
        refine W.skip ?_
        refine W.go hK10 (.cons (i := 0) rfl (.cons (i := 1) rfl (.cons (i := 7) rfl (.cons (i := 8) rfl (.nil))))) ?_
        -- region 6: slices.go:108
        refine W.reg ?_
        obtain ⟨hk9, hF5⟩ := ckh hF5
        refine WL.q (Y.add (.pl rfl) (.pl rfl) (ok64_lt (hk9))) rfl ?_
        refine WL.q (Y.move (.pl rfl)) rfl ?_
        refine WL.nil ?_
        obtain rfl := Option.some.inj hF5
        exact W.again1 hK6 (v6 + 1) k5 hN5 (Nat.lt_succ_self _) (.cons rfl (.nil)) (.cons (i := 0) rfl (.cons (i := 1) rfl (.cons (i := 7) rfl (.nil)))) (fun wz hw => hw.pick [] rfl)
    · replace hF5 := cneg hC9 hF5
      refine W.exit ?_
      obtain rfl := Option.some.inj hF5
      exact W.joinAt0 hK3  (einr hN5) (.nil) (.nil) (fun wz hw => hw.pick [] rfl)
  · -- behind
    rintro  rfl
    -- region 7: slices.go:113
    refine W.seqR fun Q16 hQ16 => ?_
    refine WL.q (Y.assign (.pl rfl)) rfl ?_
    refine WL.next hQ16 (.cons (i := 4) rfl (.nil)) ?_
    obtain rfl := Option.some.inj hF
    refine W.retV (fn := Try.f123) (vs := [.int .i64 (-1)]) Try.results123 ⟨.tmp rfl, trivial⟩ (fun _ _ h => h) (fun wz hw => ?_)
    exact hR _ _ ⟨rfl, (hw.pick [] rfl)⟩

def slices_ContainsFunc_int_int (N : Nat) (s1 : (List Int)) : Option Bool :=
  bd (slices_IndexFunc_int_int N s1) fun (r6 : Int) =>
  some (decide (0 ≤ r6))

theorem slices_ContainsFunc_int_int_ok {N : Nat} {s1 : (List Int)} {res : Bool} (hF : slices_ContainsFunc_int_int N s1 = some res) (w : World) {v5 : Value} (hs4 : SlIn (eI .i64) 1 w v5 s1) :
    Pure Try.prog 90 [v5, .func (.func 89) #[] #[]] w (.bool res) := by
  obtain ⟨A2, c3, rfl, hcc3, hs4⟩ := hs4.form
  refine W.enter (n := 9) Try.func90 rfl rfl Sub.refl (by simp) (St.start w) fun R hR => ?_
  unfold slices_ContainsFunc_int_int at hF
  -- region 0: slices.go:124
  refine W.seqR fun Q1 hQ1 => ?_
  refine WL.q (Y.assign (.pl rfl)) rfl ?_
  refine WL.next hQ1 (.cons (i := 0) rfl (.cons (i := 1) rfl (.nil))) ?_
  -- region 1: slices.go:125
  refine W.seqR fun Q2 hQ2 => ?_
  refine WL.q (Y.move (.pl rfl)) rfl ?_
  refine WL.q (Y.move (.pl rfl)) rfl ?_
  obtain ⟨r6, hr6, hF⟩ := bnd hF
  refine WL.step (WO.callP isGo123 (.cons (.pl rfl) (.cons (.pl rfl) (.nil))) rfl (fun wz hw => slices_IndexFunc_int_int_ok (hr6) wz (hs4.mono hw)) ?_)
  refine WL.q (Y.geq (.pl rfl) (.pl rfl)) rfl ?_
  refine WL.q (Y.assign (.pl rfl)) rfl ?_
  refine WL.next hQ2 (.cons (i := 4) rfl (.nil)) ?_
  obtain rfl := Option.some.inj hF
  refine W.retV (fn := Try.f90) (vs := [.bool (decide (0 ≤ r6))]) Try.results90 ⟨.tmp rfl, trivial⟩ (fun _ _ h => h) (fun wz hw => ?_)
  exact hR _ _ ⟨rfl, (hw.pick [] rfl)⟩

def history_Types (N : Nat) (types1 : (List Int)) : Option Int :=
  bd ((cond (((decide (((types1).length : Int) < 1)) || (decide (4 < ((types1).length : Int)))) == false) (slices_ContainsFunc_int_int N types1) (some false))) fun (r6 : Bool) =>
  cond (((decide (((types1).length : Int) < 1)) || (decide (4 < ((types1).length : Int)))) || r6)
    (some 1)
    (some 0)

theorem history_Types_ok {N : Nat} {types1 : (List Int)} {res : Int} (hF : history_Types N types1 = some res) (w : World) {v5 : Value} (hs4 : SlIn (eI .i64) 1 w v5 types1) :
    Pure Try.prog 56 [v5] w (.int .i64 res) := by
  obtain ⟨A2, c3, rfl, hcc3, hs4⟩ := hs4.form
  refine W.enter (n := 17) Try.func56 rfl rfl Sub.refl (by simp) (St.start w) fun R hR => ?_
  unfold history_Types at hF
  -- region 0: history.go:53
  refine W.seqR fun Q1 hQ1 => ?_
  refine WL.q (Y.assign (.pl rfl)) rfl ?_
  refine WL.next hQ1 (.cons (i := 0) rfl (.nil)) ?_
  -- region 1: history.go:54
  refine W.seqR fun Q2 hQ2 => ?_
  refine WL.q (Y.assign (.pl rfl)) rfl ?_
  refine WL.next hQ2 (.cons (i := 0) rfl (.cons (i := 3) rfl (.nil))) ?_
  refine W.seq fun K3 hK3 => ?_
  -- region 2: history.go:55
  refine W.seqR fun Q4 hQ4 => ?_
  refine WL.q (Y.move (.pl rfl)) rfl ?_
  refine WL.q (Y.len Try.underlying47 (.pl rfl)) rfl ?_
  refine WL.q (Y.lss (.pl rfl) (.pl rfl)) rfl ?_
  refine WL.q (Y.move (.pl rfl)) rfl ?_
  refine WL.g (.pl rfl rfl rfl) (fun hg => Y.move (.pl rfl)) rfl ?_
  refine WL.g (.pl rfl rfl rfl) (fun hg => Y.len Try.underlying47 (.gd (hg) rfl)) rfl ?_
  refine WL.g (.pl rfl rfl rfl) (fun hg => Y.gtr (.gd (hg) rfl) (.pl rfl)) rfl ?_
  refine WL.q (Y.or (.pl rfl) (fun h2 => .gd (eqf h2) rfl)) rfl ?_
  refine WL.q (Y.move (.pl rfl)) rfl ?_
  refine WL.g (.pl rfl rfl rfl) (fun hg => Y.move (.pl rfl)) rfl ?_
  refine WL.g (.pl rfl rfl rfl) (fun hg => Y.move (.pl rfl)) rfl ?_
  obtain ⟨r6, hr6, hF⟩ := bnd hF
  refine WL.gP (.pl rfl rfl rfl) isGo90 (fun hg => (.cons (.gd (hg) rfl) (.cons (.gd (hg) rfl) (.nil)))) rfl (fun hg wz hw => slices_ContainsFunc_int_int_ok (gpos hg hr6) wz (hs4.mono hw)) ?_
  refine WL.q (Y.or (.pl rfl) (fun h2 => .gd (eqf h2) rfl)) rfl ?_
  refine WL.next hQ4 (.cons (i := 16) rfl (.nil)) ?_
  refine W.cond (.pl rfl) (fun hC5 => ?_) (fun hC5 => ?_)
  · replace hF := cpos hC5 hF
    -- region 3: history.go:56
    refine W.seqR fun Q6 hQ6 => ?_
    refine WL.q (Y.assign (.pl rfl)) rfl ?_
    refine WL.next hQ6 (.cons (i := 2) rfl (.nil)) ?_
    obtain rfl := Option.some.inj hF
    refine W.retV (fn := Try.f56) (vs := [.int .i64 1]) Try.results56 ⟨.tmp rfl, trivial⟩ (fun _ _ h => h) (fun wz hw => ?_)
    exact hR _ _ ⟨rfl, (hw.pick [] rfl)⟩
  · replace hF := cneg hC5 hF
    refine W.skip ?_
    refine W.go hK3 (.nil) ?_
    -- region 4: history.go:58
    refine W.seqR fun Q7 hQ7 => ?_
    refine WL.q (Y.assign (.pl rfl)) rfl ?_
    refine WL.next hQ7 (.cons (i := 2) rfl (.nil)) ?_
    obtain rfl := Option.some.inj hF
    refine W.retV (fn := Try.f56) (vs := [.int .i64 0]) Try.results56 ⟨.tmp rfl, trivial⟩ (fun _ _ h => h) (fun wz hw => ?_)
    exact hR _ _ ⟨rfl, (hw.pick [] rfl)⟩

def history_typeOf (N : Nat) (kind1 : Int) : Option Int :=
  bd (α := Bool) (cond (decide (kind1 = 1))
      (some (decide (kind1 = 1)))
      (some (decide (kind1 = 2)))) <|
  fun (v2 : Bool) => 
    cond v2
      (some 1)
      (bd (α := Bool) (cond (decide (kind1 = 3))
          (some (decide (kind1 = 3)))
          (some (decide (kind1 = 4)))) <|
      fun (v3 : Bool) => 
        cond v3
          (some 2)
          (bd (α := Bool) (cond (decide (kind1 = 5))
              (some (decide (kind1 = 5)))
              (some (decide (kind1 = 6)))) <|
          fun (v4 : Bool) => 
            cond v4
              (some 3)
              (bd (α := Bool) (cond (decide (kind1 = 7))
                  (some (decide (kind1 = 7)))
                  (cond (decide (kind1 = 8))
                    (some (decide (kind1 = 8)))
                    (some (decide (kind1 = 9))))) <|
              fun (v5 : Bool) => 
                cond v5
                  (some 4)
                  (cond (decide (kind1 = 10))
                    (some 5)
                    (some 0)))))

theorem history_typeOf_ok {N : Nat} {kind1 : Int} {res : Int} (hF : history_typeOf N kind1 = some res) (w : World) :
    Pure Try.prog 124 [.int .i64 kind1] w (.int .i64 res) := by
  refine W.enter (n := 19) Try.func124 rfl rfl Sub.refl (by simp) (St.start w) fun R hR => ?_
  unfold history_typeOf at hF
  -- region 0: history.go:11
  refine W.seqR fun Q1 hQ1 => ?_
  refine WL.q (Y.assign (.pl rfl)) rfl ?_
  refine WL.next hQ1 (.cons (i := 0) rfl (.nil)) ?_
  refine W.seq fun K2 hK2 => ?_
  -- region 1: history.go:12
  refine W.seqR fun Q3 hQ3 => ?_
  refine WL.q (Y.move (.pl rfl)) rfl ?_
  refine WL.next hQ3 (.cons (i := 3) rfl (.nil)) ?_
  refine W.block ?_
  obtain ⟨o4, hF4, hF⟩ := bnd hF
  refine W.join1 (Em := fun (v2 : Bool) => [(4, .bool v2)]) (M := fun v2 => []) (I := fun v2 => v2 = o4) (.cons (i := 3) rfl (.nil)) (fun K5 hK5 => ?_) ?_
  · -- up to
    -- region 2: history.go:13
    refine W.seqR fun Q6 hQ6 => ?_
    refine WL.q (Y.eql (.pl rfl) (.pl rfl)) rfl ?_
    refine WL.q (Y.assign (.pl rfl)) rfl ?_
    refine WL.next hQ6 (.cons (i := 3) rfl (.cons (i := 4) rfl (.nil))) ?_
    refine W.cond (.pl rfl) (fun hC7 => ?_) (fun hC7 => ?_)
    · replace hF4 := cpos hC7 hF4
      refine W.skip ?_
      exact W.joinAt1 hK5 (decide (kind1 = 1)) (Option.some.inj hF4) (.cons rfl (.nil)) (.cons (i := 3) rfl (.nil)) (fun wz hw => hw.pick [] rfl)
    · replace hF4 := cneg hC7 hF4
      -- region 3: history.go:13
      refine W.reg ?_
      refine WL.q (Y.eql (.pl rfl) (.pl rfl)) rfl ?_
      refine WL.q (Y.assign (.pl rfl)) rfl ?_
      refine WL.nil ?_
      exact W.joinAt1 hK5 (decide (kind1 = 2)) (Option.some.inj hF4) (.cons rfl (.nil)) (.cons (i := 3) rfl (.nil)) (fun wz hw => hw.pick [] rfl)
  · -- behind
    rintro v2 rfl
    refine W.cond (.pl rfl) (fun hC9 => ?_) (fun hC9 => ?_)
    · replace hF := cpos hC9 hF
      -- region 4: history.go:14
      refine W.seqR fun Q10 hQ10 => ?_
      refine WL.q (Y.assign (.pl rfl)) rfl ?_
      refine WL.next hQ10 (.cons (i := 2) rfl (.nil)) ?_
      obtain rfl := Option.some.inj hF
      refine W.retV (fn := Try.f124) (vs := [.int .i64 1]) Try.results124 ⟨.tmp rfl, trivial⟩ (fun _ _ h => h) (fun wz hw => ?_)
      exact hR _ _ ⟨rfl, (hw.pick [] rfl)⟩
    · replace hF := cneg hC9 hF
      obtain ⟨o11, hF11, hF⟩ := bnd hF
      refine W.join1 (Em := fun (v3 : Bool) => [(7, .bool v3)]) (M := fun v3 => []) (I := fun v3 => v3 = o11) (.cons (i := 3) rfl (.nil)) (fun K12 hK12 => ?_) ?_
      · -- up to
        -- region 5: history.go:15
        refine W.seqR fun Q13 hQ13 => ?_
        refine WL.q (Y.eql (.pl rfl) (.pl rfl)) rfl ?_
        refine WL.q (Y.assign (.pl rfl)) rfl ?_
        refine WL.next hQ13 (.cons (i := 3) rfl (.cons (i := 7) rfl (.nil))) ?_
        refine W.cond (.pl rfl) (fun hC14 => ?_) (fun hC14 => ?_)
        · replace hF11 := cpos hC14 hF11
          refine W.skip ?_
          exact W.joinAt1 hK12 (decide (kind1 = 3)) (Option.some.inj hF11) (.cons rfl (.nil)) (.cons (i := 3) rfl (.nil)) (fun wz hw => hw.pick [] rfl)
        · replace hF11 := cneg hC14 hF11
          -- region 6: history.go:15
          refine W.reg ?_
          refine WL.q (Y.eql (.pl rfl) (.pl rfl)) rfl ?_
          refine WL.q (Y.assign (.pl rfl)) rfl ?_
          refine WL.nil ?_
          exact W.joinAt1 hK12 (decide (kind1 = 4)) (Option.some.inj hF11) (.cons rfl (.nil)) (.cons (i := 3) rfl (.nil)) (fun wz hw => hw.pick [] rfl)
      · -- behind
        rintro v3 rfl
        refine W.cond (.pl rfl) (fun hC16 => ?_) (fun hC16 => ?_)
        · replace hF := cpos hC16 hF
          -- region 7: history.go:16
          refine W.seqR fun Q17 hQ17 => ?_
          refine WL.q (Y.assign (.pl rfl)) rfl ?_
          refine WL.next hQ17 (.cons (i := 2) rfl (.nil)) ?_
          obtain rfl := Option.some.inj hF
          refine W.retV (fn := Try.f124) (vs := [.int .i64 2]) Try.results124 ⟨.tmp rfl, trivial⟩ (fun _ _ h => h) (fun wz hw => ?_)
          exact hR _ _ ⟨rfl, (hw.pick [] rfl)⟩
        · replace hF := cneg hC16 hF
          obtain ⟨o18, hF18, hF⟩ := bnd hF
          refine W.join1 (Em := fun (v4 : Bool) => [(10, .bool v4)]) (M := fun v4 => []) (I := fun v4 => v4 = o18) (.cons (i := 3) rfl (.nil)) (fun K19 hK19 => ?_) ?_
          · -- up to
            -- region 8: history.go:17
            refine W.seqR fun Q20 hQ20 => ?_
            refine WL.q (Y.eql (.pl rfl) (.pl rfl)) rfl ?_
            refine WL.q (Y.assign (.pl rfl)) rfl ?_
            refine WL.next hQ20 (.cons (i := 3) rfl (.cons (i := 10) rfl (.nil))) ?_
            refine W.cond (.pl rfl) (fun hC21 => ?_) (fun hC21 => ?_)
            · replace hF18 := cpos hC21 hF18
              refine W.skip ?_
              exact W.joinAt1 hK19 (decide (kind1 = 5)) (Option.some.inj hF18) (.cons rfl (.nil)) (.cons (i := 3) rfl (.nil)) (fun wz hw => hw.pick [] rfl)
            · replace hF18 := cneg hC21 hF18
              -- region 9: history.go:17
              refine W.reg ?_
              refine WL.q (Y.eql (.pl rfl) (.pl rfl)) rfl ?_
              refine WL.q (Y.assign (.pl rfl)) rfl ?_
              refine WL.nil ?_
              exact W.joinAt1 hK19 (decide (kind1 = 6)) (Option.some.inj hF18) (.cons rfl (.nil)) (.cons (i := 3) rfl (.nil)) (fun wz hw => hw.pick [] rfl)
          · -- behind
            rintro v4 rfl
            refine W.cond (.pl rfl) (fun hC23 => ?_) (fun hC23 => ?_)
            · replace hF := cpos hC23 hF
              -- region 10: history.go:18
              refine W.seqR fun Q24 hQ24 => ?_
              refine WL.q (Y.assign (.pl rfl)) rfl ?_
              refine WL.next hQ24 (.cons (i := 2) rfl (.nil)) ?_
              obtain rfl := Option.some.inj hF
              refine W.retV (fn := Try.f124) (vs := [.int .i64 3]) Try.results124 ⟨.tmp rfl, trivial⟩ (fun _ _ h => h) (fun wz hw => ?_)
              exact hR _ _ ⟨rfl, (hw.pick [] rfl)⟩
            · replace hF := cneg hC23 hF
              obtain ⟨o25, hF25, hF⟩ := bnd hF
              refine W.join1 (Em := fun (v5 : Bool) => [(13, .bool v5)]) (M := fun v5 => []) (I := fun v5 => v5 = o25) (.cons (i := 3) rfl (.nil)) (fun K26 hK26 => ?_) ?_
              · -- up to
                -- region 11: history.go:19
                refine W.seqR fun Q27 hQ27 => ?_
                refine WL.q (Y.eql (.pl rfl) (.pl rfl)) rfl ?_
                refine WL.q (Y.assign (.pl rfl)) rfl ?_
                refine WL.next hQ27 (.cons (i := 3) rfl (.cons (i := 13) rfl (.nil))) ?_
                refine W.cond (.pl rfl) (fun hC28 => ?_) (fun hC28 => ?_)
                · replace hF25 := cpos hC28 hF25
                  refine W.skip ?_
                  exact W.joinAt1 hK26 (decide (kind1 = 7)) (Option.some.inj hF25) (.cons rfl (.nil)) (.cons (i := 3) rfl (.nil)) (fun wz hw => hw.pick [] rfl)
                · replace hF25 := cneg hC28 hF25
                  -- region 12: history.go:19
                  refine W.seqR fun Q29 hQ29 => ?_
                  refine WL.q (Y.eql (.pl rfl) (.pl rfl)) rfl ?_
                  refine WL.q (Y.assign (.pl rfl)) rfl ?_
                  refine WL.next hQ29 (.cons (i := 3) rfl (.cons (i := 13) rfl (.nil))) ?_
                  refine W.cond (.pl rfl) (fun hC30 => ?_) (fun hC30 => ?_)
                  · replace hF25 := cpos hC30 hF25
                    refine W.skip ?_
                    exact W.joinAt1 hK26 (decide (kind1 = 8)) (Option.some.inj hF25) (.cons rfl (.nil)) (.cons (i := 3) rfl (.nil)) (fun wz hw => hw.pick [] rfl)
                  · replace hF25 := cneg hC30 hF25
                    -- region 13: history.go:19
                    refine W.reg ?_
                    refine WL.q (Y.eql (.pl rfl) (.pl rfl)) rfl ?_
                    refine WL.q (Y.assign (.pl rfl)) rfl ?_
                    refine WL.nil ?_
                    exact W.joinAt1 hK26 (decide (kind1 = 9)) (Option.some.inj hF25) (.cons rfl (.nil)) (.cons (i := 3) rfl (.nil)) (fun wz hw => hw.pick [] rfl)
              · -- behind
                rintro v5 rfl
                refine W.cond (.pl rfl) (fun hC32 => ?_) (fun hC32 => ?_)
                · replace hF := cpos hC32 hF
                  -- region 14: history.go:20
                  refine W.seqR fun Q33 hQ33 => ?_
                  refine WL.q (Y.assign (.pl rfl)) rfl ?_
                  refine WL.next hQ33 (.cons (i := 2) rfl (.nil)) ?_
                  obtain rfl := Option.some.inj hF
                  refine W.retV (fn := Try.f124) (vs := [.int .i64 4]) Try.results124 ⟨.tmp rfl, trivial⟩ (fun _ _ h => h) (fun wz hw => ?_)
                  exact hR _ _ ⟨rfl, (hw.pick [] rfl)⟩
                · replace hF := cneg hC32 hF
                  -- region 15: history.go:21
                  refine W.seqR fun Q34 hQ34 => ?_
                  refine WL.q (Y.eql (.pl rfl) (.pl rfl)) rfl ?_
                  refine WL.q (Y.assign (.pl rfl)) rfl ?_
                  refine WL.next hQ34 (.cons (i := 17) rfl (.nil)) ?_
                  refine W.cond (.pl rfl) (fun hC35 => ?_) (fun hC35 => ?_)
                  · replace hF := cpos hC35 hF
                    -- region 16: history.go:22
                    refine W.seqR fun Q36 hQ36 => ?_
                    refine WL.q (Y.assign (.pl rfl)) rfl ?_
                    refine WL.next hQ36 (.cons (i := 2) rfl (.nil)) ?_
                    obtain rfl := Option.some.inj hF
                    refine W.retV (fn := Try.f124) (vs := [.int .i64 5]) Try.results124 ⟨.tmp rfl, trivial⟩ (fun _ _ h => h) (fun wz hw => ?_)
                    exact hR _ _ ⟨rfl, (hw.pick [] rfl)⟩
                  · replace hF := cneg hC35 hF
                    refine W.skip ?_
                    refine W.go hK2 (.nil) ?_
                    -- region 17: history.go:24
                    refine W.seqR fun Q37 hQ37 => ?_
                    refine WL.q (Y.assign (.pl rfl)) rfl ?_
                    refine WL.next hQ37 (.cons (i := 2) rfl (.nil)) ?_
                    obtain rfl := Option.some.inj hF
                    refine W.retV (fn := Try.f124) (vs := [.int .i64 0]) Try.results124 ⟨.tmp rfl, trivial⟩ (fun _ _ h => h) (fun wz hw => ?_)
                    exact hR _ _ ⟨rfl, (hw.pick [] rfl)⟩

def history_Fits (N : Nat) (typ1 : Int) (kind2 : Int) : Option Bool :=
  bd ((cond ((!(decide (typ1 = 0))) == true) (history_typeOf N kind2) (some 0))) fun (r3 : Int) =>
  some ((!(decide (typ1 = 0))) && (decide (r3 = typ1)))

theorem history_Fits_ok {N : Nat} {typ1 : Int} {kind2 : Int} {res : Bool} (hF : history_Fits N typ1 kind2 = some res) (w : World) :
    Pure Try.prog 91 [.int .i64 typ1, .int .i64 kind2] w (.bool res) := by
  refine W.enter (n := 13) Try.func91 rfl rfl Sub.refl (by simp) (St.start w) fun R hR => ?_
  unfold history_Fits at hF
  -- region 0: history.go:28
  refine W.seqR fun Q1 hQ1 => ?_
  refine WL.q (Y.assign (.pl rfl)) rfl ?_
  refine WL.next hQ1 (.cons (i := 0) rfl (.cons (i := 1) rfl (.nil))) ?_
  -- region 1: history.go:28
  refine W.seqR fun Q2 hQ2 => ?_
  refine WL.q (Y.move (.pl rfl)) rfl ?_
  refine WL.q (Y.neq (.pl rfl) (.pl rfl)) rfl ?_
  refine WL.q (Y.move (.pl rfl)) rfl ?_
  refine WL.g (.pl rfl rfl rfl) (fun hg => Y.move (.pl rfl)) rfl ?_
  obtain ⟨r3, hr3, hF⟩ := bnd hF
  refine WL.gP (.pl rfl rfl rfl) isGo124 (fun hg => (.cons (.gd (hg) rfl) (.nil))) rfl (fun hg wz hw => history_typeOf_ok (gpos hg hr3) wz ) ?_
  refine WL.g (.pl rfl rfl rfl) (fun hg => Y.move (.pl rfl)) rfl ?_
  refine WL.g (.pl rfl rfl rfl) (fun hg => Y.eql (.gd (hg) rfl) (.gd (hg) rfl)) rfl ?_
  refine WL.q (Y.and (.pl rfl) (fun h2 => .gd (eqt h2) rfl)) rfl ?_
  refine WL.q (Y.assign (.pl rfl)) rfl ?_
  refine WL.next hQ2 (.cons (i := 4) rfl (.nil)) ?_
  obtain rfl := Option.some.inj hF
  refine W.retV (fn := Try.f91) (vs := [.bool ((!(decide (typ1 = 0))) && (decide (r3 = typ1)))]) Try.results91 ⟨.tmp rfl, trivial⟩ (fun _ _ h => h) (fun wz hw => ?_)
  exact hR _ _ ⟨rfl, (hw.pick [] rfl)⟩

def history_Argument (N : Nat) (kind1 : Int) (n2 : Int) : Option Bool :=
  bd (α := (Unit ⊕ Bool)) (cond (decide (kind1 = 2))
      (cond (decide (kind1 = 2))
        (some (.inr (decide (n2 = 0))))
        (some (.inl ())))
      (cond (decide (kind1 = 4))
        (cond (decide (kind1 = 4))
          (some (.inr (decide (n2 = 0))))
          (some (.inl ())))
        (cond (decide (kind1 = 6))
          (cond (decide (kind1 = 6))
            (some (.inr (decide (n2 = 0))))
            (some (.inl ())))
          (cond (decide (kind1 = 10))
            (some (.inr (decide (n2 = 0))))
            (some (.inl ())))))) <|
  Sum.elim (fun _ => 
    some ((decide (1 ≤ n2)) && (decide (n2 ≤ 1000)))) (fun p => some p)

theorem history_Argument_ok {N : Nat} {kind1 : Int} {n2 : Int} {res : Bool} (hF : history_Argument N kind1 n2 = some res) (w : World) :
    Pure Try.prog 92 [.int .i64 kind1, .int .i64 n2] w (.bool res) := by
  refine W.enter (n := 19) Try.func92 rfl rfl Sub.refl (by simp) (St.start w) fun R hR => ?_
  unfold history_Argument at hF
  -- region 0: history.go:31
  refine W.seqR fun Q1 hQ1 => ?_
  refine WL.q (Y.assign (.pl rfl)) rfl ?_
  refine WL.next hQ1 (.cons (i := 0) rfl (.cons (i := 1) rfl (.nil))) ?_
  obtain ⟨o2, hF2, hF⟩ := bnd hF
  refine W.join0 (Em := []) (M := []) (I := (.inl ()) = o2) (.cons (i := 1) rfl (.nil)) (fun K3 hK3 => ?_) ?_
  · -- up to
    -- region 1: history.go:32
    refine W.seqR fun Q4 hQ4 => ?_
    refine WL.q (Y.move (.pl rfl)) rfl ?_
    refine WL.next hQ4 (.cons (i := 1) rfl (.cons (i := 5) rfl (.nil))) ?_
    refine W.block ?_
    refine W.seq fun K5 hK5 => ?_
    -- region 2: history.go:33
    refine W.seqR fun Q6 hQ6 => ?_
    refine WL.q (Y.eql (.pl rfl) (.pl rfl)) rfl ?_
    refine WL.q (Y.assign (.pl rfl)) rfl ?_
    refine WL.next hQ6 (.cons (i := 1) rfl (.cons (i := 5) rfl (.cons (i := 6) rfl (.nil)))) ?_
    refine W.cond (.pl rfl) (fun hC7 => ?_) (fun hC7 => ?_)
    · replace hF2 := cpos hC7 hF2
      refine W.skip ?_
      refine W.go hK5 (.cons (i := 1) rfl (.cons (i := 6) rfl (.nil))) ?_
      refine W.cond (.pl rfl) (fun hC8 => ?_) (fun hC8 => ?_)
      · replace hF2 := cpos hC8 hF2
        -- region 6: history.go:34
        refine W.seqR fun Q9 hQ9 => ?_
        refine WL.q (Y.move (.pl rfl)) rfl ?_
        refine WL.q (Y.eql (.pl rfl) (.pl rfl)) rfl ?_
        refine WL.q (Y.assign (.pl rfl)) rfl ?_
        refine WL.next hQ9 (.cons (i := 4) rfl (.nil)) ?_
        obtain rfl := Option.some.inj hF2
        obtain rfl := Option.some.inj hF
        refine W.retV (fn := Try.f92) (vs := [.bool (decide (n2 = 0))]) Try.results92 ⟨.tmp rfl, trivial⟩ (fun _ _ h => h) (fun wz hw => ?_)
        exact hR _ _ ⟨rfl, (hw.pick [] rfl)⟩
      · replace hF2 := cneg hC8 hF2
        refine W.skip ?_
        exact W.joinAt0 hK3  (Option.some.inj hF2) (.nil) (.cons (i := 1) rfl (.nil)) (fun wz hw => hw.pick [] rfl)
    · replace hF2 := cneg hC7 hF2
      -- region 3: history.go:33
      refine W.seqR fun Q10 hQ10 => ?_
      refine WL.q (Y.eql (.pl rfl) (.pl rfl)) rfl ?_
      refine WL.q (Y.assign (.pl rfl)) rfl ?_
      refine WL.next hQ10 (.cons (i := 1) rfl (.cons (i := 5) rfl (.cons (i := 6) rfl (.nil)))) ?_
      refine W.cond (.pl rfl) (fun hC11 => ?_) (fun hC11 => ?_)
      · replace hF2 := cpos hC11 hF2
        refine W.skip ?_
        refine W.go hK5 (.cons (i := 1) rfl (.cons (i := 6) rfl (.nil))) ?_
        refine W.cond (.pl rfl) (fun hC12 => ?_) (fun hC12 => ?_)
        · replace hF2 := cpos hC12 hF2
          -- region 6: history.go:34
          refine W.seqR fun Q13 hQ13 => ?_
          refine WL.q (Y.move (.pl rfl)) rfl ?_
          refine WL.q (Y.eql (.pl rfl) (.pl rfl)) rfl ?_
          refine WL.q (Y.assign (.pl rfl)) rfl ?_
          refine WL.next hQ13 (.cons (i := 4) rfl (.nil)) ?_
          obtain rfl := Option.some.inj hF2
          obtain rfl := Option.some.inj hF
          refine W.retV (fn := Try.f92) (vs := [.bool (decide (n2 = 0))]) Try.results92 ⟨.tmp rfl, trivial⟩ (fun _ _ h => h) (fun wz hw => ?_)
          exact hR _ _ ⟨rfl, (hw.pick [] rfl)⟩
        · replace hF2 := cneg hC12 hF2
          refine W.skip ?_
          exact W.joinAt0 hK3  (Option.some.inj hF2) (.nil) (.cons (i := 1) rfl (.nil)) (fun wz hw => hw.pick [] rfl)
      · replace hF2 := cneg hC11 hF2
        -- region 4: history.go:33
        refine W.seqR fun Q14 hQ14 => ?_
        refine WL.q (Y.eql (.pl rfl) (.pl rfl)) rfl ?_
        refine WL.q (Y.assign (.pl rfl)) rfl ?_
        refine WL.next hQ14 (.cons (i := 1) rfl (.cons (i := 5) rfl (.cons (i := 6) rfl (.nil)))) ?_
        refine W.cond (.pl rfl) (fun hC15 => ?_) (fun hC15 => ?_)
        · replace hF2 := cpos hC15 hF2
          refine W.skip ?_
          refine W.go hK5 (.cons (i := 1) rfl (.cons (i := 6) rfl (.nil))) ?_
          refine W.cond (.pl rfl) (fun hC16 => ?_) (fun hC16 => ?_)
          · replace hF2 := cpos hC16 hF2
            -- region 6: history.go:34
            refine W.seqR fun Q17 hQ17 => ?_
            refine WL.q (Y.move (.pl rfl)) rfl ?_
            refine WL.q (Y.eql (.pl rfl) (.pl rfl)) rfl ?_
            refine WL.q (Y.assign (.pl rfl)) rfl ?_
            refine WL.next hQ17 (.cons (i := 4) rfl (.nil)) ?_
            obtain rfl := Option.some.inj hF2
            obtain rfl := Option.some.inj hF
            refine W.retV (fn := Try.f92) (vs := [.bool (decide (n2 = 0))]) Try.results92 ⟨.tmp rfl, trivial⟩ (fun _ _ h => h) (fun wz hw => ?_)
            exact hR _ _ ⟨rfl, (hw.pick [] rfl)⟩
          · replace hF2 := cneg hC16 hF2
            refine W.skip ?_
            exact W.joinAt0 hK3  (Option.some.inj hF2) (.nil) (.cons (i := 1) rfl (.nil)) (fun wz hw => hw.pick [] rfl)
        · replace hF2 := cneg hC15 hF2
          -- region 5: history.go:33
          refine W.reg ?_
          refine WL.q (Y.eql (.pl rfl) (.pl rfl)) rfl ?_
          refine WL.q (Y.assign (.pl rfl)) rfl ?_
          refine WL.nil ?_
          refine W.go hK5 (.cons (i := 1) rfl (.cons (i := 6) rfl (.nil))) ?_
          refine W.cond (.pl rfl) (fun hC19 => ?_) (fun hC19 => ?_)
          · replace hF2 := cpos hC19 hF2
            -- region 6: history.go:34
            refine W.seqR fun Q20 hQ20 => ?_
            refine WL.q (Y.move (.pl rfl)) rfl ?_
            refine WL.q (Y.eql (.pl rfl) (.pl rfl)) rfl ?_
            refine WL.q (Y.assign (.pl rfl)) rfl ?_
            refine WL.next hQ20 (.cons (i := 4) rfl (.nil)) ?_
            obtain rfl := Option.some.inj hF2
            obtain rfl := Option.some.inj hF
            refine W.retV (fn := Try.f92) (vs := [.bool (decide (n2 = 0))]) Try.results92 ⟨.tmp rfl, trivial⟩ (fun _ _ h => h) (fun wz hw => ?_)
            exact hR _ _ ⟨rfl, (hw.pick [] rfl)⟩
          · replace hF2 := cneg hC19 hF2
            refine W.skip ?_
            exact W.joinAt0 hK3  (Option.some.inj hF2) (.nil) (.cons (i := 1) rfl (.nil)) (fun wz hw => hw.pick [] rfl)
  · -- behind
    rintro  rfl
    -- region 7: history.go:36
    refine W.seqR fun Q21 hQ21 => ?_
    refine WL.q (Y.move (.pl rfl)) rfl ?_
    refine WL.q (Y.geq (.pl rfl) (.pl rfl)) rfl ?_
    refine WL.q (Y.move (.pl rfl)) rfl ?_
    refine WL.g (.pl rfl rfl rfl) (fun hg => Y.move (.pl rfl)) rfl ?_
    refine WL.g (.pl rfl rfl rfl) (fun hg => Y.leq (.gd (hg) rfl) (.pl rfl)) rfl ?_
    refine WL.q (Y.and (.pl rfl) (fun h2 => .gd (eqt h2) rfl)) rfl ?_
    refine WL.q (Y.assign (.pl rfl)) rfl ?_
    refine WL.next hQ21 (.cons (i := 4) rfl (.nil)) ?_
    obtain rfl := Option.some.inj hF
    refine W.retV (fn := Try.f92) (vs := [.bool ((decide (1 ≤ n2)) && (decide (n2 ≤ 1000)))]) Try.results92 ⟨.tmp rfl, trivial⟩ (fun _ _ h => h) (fun wz hw => ?_)
    exact hR _ _ ⟨rfl, (hw.pick [] rfl)⟩

def threads_Check_L17 (N : Nat) (people6 : (List (List Ask))) : (Int × Int) → Option ((Int × Int) ⊕ Int)
  | (n13, v14) =>
    cond (decide (v14 < ((people6).length : Int)))
      (bd (ix people6 v14) fun (x15 : (List Ask)) =>
      ck (ok64 (v14 + 1)) <|
      some (.inl ((IntKind.i64.wrap (n13 + ((x15).length : Int))), (v14 + 1))))
      (some (.inr n13))

def threads_Check_L31 (N : Nat) (x18 : (List Ask)) (types1 : (List Int)) : Int → Option (Int ⊕ (Unit ⊕ Int))
  | v19 =>
    cond (decide (v19 < ((x18).length : Int)))
      (bd (ix x18 v19) fun (x20 : Ask) =>
      bd ((cond (((decide (x20.thing < 0)) || (decide (((types1).length : Int) ≤ x20.thing))) == false) (ix types1 x20.thing) (some 0))) fun (x22 : Int) =>
      bd ((cond (((decide (x20.thing < 0)) || (decide (((types1).length : Int) ≤ x20.thing))) == false) (history_Fits N x22 x20.kind) (some false))) fun (r23 : Bool) =>
      bd ((cond ((((decide (x20.thing < 0)) || (decide (((types1).length : Int) ≤ x20.thing))) || (!r23)) == false) (history_Argument N x20.kind x20.arg) (some false))) fun (r24 : Bool) =>
      cond ((((decide (x20.thing < 0)) || (decide (((types1).length : Int) ≤ x20.thing))) || (!r23)) || (!r24))
        (some (.inr (.inr 3)))
        (ck (ok64 (v19 + 1)) <|
        some (.inl (v19 + 1))))
      (some (.inr (.inl ())))

def threads_Check_L29 (N : Nat) (people6 : (List (List Ask))) (types1 : (List Int)) : Int → Option (Int ⊕ (Unit ⊕ Int))
  | v17 =>
    cond (decide (v17 < ((people6).length : Int)))
      (bd (α := (Unit ⊕ Int)) (bd (ix people6 v17) fun (x18 : (List Ask)) =>
        iter (threads_Check_L31 N x18 types1) N 0) <|
      Sum.elim (fun _ => 
        ck (ok64 (v17 + 1)) <|
        some (.inl (v17 + 1))) (fun p => some (.inr (.inr p))))
      (some (.inr (.inl ())))

def threads_Check (N : Nat) (types1 : (List Int)) (people6 : (List (List Ask))) : Option Int :=
  bd (history_Types N types1) fun (r11 : Int) =>
  cond ((!(decide (r11 = 0))) || (decide (8 < ((people6).length : Int))))
    (some 1)
    (bd (α := Int) (iter (threads_Check_L17 N people6) N (0, 0)) <|
    fun (n12 : Int) => 
      cond (decide (90 < n12))
        (some 2)
        (bd (α := (Unit ⊕ Int)) (iter (threads_Check_L29 N people6 types1) N 0) <|
        Sum.elim (fun _ => 
          some 0) (fun p => some p)))

theorem threads_Check_ok {N : Nat} {types1 : (List Int)} {people6 : (List (List Ask))} {A7 : Option Addr} {c8 : Nat} {hd9 : List Hd} {res : Int} (hF : threads_Check N types1 people6 = some res) (w : World) {v5 : Value} (hs4 : SlIn (eI .i64) 1 w v5 types1) (hs10 : SlNN encAsk 3 w A7 c8 hd9 people6) :
    Pure Try.prog 63 [v5, .slice A7 (people6).length c8] w (.int .i64 res) := by
  obtain ⟨A2, c3, rfl, hcc3, hs4⟩ := hs4.form
  refine W.enter (n := 76) Try.func63 rfl rfl Sub.refl (by simp) (St.start w) fun R hR => ?_
  unfold threads_Check at hF
  -- region 0: threads.go:13
  refine W.seqR fun Q1 hQ1 => ?_
  refine WL.q (Y.assign (.pl rfl)) rfl ?_
  refine WL.next hQ1 (.cons (i := 0) rfl (.cons (i := 1) rfl (.nil))) ?_
  refine W.seq fun K2 hK2 => ?_
  -- region 1: threads.go:14
  refine W.seqR fun Q3 hQ3 => ?_
  refine WL.q (Y.move (.pl rfl)) rfl ?_
  obtain ⟨r11, hr11, hF⟩ := bnd hF
  refine WL.step (WO.callP isGo56 (.cons (.pl rfl) (.nil)) rfl (fun wz hw => history_Types_ok (hr11) wz (hs4.mono hw)) ?_)
  refine WL.q (Y.neq (.pl rfl) (.pl rfl)) rfl ?_
  refine WL.q (Y.move (.pl rfl)) rfl ?_
  refine WL.g (.pl rfl rfl rfl) (fun hg => Y.move (.pl rfl)) rfl ?_
  refine WL.g (.pl rfl rfl rfl) (fun hg => Y.len Try.underlying22 (.gd (hg) rfl)) rfl ?_
  refine WL.g (.pl rfl rfl rfl) (fun hg => Y.gtr (.gd (hg) rfl) (.pl rfl)) rfl ?_
  refine WL.q (Y.or (.pl rfl) (fun h2 => .gd (eqf h2) rfl)) rfl ?_
  refine WL.next hQ3 (.cons (i := 0) rfl (.cons (i := 1) rfl (.cons (i := 19) rfl (.nil)))) ?_
  refine W.cond (.pl rfl) (fun hC4 => ?_) (fun hC4 => ?_)
  · replace hF := cpos hC4 hF
    -- region 2: threads.go:15
    refine W.seqR fun Q5 hQ5 => ?_
    refine WL.q (Y.assign (.pl rfl)) rfl ?_
    refine WL.next hQ5 (.cons (i := 4) rfl (.nil)) ?_
    obtain rfl := Option.some.inj hF
    refine W.retV (fn := Try.f63) (vs := [.int .i64 1]) Try.results63 ⟨.tmp rfl, trivial⟩ (fun _ _ h => h) (fun wz hw => ?_)
    exact hR _ _ ⟨rfl, (hw.pick [] rfl)⟩
  · replace hF := cneg hC4 hF
    refine W.skip ?_
    refine W.go hK2 (.cons (i := 0) rfl (.cons (i := 1) rfl (.nil))) ?_
    -- region 3: threads.go:17
    refine W.seqR fun Q6 hQ6 => ?_
    refine WL.q (Y.assign (.pl rfl)) rfl ?_
    refine WL.next hQ6 (.cons (i := 0) rfl (.cons (i := 1) rfl (.cons (i := 5) rfl (.nil)))) ?_
    obtain ⟨o7, hF7, hF⟩ := bnd hF
    refine W.join1 (Em := fun (n12 : Int) => [(5, .int .i64 n12)]) (M := fun n12 => []) (I := fun n12 => n12 = o7) (.cons (i := 0) rfl (.cons (i := 1) rfl (.nil))) (fun K8 hK8 => ?_) ?_
    · -- up to
      -- region 4: threads.go:18
      refine W.seqR fun Q9 hQ9 => ?_
      refine WL.q (Y.move (.pl rfl)) rfl ?_
      refine WL.q (Y.len Try.underlying22 (.pl rfl)) rfl ?_
      refine WL.q (Y.move (.pl rfl)) rfl ?_
      refine WL.next hQ9 (.cons (i := 0) rfl (.cons (i := 1) rfl (.cons (i := 5) rfl (.cons (i := 20) rfl (.cons (i := 21) rfl (.cons (i := 22) rfl (.nil))))))) ?_
      refine W.block ?_
      refine W.loop2 (Em := fun (n13 : Int) (v14 : Int) => [(5, .int .i64 n13), (22, .int .i64 v14)]) (M := fun n13 v14 => []) (I := fun n13 v14 k10 => iter (threads_Check_L17 N people6) k10 (n13, v14) = some o7) 0 0 N (hF7) (.cons rfl (.cons rfl (.nil))) (.cons (i := 0) rfl (.cons (i := 1) rfl (.cons (i := 20) rfl (.cons (i := 21) rfl (.nil))))) (fun wz hw => hw.pick [] rfl) (fun n13 v14 k10 hI K11 hK11 => ?_)
      obtain ⟨k10, t10, rfl, hF10, hN10⟩ := iter_step hI
      -- region 5: threads.go:18
      refine W.seqR fun Q12 hQ12 => ?_
      refine WL.q (Y.lss (.pl rfl) (.pl rfl)) rfl ?_
      refine WL.next hQ12 (.cons (i := 0) rfl (.cons (i := 1) rfl (.cons (i := 5) rfl (.cons (i := 20) rfl (.cons (i := 21) rfl (.cons (i := 22) rfl (.cons (i := 23) rfl (.nil)))))))) ?_
      refine W.seq fun K13 hK13 => ?_
      refine W.cond (.pl rfl) (fun hC14 => ?_) (fun hC14 => ?_)
      · replace hF10 := cpos hC14 hF10
        refine W.skip ?_
        refine W.go hK13 (.cons (i := 0) rfl (.cons (i := 1) rfl (.cons (i := 5) rfl (.cons (i := 20) rfl (.cons (i := 21) rfl (.cons (i := 22) rfl (.nil))))))) ?_
        refine W.seq fun K15 hK15 => ?_
        refine W.block ?_
        -- region 6: threads.go:18
        refine W.seqR fun Q16 hQ16 => ?_
        obtain ⟨x15, hx15, hF10⟩ := bnd hF10
        refine WL.q (Y.nnEl Try.underlying22 cells41 hs10 (.pl rfl) (.pl rfl) (ix_lt (hx15))) rfl ?_
        refine WL.q (Y.loadNN Try.underlying41 rfl hs10 (.pl rfl) (hx15) rfl) rfl ?_
        refine WL.q (Y.assign (.pl rfl)) rfl ?_
        refine WL.next hQ16 (.cons (i := 0) rfl (.cons (i := 1) rfl (.cons (i := 5) rfl (.cons (i := 7) rfl (.cons (i := 20) rfl (.cons (i := 21) rfl (.cons (i := 22) rfl (.nil)))))))) ?_
        -- region 7: threads.go:19
        refine W.reg ?_
        refine WL.q (Y.move (.pl rfl)) rfl ?_
        refine WL.q (Y.move (.pl rfl)) rfl ?_
        refine WL.q (Y.len Try.underlying41 (.pl rfl)) rfl ?_
        refine WL.q (Y.addW (.pl rfl) (.pl rfl)) rfl ?_
        refine WL.q (Y.assign (.pl rfl)) rfl ?_
        refine WL.nil ?_
        refine W.go hK15 (.cons (i := 0) rfl (.cons (i := 1) rfl (.cons (i := 5) rfl (.cons (i := 20) rfl (.cons (i := 21) rfl (.cons (i := 22) rfl (.nil))))))) ?_
        -- region 8: threads.go:18
        refine W.reg ?_
        obtain ⟨hk16, hF10⟩ := ckh hF10
        refine WL.q (Y.add (.pl rfl) (.pl rfl) (ok64_lt (hk16))) rfl ?_
        refine WL.q (Y.move (.pl rfl)) rfl ?_
        refine WL.nil ?_
        obtain rfl := Option.some.inj hF10
        exact W.again2 hK11 (IntKind.i64.wrap (n13 + ((x15).length : Int))) (v14 + 1) k10 hN10 (Nat.lt_succ_self _) (.cons rfl (.cons rfl (.nil))) (.cons (i := 0) rfl (.cons (i := 1) rfl (.cons (i := 20) rfl (.cons (i := 21) rfl (.nil))))) (fun wz hw => hw.pick [] rfl)
      · replace hF10 := cneg hC14 hF10
        refine W.exit ?_
        obtain rfl := Option.some.inj hF10
        exact W.joinAt1 hK8 n13 (einr hN10) (.cons rfl (.nil)) (.cons (i := 0) rfl (.cons (i := 1) rfl (.nil))) (fun wz hw => hw.pick [] rfl)
    · -- behind
      rintro n12 rfl
      refine W.seq fun K19 hK19 => ?_
      -- region 9: threads.go:21
      refine W.seqR fun Q20 hQ20 => ?_
      refine WL.q (Y.move (.pl rfl)) rfl ?_
      refine WL.q (Y.gtr (.pl rfl) (.pl rfl)) rfl ?_
      refine WL.next hQ20 (.cons (i := 0) rfl (.cons (i := 1) rfl (.cons (i := 32) rfl (.nil)))) ?_
      refine W.cond (.pl rfl) (fun hC21 => ?_) (fun hC21 => ?_)
      · replace hF := cpos hC21 hF
        -- region 10: threads.go:22
        refine W.seqR fun Q22 hQ22 => ?_
        refine WL.q (Y.assign (.pl rfl)) rfl ?_
        refine WL.next hQ22 (.cons (i := 4) rfl (.nil)) ?_
        obtain rfl := Option.some.inj hF
        refine W.retV (fn := Try.f63) (vs := [.int .i64 2]) Try.results63 ⟨.tmp rfl, trivial⟩ (fun _ _ h => h) (fun wz hw => ?_)
        exact hR _ _ ⟨rfl, (hw.pick [] rfl)⟩
      · replace hF := cneg hC21 hF
        refine W.skip ?_
        refine W.go hK19 (.cons (i := 0) rfl (.cons (i := 1) rfl (.nil))) ?_
        obtain ⟨o23, hF23, hF⟩ := bnd hF
        refine W.join0 (Em := []) (M := []) (I := (.inl ()) = o23) (.nil) (fun K24 hK24 => ?_) ?_
        · -- up to
          -- region 11: threads.go:24
          refine W.seqR fun Q25 hQ25 => ?_
          refine WL.q (Y.move (.pl rfl)) rfl ?_
          refine WL.q (Y.len Try.underlying22 (.pl rfl)) rfl ?_
          refine WL.q (Y.move (.pl rfl)) rfl ?_
          refine WL.next hQ25 (.cons (i := 0) rfl (.cons (i := 33) rfl (.cons (i := 34) rfl (.cons (i := 35) rfl (.nil))))) ?_
          refine W.block ?_
          refine W.loop1 (Em := fun (v17 : Int) => [(35, .int .i64 v17)]) (M := fun v17 => []) (I := fun v17 k26 => iter (threads_Check_L29 N people6 types1) k26 v17 = some o23) 0 N (hF23) (.cons rfl (.nil)) (.cons (i := 0) rfl (.cons (i := 33) rfl (.cons (i := 34) rfl (.nil)))) (fun wz hw => hw.pick [] rfl) (fun v17 k26 hI K27 hK27 => ?_)
          obtain ⟨k26, t26, rfl, hF26, hN26⟩ := iter_step hI
          -- region 12: threads.go:24
          refine W.seqR fun Q28 hQ28 => ?_
          refine WL.q (Y.lss (.pl rfl) (.pl rfl)) rfl ?_
          refine WL.next hQ28 (.cons (i := 0) rfl (.cons (i := 33) rfl (.cons (i := 34) rfl (.cons (i := 35) rfl (.cons (i := 36) rfl (.nil)))))) ?_
          refine W.seq fun K29 hK29 => ?_
          refine W.cond (.pl rfl) (fun hC30 => ?_) (fun hC30 => ?_)
          · replace hF26 := cpos hC30 hF26
            refine W.skip ?_
            refine W.go hK29 (.cons (i := 0) rfl (.cons (i := 33) rfl (.cons (i := 34) rfl (.cons (i := 35) rfl (.nil))))) ?_
            obtain ⟨o31, hF31, hF26⟩ := bnd hF26
            refine W.join0 (Em := []) (M := []) (I := (.inl ()) = o31) (.cons (i := 0) rfl (.cons (i := 33) rfl (.cons (i := 34) rfl (.cons (i := 35) rfl (.nil))))) (fun K32 hK32 => ?_) ?_
            · -- up to
              refine W.block ?_
              -- region 13: threads.go:24
              refine W.seqR fun Q33 hQ33 => ?_
              obtain ⟨x18, hx18, hF31⟩ := bnd hF31
              refine WL.q (Y.nnEl Try.underlying22 cells41 hs10 (.pl rfl) (.pl rfl) (ix_lt (hx18))) rfl ?_
              refine WL.q (Y.loadNN Try.underlying41 rfl hs10 (.pl rfl) (hx18) rfl) rfl ?_
              refine WL.q (Y.assign (.pl rfl)) rfl ?_
              refine WL.next hQ33 (.cons (i := 0) rfl (.cons (i := 9) rfl (.cons (i := 33) rfl (.cons (i := 34) rfl (.cons (i := 35) rfl (.nil)))))) ?_
              -- region 14: threads.go:25
              refine W.seqR fun Q34 hQ34 => ?_
              refine WL.q (Y.move (.pl rfl)) rfl ?_
              refine WL.q (Y.len Try.underlying41 (.pl rfl)) rfl ?_
              refine WL.q (Y.move (.pl rfl)) rfl ?_
              refine WL.next hQ34 (.cons (i := 0) rfl (.cons (i := 33) rfl (.cons (i := 34) rfl (.cons (i := 35) rfl (.cons (i := 39) rfl (.cons (i := 40) rfl (.cons (i := 41) rfl (.nil)))))))) ?_
              refine W.block ?_
              refine W.loop1 (Em := fun (v19 : Int) => [(41, .int .i64 v19)]) (M := fun v19 => []) (I := fun v19 k35 => iter (threads_Check_L31 N x18 types1) k35 v19 = some o31) 0 N (hF31) (.cons rfl (.nil)) (.cons (i := 0) rfl (.cons (i := 33) rfl (.cons (i := 34) rfl (.cons (i := 35) rfl (.cons (i := 39) rfl (.cons (i := 40) rfl (.nil))))))) (fun wz hw => hw.pick [] rfl) (fun v19 k35 hI K36 hK36 => ?_)
              obtain ⟨k35, t35, rfl, hF35, hN35⟩ := iter_step hI
              -- region 15: threads.go:25
              refine W.seqR fun Q37 hQ37 => ?_
              refine WL.q (Y.lss (.pl rfl) (.pl rfl)) rfl ?_
              refine WL.next hQ37 (.cons (i := 0) rfl (.cons (i := 33) rfl (.cons (i := 34) rfl (.cons (i := 35) rfl (.cons (i := 39) rfl (.cons (i := 40) rfl (.cons (i := 41) rfl (.cons (i := 42) rfl (.nil))))))))) ?_
              refine W.seq fun K38 hK38 => ?_
              refine W.cond (.pl rfl) (fun hC39 => ?_) (fun hC39 => ?_)
              · replace hF35 := cpos hC39 hF35
                refine W.skip ?_
                refine W.go hK38 (.cons (i := 0) rfl (.cons (i := 33) rfl (.cons (i := 34) rfl (.cons (i := 35) rfl (.cons (i := 39) rfl (.cons (i := 40) rfl (.cons (i := 41) rfl (.nil)))))))) ?_
                refine W.seq fun K40 hK40 => ?_
                refine W.block ?_
                -- region 16: threads.go:25
                refine W.seqR fun Q41 hQ41 => ?_
                obtain ⟨x20, hx20, hF35⟩ := bnd hF35
                refine WL.q (Y.slEl Try.underlying41 cells58 (hs10.at (hx18)) (.pl rfl) (.pl rfl) (ix_lt (hx20))) rfl ?_
                refine WL.q (Y.loadSA (enc := encAsk) (ds := (encAsk x20)) (j := 0) Try.underlying58 rfl cells58 (hs10.at (hx18)) (.pl rfl) (hx20) rfl rfl subW) rfl ?_
                refine WL.step (WO.alloc (cs := (encAsk (Ask.mk 0 0 0)).toArray) zero58 rfl rfl fun b21 => ?_)
                refine WL.step (WO.storeBA (ds := (encAsk x20)) (cs' := (encAsk x20)) cells58 (.pl rfl) (.pl rfl) rfl (oneAsk _) (i := 0) rfl (lel (o := 0) (l := 3) (m := 3) (by decide) rfl rfl) (putW rfl) ?_)
                refine WL.next hQ41 (.cons (i := 0) rfl (.cons (i := 11) rfl (.cons (i := 33) rfl (.cons (i := 34) rfl (.cons (i := 35) rfl (.cons (i := 39) rfl (.cons (i := 40) rfl (.cons (i := 41) rfl (.nil))))))))) ?_
                -- region 17: threads.go:26
                refine W.seqD (by kernel_rfl) (by kernel_rfl) fun R42 hR42 => ?_
                refine WD.q (Y.fieldAddr0 (off := 0) (ft := 3) Try.underlying58 rfl cells3 (.pl rfl)) rfl ?_
                refine WD.q (Y.loadB (v := .int .i64 x20.thing) Try.underlying3 rfl (.pl rfl) (i := 0) rfl (rfl)) rfl ?_
                refine WD.q (Y.lss (.pl rfl) (.pl rfl)) rfl ?_
                refine WD.q (Y.move (.pl rfl)) rfl ?_
                refine WD.g (.pl rfl rfl rfl) (fun hg => Y.fieldAddr0 (off := 0) (ft := 3) Try.underlying58 rfl cells3 (.pl rfl)) rfl ?_
                refine WD.g (.pl rfl rfl rfl) (fun hg => Y.loadB (v := .int .i64 x20.thing) Try.underlying3 rfl (.gd (hg) rfl) (i := 0) rfl (rfl)) rfl ?_
                refine WD.g (.pl rfl rfl rfl) (fun hg => Y.move (.pl rfl)) rfl ?_
                refine WD.g (.pl rfl rfl rfl) (fun hg => Y.len Try.underlying47 (.gd (hg) rfl)) rfl ?_
                refine WD.g (.pl rfl rfl rfl) (fun hg => Y.geq (.gd (hg) rfl) (.gd (hg) rfl)) rfl ?_
                refine WD.q (Y.or (.pl rfl) (fun h2 => .gd (eqf h2) rfl)) rfl ?_
                refine WD.q (Y.move (.pl rfl)) rfl ?_
                refine WD.g (.pl rfl rfl rfl) (fun hg => Y.move (.pl rfl)) rfl ?_
                refine WD.g (.pl rfl rfl rfl) (fun hg => Y.fieldAddr0 (off := 0) (ft := 3) Try.underlying58 rfl cells3 (.pl rfl)) rfl ?_
                refine WD.g (.pl rfl rfl rfl) (fun hg => Y.loadB (v := .int .i64 x20.thing) Try.underlying3 rfl (.gd (hg) rfl) (i := 0) rfl (rfl)) rfl ?_
                obtain ⟨x22, hx22, hF35⟩ := bnd hF35
                refine WD.g (.pl rfl rfl rfl) (fun hg => Y.slEl Try.underlying47 cells3 hs4 (.gd (hg) rfl) (.gd (hg) rfl) (ix_lt (gpos hg hx22))) rfl ?_
                refine WD.g (.pl rfl rfl rfl) (fun hg => Y.loadS (enc := (eI .i64)) (v := .int .i64 x22) (j := 0) Try.underlying3 rfl hs4 (.gd (hg) rfl) (gpos hg hx22) rfl rfl) rfl ?_
                refine WD.g (.pl rfl rfl rfl) (fun hg => Y.fieldAddr0 (off := 1) (ft := 3) Try.underlying58 rfl cells3 (.pl rfl)) rfl ?_
                refine WD.g (.pl rfl rfl rfl) (fun hg => Y.loadB (v := .int .i64 x20.kind) Try.underlying3 rfl (.gd (hg) rfl) (i := 0) rfl (rfl)) rfl ?_
                obtain ⟨r23, hr23, hF35⟩ := bnd hF35
                refine WD.gP (.pl rfl rfl rfl) isGo91 (fun hg => (.cons (.gd (hg) rfl) (.cons (.gd (hg) rfl) (.nil)))) rfl (fun hg wz hw => history_Fits_ok (gpos hg hr23) wz ) ?_
                refine WD.g (.pl rfl rfl rfl) (fun hg => Y.not (.gd (hg) rfl)) rfl ?_
                refine WD.q (Y.or (.pl rfl) (fun h2 => .gd (eqf h2) rfl)) rfl ?_
                refine WD.q (Y.move (.pl rfl)) rfl ?_
                refine WD.g (.pl rfl rfl rfl) (fun hg => Y.fieldAddr0 (off := 1) (ft := 3) Try.underlying58 rfl cells3 (.pl rfl)) rfl ?_
                refine WD.g (.pl rfl rfl rfl) (fun hg => Y.loadB (v := .int .i64 x20.kind) Try.underlying3 rfl (.gd (hg) rfl) (i := 0) rfl (rfl)) rfl ?_
                refine WD.g (.pl rfl rfl rfl) (fun hg => Y.fieldAddr0 (off := 2) (ft := 3) Try.underlying58 rfl cells3 (.pl rfl)) rfl ?_
                refine WD.g (.pl rfl rfl rfl) (fun hg => Y.loadB (v := .int .i64 x20.arg) Try.underlying3 rfl (.gd (hg) rfl) (i := 0) rfl (rfl)) rfl ?_
                obtain ⟨r24, hr24, hF35⟩ := bnd hF35
                refine WD.gP (.pl rfl rfl rfl) isGo92 (fun hg => (.cons (.gd (hg) rfl) (.cons (.gd (hg) rfl) (.nil)))) rfl (fun hg wz hw => history_Argument_ok (gpos hg hr24) wz ) ?_
                refine WD.g (.pl rfl rfl rfl) (fun hg => Y.not (.gd (hg) rfl)) rfl ?_
                refine WD.q (Y.or (.pl rfl) (fun h2 => .gd (eqf h2) rfl)) rfl ?_
                refine WD.next hR42 (.cons (i := 0) rfl (.cons (i := 33) rfl (.cons (i := 34) rfl (.cons (i := 35) rfl (.cons (i := 39) rfl (.cons (i := 40) rfl (.cons (i := 41) rfl (.cons (i := 73) rfl (.nil))))))))) ?_
                refine W.cond (.pl rfl) (fun hC43 => ?_) (fun hC43 => ?_)
                · replace hF35 := cpos hC43 hF35
                  -- region 18: threads.go:27
                  refine W.seqR fun Q44 hQ44 => ?_
                  refine WL.q (Y.assign (.pl rfl)) rfl ?_
                  refine WL.next hQ44 (.cons (i := 4) rfl (.nil)) ?_
                  obtain rfl := Option.some.inj hF35
                  obtain rfl := einr hN35
                  obtain rfl := Option.some.inj hF26
                  obtain rfl := einr hN26
                  obtain rfl := Option.some.inj hF
                  refine W.retV (fn := Try.f63) (vs := [.int .i64 3]) Try.results63 ⟨.tmp rfl, trivial⟩ (fun _ _ h => h) (fun wz hw => ?_)
                  exact hR _ _ ⟨rfl, (hw.pick [] rfl)⟩
                · replace hF35 := cneg hC43 hF35
                  refine W.skip ?_
                  refine W.go hK40 (.cons (i := 0) rfl (.cons (i := 33) rfl (.cons (i := 34) rfl (.cons (i := 35) rfl (.cons (i := 39) rfl (.cons (i := 40) rfl (.cons (i := 41) rfl (.nil)))))))) ?_
                  -- region 19: threads.go:25
                  refine W.reg ?_
                  obtain ⟨hk25, hF35⟩ := ckh hF35
                  refine WL.q (Y.add (.pl rfl) (.pl rfl) (ok64_lt (hk25))) rfl ?_
                  refine WL.q (Y.move (.pl rfl)) rfl ?_
                  refine WL.nil ?_
                  obtain rfl := Option.some.inj hF35
                  exact W.again1 hK36 (v19 + 1) k35 hN35 (Nat.lt_succ_self _) (.cons rfl (.nil)) (.cons (i := 0) rfl (.cons (i := 33) rfl (.cons (i := 34) rfl (.cons (i := 35) rfl (.cons (i := 39) rfl (.cons (i := 40) rfl (.nil))))))) (fun wz hw => hw.pick [] rfl)
              · replace hF35 := cneg hC39 hF35
                refine W.exit ?_
                obtain rfl := Option.some.inj hF35
                exact W.joinAt0 hK32  (einr hN35) (.nil) (.cons (i := 0) rfl (.cons (i := 33) rfl (.cons (i := 34) rfl (.cons (i := 35) rfl (.nil))))) (fun wz hw => hw.pick [] rfl)
            · -- behind
              rintro  rfl
              -- region 20: threads.go:24
              refine W.reg ?_
              obtain ⟨hk26, hF26⟩ := ckh hF26
              refine WL.q (Y.add (.pl rfl) (.pl rfl) (ok64_lt (hk26))) rfl ?_
              refine WL.q (Y.move (.pl rfl)) rfl ?_
              refine WL.nil ?_
              obtain rfl := Option.some.inj hF26
              exact W.again1 hK27 (v17 + 1) k26 hN26 (Nat.lt_succ_self _) (.cons rfl (.nil)) (.cons (i := 0) rfl (.cons (i := 33) rfl (.cons (i := 34) rfl (.nil)))) (fun wz hw => hw.pick [] rfl)
          · replace hF26 := cneg hC30 hF26
            refine W.exit ?_
            obtain rfl := Option.some.inj hF26
            exact W.joinAt0 hK24  (einr hN26) (.nil) (.nil) (fun wz hw => hw.pick [] rfl)
        · -- behind
          rintro  rfl
          -- region 21: threads.go:31
          refine W.seqR fun Q47 hQ47 => ?_
          refine WL.q (Y.assign (.pl rfl)) rfl ?_
          refine WL.next hQ47 (.cons (i := 4) rfl (.nil)) ?_
          obtain rfl := Option.some.inj hF
          refine W.retV (fn := Try.f63) (vs := [.int .i64 0]) Try.results63 ⟨.tmp rfl, trivial⟩ (fun _ _ h => h) (fun wz hw => ?_)
          exact hR _ _ ⟨rfl, (hw.pick [] rfl)⟩

def sites_check_L5 (N : Nat) (people2 : (List (List Ask))) : (Int × Int) → Option ((Int × Int) ⊕ Int)
  | (asks15, v16) =>
    cond (decide (v16 < ((people2).length : Int)))
      (bd (ix people2 v16) fun (x17 : (List Ask)) =>
      ck (ok64 (v16 + 1)) <|
      some (.inl ((IntKind.i64.wrap (asks15 + ((x17).length : Int))), (v16 + 1))))
      (some (.inr asks15))

def sites_check_L7 (N : Nat) (acts7 : (List Act)) (people2 : (List (List Ask))) (sites1 : Int) : Int → Option (Int ⊕ (Unit ⊕ Int))
  | v19 =>
    cond (decide (v19 < ((acts7).length : Int)))
      (bd (ix acts7 v19) fun (x20 : Act) =>
      cond ((decide (x20.kind < 1)) || (decide (4 < x20.kind)))
        (some (.inr (.inr 1)))
        (cond ((decide (x20.kind = 1)) && ((decide (x20.a < 0)) || (decide (((people2).length : Int) ≤ x20.a))))
          (some (.inr (.inr 1)))
          (cond ((decide (x20.kind = 4)) && ((decide (x20.a < 0)) || (decide (sites1 ≤ x20.a))))
            (some (.inr (.inr 1)))
            (ck (ok64 (v19 + 1)) <|
            some (.inl (v19 + 1))))))
      (some (.inr (.inl ())))

def sites_check (N : Nat) (sites1 : Int) (people2 : (List (List Ask))) (acts7 : (List Act)) : Option Int :=
  cond ((decide (sites1 < 1)) || (decide (5 < sites1)))
    (some 1)
    (bd (threads_Check N ([1] : List Int) people2) fun (r13 : Int) =>
    cond (!(decide (r13 = 0)))
      (some r13)
      (bd (α := Int) (iter (sites_check_L5 N people2) N (0, 0)) <|
      fun (asks14 : Int) => 
        cond ((decide (12 < asks14)) || (decide (1000 < ((acts7).length : Int))))
          (some 2)
          (bd (α := (Unit ⊕ Int)) (iter (sites_check_L7 N acts7 people2 sites1) N 0) <|
          Sum.elim (fun _ => 
            some 0) (fun p => some p))))

theorem sites_check_ok {N : Nat} {sites1 : Int} {people2 : (List (List Ask))} {acts7 : (List Act)} {A3 : Option Addr} {c4 : Nat} {hd5 : List Hd} {res : Int} (hF : sites_check N sites1 people2 acts7 = some res) (w : World) (hs6 : SlNN encAsk 3 w A3 c4 hd5 people2) {v11 : Value} (hs10 : SlIn encAct 2 w v11 acts7) :
    Pure Try.prog 51 [.int .i64 sites1, .slice A3 (people2).length c4, v11] w (.int .i64 res) := by
  obtain ⟨A8, c9, rfl, hcc9, hs10⟩ := hs10.form
  refine W.enter (n := 90) Try.func51 rfl rfl Sub.refl (by simp) (St.start w) fun R hR => ?_
  unfold sites_check at hF
  -- region 0: sites.go:138
  refine W.seqR fun Q1 hQ1 => ?_
  refine WL.q (Y.assign (.pl rfl)) rfl ?_
  refine WL.next hQ1 (.cons (i := 0) rfl (.cons (i := 1) rfl (.cons (i := 2) rfl (.nil)))) ?_
  refine W.seq fun K2 hK2 => ?_
  -- region 1: sites.go:139
  refine W.seqR fun Q3 hQ3 => ?_
  refine WL.q (Y.move (.pl rfl)) rfl ?_
  refine WL.q (Y.lss (.pl rfl) (.pl rfl)) rfl ?_
  refine WL.q (Y.move (.pl rfl)) rfl ?_
  refine WL.g (.pl rfl rfl rfl) (fun hg => Y.move (.pl rfl)) rfl ?_
  refine WL.g (.pl rfl rfl rfl) (fun hg => Y.gtr (.gd (hg) rfl) (.pl rfl)) rfl ?_
  refine WL.q (Y.or (.pl rfl) (fun h2 => .gd (eqf h2) rfl)) rfl ?_
  refine WL.next hQ3 (.cons (i := 0) rfl (.cons (i := 1) rfl (.cons (i := 2) rfl (.cons (i := 18) rfl (.nil))))) ?_
  refine W.cond (.pl rfl) (fun hC4 => ?_) (fun hC4 => ?_)
  · replace hF := cpos hC4 hF
    -- region 2: sites.go:140
    refine W.seqR fun Q5 hQ5 => ?_
    refine WL.q (Y.assign (.pl rfl)) rfl ?_
    refine WL.next hQ5 (.cons (i := 6) rfl (.nil)) ?_
    obtain rfl := Option.some.inj hF
    refine W.retV (fn := Try.f51) (vs := [.int .i64 1]) Try.results51 ⟨.tmp rfl, trivial⟩ (fun _ _ h => h) (fun wz hw => ?_)
    exact hR _ _ ⟨rfl, (hw.pick [] rfl)⟩
  · replace hF := cneg hC4 hF
    refine W.skip ?_
    refine W.go hK2 (.cons (i := 0) rfl (.cons (i := 1) rfl (.cons (i := 2) rfl (.nil)))) ?_
    refine W.seq fun K6 hK6 => ?_
    -- region 3: sites.go:142
    refine W.seqR fun Q7 hQ7 => ?_
    refine WL.step (WO.bsliceC (enc := (eI .i64)) (ys := ([1] : List Int)) Try.underlying47 bz3 (.cons (.pl rfl) (.nil)) rfl (fun _ => rfl) rfl rfl (by decide) (by decide) rfl fun b12 => ?_)
    refine WL.q (Y.move (.pl rfl)) rfl ?_
    obtain ⟨r13, hr13, hF⟩ := bnd hF
    refine WL.step (WO.callP isGo63 (.cons (.pl rfl) (.cons (.pl rfl) (.nil))) rfl (fun wz hw => threads_Check_ok (hr13) wz (SlIn.ofRow (fun _ => rfl) hw (i := 0) rfl) (hs6.mono hw)) ?_)
    refine WL.q (Y.assign (.pl rfl)) rfl ?_
    refine WL.next hQ7 (.cons (i := 0) rfl (.cons (i := 1) rfl (.cons (i := 2) rfl (.cons (i := 7) rfl (.nil))))) ?_
    -- region 4: sites.go:142
    refine W.seqR fun Q8 hQ8 => ?_
    refine WL.q (Y.move (.pl rfl)) rfl ?_
    refine WL.q (Y.neq (.pl rfl) (.pl rfl)) rfl ?_
    refine WL.next hQ8 (.cons (i := 0) rfl (.cons (i := 1) rfl (.cons (i := 2) rfl (.cons (i := 7) rfl (.cons (i := 23) rfl (.nil)))))) ?_
    refine W.cond (.pl rfl) (fun hC9 => ?_) (fun hC9 => ?_)
    · replace hF := cpos hC9 hF
      -- region 5: sites.go:143
      refine W.seqR fun Q10 hQ10 => ?_
      refine WL.q (Y.move (.pl rfl)) rfl ?_
      refine WL.q (Y.assign (.pl rfl)) rfl ?_
      refine WL.next hQ10 (.cons (i := 6) rfl (.nil)) ?_
      obtain rfl := Option.some.inj hF
      refine W.retV (fn := Try.f51) (vs := [.int .i64 r13]) Try.results51 ⟨.tmp rfl, trivial⟩ (fun _ _ h => h) (fun wz hw => ?_)
      exact hR _ _ ⟨rfl, (hw.pick [] rfl)⟩
    · replace hF := cneg hC9 hF
      refine W.skip ?_
      refine W.go hK6 (.cons (i := 0) rfl (.cons (i := 1) rfl (.cons (i := 2) rfl (.nil)))) ?_
      -- region 6: sites.go:145
      refine W.seqR fun Q11 hQ11 => ?_
      refine WL.q (Y.assign (.pl rfl)) rfl ?_
      refine WL.next hQ11 (.cons (i := 0) rfl (.cons (i := 1) rfl (.cons (i := 2) rfl (.cons (i := 8) rfl (.nil))))) ?_
      obtain ⟨o12, hF12, hF⟩ := bnd hF
      refine W.join1 (Em := fun (asks14 : Int) => [(8, .int .i64 asks14)]) (M := fun asks14 => []) (I := fun asks14 => asks14 = o12) (.cons (i := 0) rfl (.cons (i := 1) rfl (.cons (i := 2) rfl (.nil)))) (fun K13 hK13 => ?_) ?_
      · -- up to
        -- region 7: sites.go:146
        refine W.seqR fun Q14 hQ14 => ?_
        refine WL.q (Y.move (.pl rfl)) rfl ?_
        refine WL.q (Y.len Try.underlying22 (.pl rfl)) rfl ?_
        refine WL.q (Y.move (.pl rfl)) rfl ?_
        refine WL.next hQ14 (.cons (i := 0) rfl (.cons (i := 1) rfl (.cons (i := 2) rfl (.cons (i := 8) rfl (.cons (i := 25) rfl (.cons (i := 26) rfl (.cons (i := 27) rfl (.nil)))))))) ?_
        refine W.block ?_
        refine W.loop2 (Em := fun (asks15 : Int) (v16 : Int) => [(8, .int .i64 asks15), (27, .int .i64 v16)]) (M := fun asks15 v16 => []) (I := fun asks15 v16 k15 => iter (sites_check_L5 N people2) k15 (asks15, v16) = some o12) 0 0 N (hF12) (.cons rfl (.cons rfl (.nil))) (.cons (i := 0) rfl (.cons (i := 1) rfl (.cons (i := 2) rfl (.cons (i := 25) rfl (.cons (i := 26) rfl (.nil)))))) (fun wz hw => hw.pick [] rfl) (fun asks15 v16 k15 hI K16 hK16 => ?_)
        obtain ⟨k15, t15, rfl, hF15, hN15⟩ := iter_step hI
        -- region 8: sites.go:146
        refine W.seqR fun Q17 hQ17 => ?_
        refine WL.q (Y.lss (.pl rfl) (.pl rfl)) rfl ?_
        refine WL.next hQ17 (.cons (i := 0) rfl (.cons (i := 1) rfl (.cons (i := 2) rfl (.cons (i := 8) rfl (.cons (i := 25) rfl (.cons (i := 26) rfl (.cons (i := 27) rfl (.cons (i := 28) rfl (.nil))))))))) ?_
        refine W.seq fun K18 hK18 => ?_
        refine W.cond (.pl rfl) (fun hC19 => ?_) (fun hC19 => ?_)
        · replace hF15 := cpos hC19 hF15
          refine W.skip ?_
          refine W.go hK18 (.cons (i := 0) rfl (.cons (i := 1) rfl (.cons (i := 2) rfl (.cons (i := 8) rfl (.cons (i := 25) rfl (.cons (i := 26) rfl (.cons (i := 27) rfl (.nil)))))))) ?_
          refine W.seq fun K20 hK20 => ?_
          refine W.block ?_
          -- region 9: sites.go:146
          refine W.seqR fun Q21 hQ21 => ?_
          obtain ⟨x17, hx17, hF15⟩ := bnd hF15
          refine WL.q (Y.nnEl Try.underlying22 cells41 hs6 (.pl rfl) (.pl rfl) (ix_lt (hx17))) rfl ?_
          refine WL.q (Y.loadNN Try.underlying41 rfl hs6 (.pl rfl) (hx17) rfl) rfl ?_
          refine WL.q (Y.assign (.pl rfl)) rfl ?_
          refine WL.next hQ21 (.cons (i := 0) rfl (.cons (i := 1) rfl (.cons (i := 2) rfl (.cons (i := 8) rfl (.cons (i := 10) rfl (.cons (i := 25) rfl (.cons (i := 26) rfl (.cons (i := 27) rfl (.nil))))))))) ?_
          -- region 10: sites.go:147
          refine W.reg ?_
          refine WL.q (Y.move (.pl rfl)) rfl ?_
          refine WL.q (Y.move (.pl rfl)) rfl ?_
          refine WL.q (Y.len Try.underlying41 (.pl rfl)) rfl ?_
          refine WL.q (Y.addW (.pl rfl) (.pl rfl)) rfl ?_
          refine WL.q (Y.assign (.pl rfl)) rfl ?_
          refine WL.nil ?_
          refine W.go hK20 (.cons (i := 0) rfl (.cons (i := 1) rfl (.cons (i := 2) rfl (.cons (i := 8) rfl (.cons (i := 25) rfl (.cons (i := 26) rfl (.cons (i := 27) rfl (.nil)))))))) ?_
          -- region 11: sites.go:146
          refine W.reg ?_
          obtain ⟨hk18, hF15⟩ := ckh hF15
          refine WL.q (Y.add (.pl rfl) (.pl rfl) (ok64_lt (hk18))) rfl ?_
          refine WL.q (Y.move (.pl rfl)) rfl ?_
          refine WL.nil ?_
          obtain rfl := Option.some.inj hF15
          exact W.again2 hK16 (IntKind.i64.wrap (asks15 + ((x17).length : Int))) (v16 + 1) k15 hN15 (Nat.lt_succ_self _) (.cons rfl (.cons rfl (.nil))) (.cons (i := 0) rfl (.cons (i := 1) rfl (.cons (i := 2) rfl (.cons (i := 25) rfl (.cons (i := 26) rfl (.nil)))))) (fun wz hw => hw.pick [] rfl)
        · replace hF15 := cneg hC19 hF15
          refine W.exit ?_
          obtain rfl := Option.some.inj hF15
          exact W.joinAt1 hK13 asks15 (einr hN15) (.cons rfl (.nil)) (.cons (i := 0) rfl (.cons (i := 1) rfl (.cons (i := 2) rfl (.nil)))) (fun wz hw => hw.pick [] rfl)
      · -- behind
        rintro asks14 rfl
        refine W.seq fun K24 hK24 => ?_
        -- region 12: sites.go:149
        refine W.seqR fun Q25 hQ25 => ?_
        refine WL.q (Y.move (.pl rfl)) rfl ?_
        refine WL.q (Y.gtr (.pl rfl) (.pl rfl)) rfl ?_
        refine WL.q (Y.move (.pl rfl)) rfl ?_
        refine WL.g (.pl rfl rfl rfl) (fun hg => Y.move (.pl rfl)) rfl ?_
        refine WL.g (.pl rfl rfl rfl) (fun hg => Y.len Try.underlying23 (.gd (hg) rfl)) rfl ?_
        refine WL.g (.pl rfl rfl rfl) (fun hg => Y.gtr (.gd (hg) rfl) (.pl rfl)) rfl ?_
        refine WL.q (Y.or (.pl rfl) (fun h2 => .gd (eqf h2) rfl)) rfl ?_
        refine WL.next hQ25 (.cons (i := 0) rfl (.cons (i := 1) rfl (.cons (i := 2) rfl (.cons (i := 42) rfl (.nil))))) ?_
        refine W.cond (.pl rfl) (fun hC26 => ?_) (fun hC26 => ?_)
        · replace hF := cpos hC26 hF
          -- region 13: sites.go:150
          refine W.seqR fun Q27 hQ27 => ?_
          refine WL.q (Y.assign (.pl rfl)) rfl ?_
          refine WL.next hQ27 (.cons (i := 6) rfl (.nil)) ?_
          obtain rfl := Option.some.inj hF
          refine W.retV (fn := Try.f51) (vs := [.int .i64 2]) Try.results51 ⟨.tmp rfl, trivial⟩ (fun _ _ h => h) (fun wz hw => ?_)
          exact hR _ _ ⟨rfl, (hw.pick [] rfl)⟩
        · replace hF := cneg hC26 hF
          refine W.skip ?_
          refine W.go hK24 (.cons (i := 0) rfl (.cons (i := 1) rfl (.cons (i := 2) rfl (.nil)))) ?_
          obtain ⟨o28, hF28, hF⟩ := bnd hF
          refine W.join0 (Em := []) (M := []) (I := (.inl ()) = o28) (.nil) (fun K29 hK29 => ?_) ?_
          · -- up to
            -- region 14: sites.go:152
            refine W.seqR fun Q30 hQ30 => ?_
            refine WL.q (Y.move (.pl rfl)) rfl ?_
            refine WL.q (Y.len Try.underlying23 (.pl rfl)) rfl ?_
            refine WL.q (Y.move (.pl rfl)) rfl ?_
            refine WL.next hQ30 (.cons (i := 0) rfl (.cons (i := 1) rfl (.cons (i := 43) rfl (.cons (i := 44) rfl (.cons (i := 45) rfl (.nil)))))) ?_
            refine W.block ?_
            refine W.loop1 (Em := fun (v19 : Int) => [(45, .int .i64 v19)]) (M := fun v19 => []) (I := fun v19 k31 => iter (sites_check_L7 N acts7 people2 sites1) k31 v19 = some o28) 0 N (hF28) (.cons rfl (.nil)) (.cons (i := 0) rfl (.cons (i := 1) rfl (.cons (i := 43) rfl (.cons (i := 44) rfl (.nil))))) (fun wz hw => hw.pick [] rfl) (fun v19 k31 hI K32 hK32 => ?_)
            obtain ⟨k31, t31, rfl, hF31, hN31⟩ := iter_step hI
            -- region 15: sites.go:152
            refine W.seqR fun Q33 hQ33 => ?_
            refine WL.q (Y.lss (.pl rfl) (.pl rfl)) rfl ?_
            refine WL.next hQ33 (.cons (i := 0) rfl (.cons (i := 1) rfl (.cons (i := 43) rfl (.cons (i := 44) rfl (.cons (i := 45) rfl (.cons (i := 46) rfl (.nil))))))) ?_
            refine W.seq fun K34 hK34 => ?_
            refine W.cond (.pl rfl) (fun hC35 => ?_) (fun hC35 => ?_)
            · replace hF31 := cpos hC35 hF31
              refine W.skip ?_
              refine W.go hK34 (.cons (i := 0) rfl (.cons (i := 1) rfl (.cons (i := 43) rfl (.cons (i := 44) rfl (.cons (i := 45) rfl (.nil)))))) ?_
              refine W.seq fun K36 hK36 => ?_
              refine W.block ?_
              -- region 16: sites.go:152
              refine W.seqR fun Q37 hQ37 => ?_
              obtain ⟨x20, hx20, hF31⟩ := bnd hF31
              refine WL.q (Y.slEl Try.underlying23 cells25 hs10 (.pl rfl) (.pl rfl) (ix_lt (hx20))) rfl ?_
              refine WL.q (Y.loadSA (enc := encAct) (ds := (encAct x20)) (j := 0) Try.underlying25 rfl cells25 hs10 (.pl rfl) (hx20) rfl rfl subW) rfl ?_
              refine WL.step (WO.alloc (cs := (encAct (Act.mk 0 0)).toArray) zero25 rfl rfl fun b21 => ?_)
              refine WL.step (WO.storeBA (ds := (encAct x20)) (cs' := (encAct x20)) cells25 (.pl rfl) (.pl rfl) rfl (oneAct _) (i := 0) rfl (lel (o := 0) (l := 2) (m := 2) (by decide) rfl rfl) (putW rfl) ?_)
              refine WL.next hQ37 (.cons (i := 0) rfl (.cons (i := 1) rfl (.cons (i := 12) rfl (.cons (i := 43) rfl (.cons (i := 44) rfl (.cons (i := 45) rfl (.nil))))))) ?_
              refine W.block ?_
              -- region 17: sites.go:154
              refine W.seqR fun Q38 hQ38 => ?_
              refine WL.q (Y.fieldAddr0 (off := 0) (ft := 3) Try.underlying25 rfl cells3 (.pl rfl)) rfl ?_
              refine WL.q (Y.loadB (v := .int .i64 x20.kind) Try.underlying3 rfl (.pl rfl) (i := 0) rfl (rfl)) rfl ?_
              refine WL.q (Y.lss (.pl rfl) (.pl rfl)) rfl ?_
              refine WL.q (Y.move (.pl rfl)) rfl ?_
              refine WL.g (.pl rfl rfl rfl) (fun hg => Y.fieldAddr0 (off := 0) (ft := 3) Try.underlying25 rfl cells3 (.pl rfl)) rfl ?_
              refine WL.g (.pl rfl rfl rfl) (fun hg => Y.loadB (v := .int .i64 x20.kind) Try.underlying3 rfl (.gd (hg) rfl) (i := 0) rfl (rfl)) rfl ?_
              refine WL.g (.pl rfl rfl rfl) (fun hg => Y.gtr (.gd (hg) rfl) (.pl rfl)) rfl ?_
              refine WL.q (Y.or (.pl rfl) (fun h2 => .gd (eqf h2) rfl)) rfl ?_
              refine WL.q (Y.assign (.pl rfl)) rfl ?_
              refine WL.next hQ38 (.cons (i := 0) rfl (.cons (i := 1) rfl (.cons (i := 12) rfl (.cons (i := 43) rfl (.cons (i := 44) rfl (.cons (i := 45) rfl (.cons (i := 49) rfl (.nil)))))))) ?_
              refine W.cond (.pl rfl) (fun hC39 => ?_) (fun hC39 => ?_)
              · replace hF31 := cpos hC39 hF31
                -- region 18: sites.go:155
                refine W.seqR fun Q40 hQ40 => ?_
                refine WL.q (Y.assign (.pl rfl)) rfl ?_
                refine WL.next hQ40 (.cons (i := 6) rfl (.nil)) ?_
                obtain rfl := Option.some.inj hF31
                obtain rfl := einr hN31
                obtain rfl := Option.some.inj hF
                refine W.retV (fn := Try.f51) (vs := [.int .i64 1]) Try.results51 ⟨.tmp rfl, trivial⟩ (fun _ _ h => h) (fun wz hw => ?_)
                exact hR _ _ ⟨rfl, (hw.pick [] rfl)⟩
              · replace hF31 := cneg hC39 hF31
                -- region 19: sites.go:156
                refine W.seqR fun Q41 hQ41 => ?_
                refine WL.q (Y.fieldAddr0 (off := 0) (ft := 3) Try.underlying25 rfl cells3 (.pl rfl)) rfl ?_
                refine WL.q (Y.loadB (v := .int .i64 x20.kind) Try.underlying3 rfl (.pl rfl) (i := 0) rfl (rfl)) rfl ?_
                refine WL.q (Y.eql (.pl rfl) (.pl rfl)) rfl ?_
                refine WL.q (Y.move (.pl rfl)) rfl ?_
                refine WL.g (.pl rfl rfl rfl) (fun hg => Y.fieldAddr0 (off := 1) (ft := 3) Try.underlying25 rfl cells3 (.pl rfl)) rfl ?_
                refine WL.g (.pl rfl rfl rfl) (fun hg => Y.loadB (v := .int .i64 x20.a) Try.underlying3 rfl (.gd (hg) rfl) (i := 0) rfl (rfl)) rfl ?_
                refine WL.g (.pl rfl rfl rfl) (fun hg => Y.lss (.gd (hg) rfl) (.pl rfl)) rfl ?_
                refine WL.g (.pl rfl rfl rfl) (fun hg => Y.move (.gd (hg) rfl)) rfl ?_
                refine WL.g (.gd rfl rfl rfl) (fun hg => Y.fieldAddr0 (off := 1) (ft := 3) Try.underlying25 rfl cells3 (.pl rfl)) rfl ?_
                refine WL.g (.gd rfl rfl rfl) (fun hg => Y.loadB (v := .int .i64 x20.a) Try.underlying3 rfl (.gd (hg) rfl) (i := 0) rfl (rfl)) rfl ?_
                refine WL.g (.gd rfl rfl rfl) (fun hg => Y.move (.pl rfl)) rfl ?_
                refine WL.g (.gd rfl rfl rfl) (fun hg => Y.len Try.underlying22 (.gd (hg) rfl)) rfl ?_
                refine WL.g (.gd rfl rfl rfl) (fun hg => Y.geq (.gd (hg) rfl) (.gd (hg) rfl)) rfl ?_
                refine WL.g (.pl rfl rfl rfl) (fun hg => Y.or (.gd (hg) rfl) (fun h2 => .gd (band hg (eqf h2)) rfl)) rfl ?_
                refine WL.q (Y.and (.pl rfl) (fun h2 => .gd (eqt h2) rfl)) rfl ?_
                refine WL.q (Y.assign (.pl rfl)) rfl ?_
                refine WL.next hQ41 (.cons (i := 0) rfl (.cons (i := 1) rfl (.cons (i := 12) rfl (.cons (i := 43) rfl (.cons (i := 44) rfl (.cons (i := 45) rfl (.cons (i := 58) rfl (.nil)))))))) ?_
                refine W.cond (.pl rfl) (fun hC42 => ?_) (fun hC42 => ?_)
                · replace hF31 := cpos hC42 hF31
                  -- region 20: sites.go:157
                  refine W.seqR fun Q43 hQ43 => ?_
                  refine WL.q (Y.assign (.pl rfl)) rfl ?_
                  refine WL.next hQ43 (.cons (i := 6) rfl (.nil)) ?_
                  obtain rfl := Option.some.inj hF31
                  obtain rfl := einr hN31
                  obtain rfl := Option.some.inj hF
                  refine W.retV (fn := Try.f51) (vs := [.int .i64 1]) Try.results51 ⟨.tmp rfl, trivial⟩ (fun _ _ h => h) (fun wz hw => ?_)
                  exact hR _ _ ⟨rfl, (hw.pick [] rfl)⟩
                · replace hF31 := cneg hC42 hF31
                  -- region 21: sites.go:158
                  refine W.seqR fun Q44 hQ44 => ?_
                  refine WL.q (Y.fieldAddr0 (off := 0) (ft := 3) Try.underlying25 rfl cells3 (.pl rfl)) rfl ?_
                  refine WL.q (Y.loadB (v := .int .i64 x20.kind) Try.underlying3 rfl (.pl rfl) (i := 0) rfl (rfl)) rfl ?_
                  refine WL.q (Y.eql (.pl rfl) (.pl rfl)) rfl ?_
                  refine WL.q (Y.move (.pl rfl)) rfl ?_
                  refine WL.g (.pl rfl rfl rfl) (fun hg => Y.fieldAddr0 (off := 1) (ft := 3) Try.underlying25 rfl cells3 (.pl rfl)) rfl ?_
                  refine WL.g (.pl rfl rfl rfl) (fun hg => Y.loadB (v := .int .i64 x20.a) Try.underlying3 rfl (.gd (hg) rfl) (i := 0) rfl (rfl)) rfl ?_
                  refine WL.g (.pl rfl rfl rfl) (fun hg => Y.lss (.gd (hg) rfl) (.pl rfl)) rfl ?_
                  refine WL.g (.pl rfl rfl rfl) (fun hg => Y.move (.gd (hg) rfl)) rfl ?_
                  refine WL.g (.gd rfl rfl rfl) (fun hg => Y.fieldAddr0 (off := 1) (ft := 3) Try.underlying25 rfl cells3 (.pl rfl)) rfl ?_
                  refine WL.g (.gd rfl rfl rfl) (fun hg => Y.loadB (v := .int .i64 x20.a) Try.underlying3 rfl (.gd (hg) rfl) (i := 0) rfl (rfl)) rfl ?_
                  refine WL.g (.gd rfl rfl rfl) (fun hg => Y.move (.pl rfl)) rfl ?_
                  refine WL.g (.gd rfl rfl rfl) (fun hg => Y.geq (.gd (hg) rfl) (.gd (hg) rfl)) rfl ?_
                  refine WL.g (.pl rfl rfl rfl) (fun hg => Y.or (.gd (hg) rfl) (fun h2 => .gd (band hg (eqf h2)) rfl)) rfl ?_
                  refine WL.q (Y.and (.pl rfl) (fun h2 => .gd (eqt h2) rfl)) rfl ?_
                  refine WL.q (Y.assign (.pl rfl)) rfl ?_
                  refine WL.next hQ44 (.cons (i := 0) rfl (.cons (i := 1) rfl (.cons (i := 43) rfl (.cons (i := 44) rfl (.cons (i := 45) rfl (.cons (i := 74) rfl (.nil))))))) ?_
                  refine W.cond (.pl rfl) (fun hC45 => ?_) (fun hC45 => ?_)
                  · replace hF31 := cpos hC45 hF31
                    -- region 22: sites.go:159
                    refine W.seqR fun Q46 hQ46 => ?_
                    refine WL.q (Y.assign (.pl rfl)) rfl ?_
                    refine WL.next hQ46 (.cons (i := 6) rfl (.nil)) ?_
                    obtain rfl := Option.some.inj hF31
                    obtain rfl := einr hN31
                    obtain rfl := Option.some.inj hF
                    refine W.retV (fn := Try.f51) (vs := [.int .i64 1]) Try.results51 ⟨.tmp rfl, trivial⟩ (fun _ _ h => h) (fun wz hw => ?_)
                    exact hR _ _ ⟨rfl, (hw.pick [] rfl)⟩
                  · replace hF31 := cneg hC45 hF31
                    refine W.skip ?_
                    refine W.go hK36 (.cons (i := 0) rfl (.cons (i := 1) rfl (.cons (i := 43) rfl (.cons (i := 44) rfl (.cons (i := 45) rfl (.nil)))))) ?_
                    -- region 23: sites.go:152
                    refine W.reg ?_
                    obtain ⟨hk22, hF31⟩ := ckh hF31
                    refine WL.q (Y.add (.pl rfl) (.pl rfl) (ok64_lt (hk22))) rfl ?_
                    refine WL.q (Y.move (.pl rfl)) rfl ?_
                    refine WL.nil ?_
                    obtain rfl := Option.some.inj hF31
                    exact W.again1 hK32 (v19 + 1) k31 hN31 (Nat.lt_succ_self _) (.cons rfl (.nil)) (.cons (i := 0) rfl (.cons (i := 1) rfl (.cons (i := 43) rfl (.cons (i := 44) rfl (.nil))))) (fun wz hw => hw.pick [] rfl)
            · replace hF31 := cneg hC35 hF31
              refine W.exit ?_
              obtain rfl := Option.some.inj hF31
              exact W.joinAt0 hK29  (einr hN31) (.nil) (.nil) (fun wz hw => hw.pick [] rfl)
          · -- behind
            rintro  rfl
            -- region 24: sites.go:162
            refine W.seqR fun Q48 hQ48 => ?_
            refine WL.q (Y.assign (.pl rfl)) rfl ?_
            refine WL.next hQ48 (.cons (i := 6) rfl (.nil)) ?_
            obtain rfl := Option.some.inj hF
            refine W.retV (fn := Try.f51) (vs := [.int .i64 0]) Try.results51 ⟨.tmp rfl, trivial⟩ (fun _ _ h => h) (fun wz hw => ?_)
            exact hR _ _ ⟨rfl, (hw.pick [] rfl)⟩

def sites_net_start_L1 (N : Nat) (sites5 : (List Site)) (people23 : (List SitesProcess)) (who16 : Int) (store17 : Bool) (t18 : SitesTag) (value19 : Int) : ((List SitesLetter) × Int) → Option (((List SitesLetter) × Int) ⊕ ((List SitesProcess) × (List SitesLetter)))
  | (letters26, v27) =>
    cond (decide (v27 < ((sites5).length : Int)))
      (bd (ix people23 who16) fun (x28 : SitesProcess) =>
      ck (limB 64 ((letters26).length + (([(SitesLetter.mk who16 x28.round v27 store17 t18 value19 false false)] : List SitesLetter)).length)) <|
      ck (ok64 (v27 + 1)) <|
      some (.inl ((letters26 ++ ([(SitesLetter.mk who16 x28.round v27 store17 t18 value19 false false)] : List SitesLetter)), (v27 + 1))))
      (some (.inr (people23, letters26)))

def sites_net_start (N : Nat) (fast2 : Bool) (sites5 : (List Site)) (people8 : (List SitesProcess)) (letters12 : (List SitesLetter)) (events15 : (List Event)) (who16 : Int) (store17 : Bool) (t18 : SitesTag) (value19 : Int) : Option ((List SitesProcess) × (List SitesLetter)) :=
  bd (ix people8 who16) fun (x21 : SitesProcess) =>
  ck (ok64 (x21.round + 1)) <|
  bd (α := (List SitesProcess)) (cond store17
      (some (((((((people8.set who16.toNat (SitesProcess.mk x21.program x21.pending (x21.round + 1) x21.store x21.replies x21.best x21.value)).set who16.toNat (SitesProcess.mk x21.program x21.pending (x21.round + 1) store17 x21.replies x21.best x21.value)).set who16.toNat (SitesProcess.mk x21.program x21.pending (x21.round + 1) store17 0 x21.best x21.value)).set who16.toNat (SitesProcess.mk x21.program x21.pending (x21.round + 1) store17 0 (SitesTag.mk (-1) (-1)) x21.value)).set who16.toNat (SitesProcess.mk x21.program x21.pending (x21.round + 1) store17 0 (SitesTag.mk (-1) (-1)) 0)).set who16.toNat (SitesProcess.mk x21.program x21.pending (x21.round + 1) store17 0 t18 0)).set who16.toNat (SitesProcess.mk x21.program x21.pending (x21.round + 1) store17 0 t18 value19)))
      (some (((((people8.set who16.toNat (SitesProcess.mk x21.program x21.pending (x21.round + 1) x21.store x21.replies x21.best x21.value)).set who16.toNat (SitesProcess.mk x21.program x21.pending (x21.round + 1) store17 x21.replies x21.best x21.value)).set who16.toNat (SitesProcess.mk x21.program x21.pending (x21.round + 1) store17 0 x21.best x21.value)).set who16.toNat (SitesProcess.mk x21.program x21.pending (x21.round + 1) store17 0 (SitesTag.mk (-1) (-1)) x21.value)).set who16.toNat (SitesProcess.mk x21.program x21.pending (x21.round + 1) store17 0 (SitesTag.mk (-1) (-1)) 0)))) <|
  fun (people23 : (List SitesProcess)) => 
    bd (α := ((List SitesProcess) × (List SitesLetter))) (iter (sites_net_start_L1 N sites5 people23 who16 store17 t18 value19) N (letters12, 0)) <| fun p => some p

theorem sites_net_start_ok {N : Nat} {fast2 : Bool} {sites5 : (List Site)} {people8 : (List SitesProcess)} {letters12 : (List SitesLetter)} {events15 : (List Event)} {who16 : Int} {store17 : Bool} {t18 : SitesTag} {value19 : Int} {b1 : Nat} {A3 : Option Addr} {c4 : Nat} {A6 : Option Addr} {c7 : Nat} {hd9 : List Hd} {A10 : Option Addr} {c11 : Nat} {A13 : Option Addr} {c14 : Nat} {res : ((List SitesProcess) × (List SitesLetter))} (hF : sites_net_start N fast2 sites5 people8 letters12 events15 who16 store17 t18 value19 = some res) {w0 w : World} {T : List Chunk} (hw : St w0.heap.size w0 ([cBx b1 95 (Value.bool fast2 :: (Value.slice A3 (sites5).length c4 :: (Value.slice A6 (people8).length c7 :: (Value.slice A10 (letters12).length c11 :: (Value.slice A13 (events15).length c14 :: []))))), cR encSite 4 A3 c4 39 sites5, cN encNSitesProcess (innNSitesProcess w0) 8 A6 c7 99 hd9 people8, cR encSitesLetter 9 A10 c11 172 letters12, cR encEvent 4 A13 c14 34 events15] ++ T) w) :
    Calls Try.prog 86 (List.toArray [.pointer (some ⟨b1, 0, none⟩), .int .i64 who16, .bool store17, .agg (encSitesTag t18).toArray, .int .i64 value19]) w (fun e w' => ∃ g : (Option Addr × Nat), (True) ∧ e = .returned (.tuple #[]) ∧ St w0.heap.size w0 ([cBx b1 95 (Value.bool fast2 :: (Value.slice A3 (sites5).length c4 :: (Value.slice A6 (res.1).length c7 :: (Value.slice g.1 (res.2).length g.2 :: (Value.slice A13 (events15).length c14 :: []))))), cR encSite 4 A3 c4 39 sites5, cN encNSitesProcess (innNSitesProcess w0) 8 A6 c7 99 hd9 res.1, cR encSitesLetter 9 g.1 g.2 172 res.2, cR encEvent 4 A13 c14 34 events15] ++ T) w') := by
  refine W.enter (n := 76) Try.func86 rfl rfl Sub.refl (by simp) hw fun R hR => ?_
  unfold sites_net_start at hF
  -- region 0: sites.go:47
  refine W.know (fun wz hwz => bor_of (h0 := ((none, 0) : Hd)) (q := fun h a => SlIn encAsk 3 w0 (.slice h.1 a.program.length h.2) a.program) hwz (i := 2) rfl (fun _ _ => .head _)) (fun hbor2 => ?_)
  refine W.seqR fun Q1 hQ1 => ?_
  refine WL.step (WO.boxA (.pl rfl) rfl fun b20 => ?_)
  refine WL.next hQ1 (.cons (i := 0) rfl (.cons (i := 1) rfl (.cons (i := 2) rfl (.cons (i := 4) rfl (.cons (i := 8) rfl (.nil)))))) ?_
  -- region 1: sites.go:48
  refine W.seqR fun Q3 hQ3 => ?_
  refine WL.q (Y.move (.pl rfl)) rfl ?_
  refine WL.q (Y.nilCheck (.pl rfl)) rfl ?_
  refine WL.q (Y.fieldAddr0 (off := 2) (ft := 92) Try.underlying95 rfl cells92 (.pl rfl)) rfl ?_
  refine WL.q (Y.loadB (v := .slice A6 (people8).length c7) Try.underlying92 rfl (.pl rfl) (i := 1) rfl (rfl)) rfl ?_
  refine WL.q (Y.move (.pl rfl)) rfl ?_
  obtain ⟨x21, hx21, hF⟩ := bnd hF
  refine WL.q (Y.nEl Try.underlying92 cells99 (i := 3) rfl (.pl rfl) rfl (.pl rfl) (ix_lt (hx21))) rfl ?_
  refine WL.q (Y.assign (.pl rfl)) rfl ?_
  refine WL.next hQ3 (.cons (i := 0) rfl (.cons (i := 1) rfl (.cons (i := 2) rfl (.cons (i := 4) rfl (.cons (i := 8) rfl (.cons (i := 10) rfl (.nil))))))) ?_
  -- region 2: sites.go:49
  refine W.seqR fun Q4 hQ4 => ?_
  refine WL.q (Y.move (.pl rfl)) rfl ?_
  refine WL.q (Y.nilCheck (.pl rfl)) rfl ?_
  refine WL.q (Y.nField (off := 2) (ft := 3) Try.underlying99 rfl cells3 (i' := 3) rfl (ix_lt (hx21)) (.pl rfl)) rfl ?_
  refine WL.q (Y.loadN (enc := encNSitesProcess) (h0 := ((none, 0) : Hd)) (v := .int .i64 x21.round) (a := (SitesProcess.mk x21.program x21.pending x21.round x21.store x21.replies x21.best x21.value)) (idx := who16) (j := 2) Try.underlying3 rfl lenNSitesProcess (i := 3) rfl (.pl rfl) (ix_get (hx21)) rfl rfl) rfl ?_
  obtain ⟨hk22, hF⟩ := ckh hF
  refine WL.q (Y.add (.pl rfl) (.pl rfl) (ok64_lt (hk22))) rfl ?_
  refine WL.q (Y.nilCheck (.pl rfl)) rfl ?_
  refine WL.q (Y.nField (off := 2) (ft := 3) Try.underlying99 rfl cells3 (i' := 3) rfl (ix_lt (hx21)) (.pl rfl)) rfl ?_
  refine WL.step (WO.storeN0 (enc := encNSitesProcess) (inn := (innNSitesProcess w0)) (h0 := ((none, 0) : Hd)) (a := (SitesProcess.mk x21.program x21.pending x21.round x21.store x21.replies x21.best x21.value)) (a' := (SitesProcess.mk x21.program x21.pending (x21.round + 1) x21.store x21.replies x21.best x21.value)) (idx := who16) (j := 2) cells3 (.pl rfl) (.pl rfl) rfl lenNSitesProcess (i := 3) rfl (ix_get (hx21)) rfl (by decide) rfl rfl ?_)
  refine WL.next hQ4 (.cons (i := 0) rfl (.cons (i := 1) rfl (.cons (i := 2) rfl (.cons (i := 4) rfl (.cons (i := 8) rfl (.cons (i := 10) rfl (.nil))))))) ?_
  -- region 3: sites.go:50
  refine W.know (fun wz hwz => bor_of (h0 := ((none, 0) : Hd)) (q := fun h a => SlIn encAsk 3 w0 (.slice h.1 a.program.length h.2) a.program) hwz (i := 0) rfl (fun _ _ => .head _)) (fun hbor6 => ?_)
  refine W.seqR fun Q5 hQ5 => ?_
  refine WL.q (Y.move (.pl rfl)) rfl ?_
  refine WL.q (Y.move (.pl rfl)) rfl ?_
  refine WL.q (Y.move (.pl rfl)) rfl ?_
  refine WL.q (Y.nilCheck (.pl rfl)) rfl ?_
  refine WL.q (Y.nField (off := 3) (ft := 4) Try.underlying99 rfl cells4 (i' := 0) rfl (⟨(ix_lt (hx21)).1, by simpa only [List.length_set] using (ix_lt (hx21)).2⟩) (.pl rfl)) rfl ?_
  refine WL.step (WO.storeN0 (enc := encNSitesProcess) (inn := (innNSitesProcess w0)) (h0 := ((none, 0) : Hd)) (a := (SitesProcess.mk x21.program x21.pending (x21.round + 1) x21.store x21.replies x21.best x21.value)) (a' := (SitesProcess.mk x21.program x21.pending (x21.round + 1) store17 x21.replies x21.best x21.value)) (idx := who16) (j := 3) cells4 (.pl rfl) (.pl rfl) rfl lenNSitesProcess (i := 0) rfl (setget (ix_lt (hx21))) rfl (by decide) rfl rfl ?_)
  refine WL.q (Y.nilCheck (.pl rfl)) rfl ?_
  refine WL.q (Y.nField (off := 4) (ft := 3) Try.underlying99 rfl cells3 (i' := 0) rfl (⟨(ix_lt (hx21)).1, by simpa only [List.length_set] using (ix_lt (hx21)).2⟩) (.pl rfl)) rfl ?_
  refine WL.step (WO.storeN0 (enc := encNSitesProcess) (inn := (innNSitesProcess w0)) (h0 := ((none, 0) : Hd)) (a := (SitesProcess.mk x21.program x21.pending (x21.round + 1) store17 x21.replies x21.best x21.value)) (a' := (SitesProcess.mk x21.program x21.pending (x21.round + 1) store17 0 x21.best x21.value)) (idx := who16) (j := 4) cells3 (.pl rfl) (.pl rfl) rfl lenNSitesProcess (i := 0) rfl (setget (⟨(ix_lt (hx21)).1, by simpa only [List.length_set] using (ix_lt (hx21)).2⟩)) rfl (by decide) rfl rfl ?_)
  refine WL.next hQ5 (.cons (i := 0) rfl (.cons (i := 1) rfl (.cons (i := 2) rfl (.cons (i := 4) rfl (.cons (i := 8) rfl (.cons (i := 10) rfl (.nil))))))) ?_
  -- region 4: sites.go:51
  refine W.know (fun wz hwz => bor_of (h0 := ((none, 0) : Hd)) (q := fun h a => SlIn encAsk 3 w0 (.slice h.1 a.program.length h.2) a.program) hwz (i := 0) rfl (fun _ _ => .head _)) (fun hbor8 => ?_)
  refine W.seqR fun Q7 hQ7 => ?_
  refine WL.q (Y.move (.pl rfl)) rfl ?_
  refine WL.q (Y.move (.pl rfl)) rfl ?_
  refine WL.q (Y.build (cs := (encSitesTag (SitesTag.mk (-1) (-1))).toArray) shape97 (.cons (.pl rfl) (.cons (.pl rfl) (.nil))) (one_parts ⟨rfl, ⟨rfl, trivial⟩⟩) rfl) rfl ?_
  refine WL.q (Y.nilCheck (.pl rfl)) rfl ?_
  refine WL.q (Y.nField (off := 5) (ft := 97) Try.underlying99 rfl cells97 (i' := 0) rfl (⟨(ix_lt (hx21)).1, by simpa only [List.length_set] using (ix_lt (hx21)).2⟩) (.pl rfl)) rfl ?_
  refine WL.step (WO.storeNA0 (enc := encNSitesProcess) (inn := (innNSitesProcess w0)) (h0 := ((none, 0) : Hd)) (ds := (encSitesTag (SitesTag.mk (-1) (-1)))) (a := (SitesProcess.mk x21.program x21.pending (x21.round + 1) store17 0 x21.best x21.value)) (a' := (SitesProcess.mk x21.program x21.pending (x21.round + 1) store17 0 (SitesTag.mk (-1) (-1)) x21.value)) (idx := who16) (j := 5) cells97 (.pl rfl) (.pl rfl) rfl (oneSitesTag _) lenNSitesProcess (i := 0) rfl (setget (⟨(ix_lt (hx21)).1, by simpa only [List.length_set] using (ix_lt (hx21)).2⟩)) rfl (by decide) rfl rfl ?_)
  refine WL.q (Y.nilCheck (.pl rfl)) rfl ?_
  refine WL.q (Y.nField (off := 7) (ft := 3) Try.underlying99 rfl cells3 (i' := 0) rfl (⟨(ix_lt (hx21)).1, by simpa only [List.length_set] using (ix_lt (hx21)).2⟩) (.pl rfl)) rfl ?_
  refine WL.step (WO.storeN0 (enc := encNSitesProcess) (inn := (innNSitesProcess w0)) (h0 := ((none, 0) : Hd)) (a := (SitesProcess.mk x21.program x21.pending (x21.round + 1) store17 0 (SitesTag.mk (-1) (-1)) x21.value)) (a' := (SitesProcess.mk x21.program x21.pending (x21.round + 1) store17 0 (SitesTag.mk (-1) (-1)) 0)) (idx := who16) (j := 7) cells3 (.pl rfl) (.pl rfl) rfl lenNSitesProcess (i := 0) rfl (setget (⟨(ix_lt (hx21)).1, by simpa only [List.length_set] using (ix_lt (hx21)).2⟩)) rfl (by decide) rfl rfl ?_)
  refine WL.next hQ7 (.cons (i := 0) rfl (.cons (i := 1) rfl (.cons (i := 2) rfl (.cons (i := 4) rfl (.cons (i := 8) rfl (.cons (i := 10) rfl (.nil))))))) ?_
  obtain ⟨o9, hF9, hF⟩ := bnd hF
  refine W.join1 (Em := fun (people23 : (List SitesProcess)) => []) (M := fun people23 => ([cBx b1 95 (Value.bool fast2 :: (Value.slice A3 (sites5).length c4 :: (Value.slice A6 (people23).length c7 :: (Value.slice A10 (letters12).length c11 :: (Value.slice A13 (events15).length c14 :: []))))), cR encSite 4 A3 c4 39 sites5, cN encNSitesProcess (innNSitesProcess w0) 8 A6 c7 99 hd9 people23, cR encSitesLetter 9 A10 c11 172 letters12, cR encEvent 4 A13 c14 34 events15, cBx b20 97 (encSitesTag t18)] ++ T)) (I := fun people23 => people23 = o9) (.cons (i := 0) rfl (.cons (i := 1) rfl (.cons (i := 2) rfl (.cons (i := 4) rfl (.cons (i := 8) rfl (.cons (i := 10) rfl (.nil))))))) (fun K10 hK10 => ?_) ?_
  · -- up to
    -- region 5: sites.go:52
    refine W.know (fun wz hwz => bor_of (h0 := ((none, 0) : Hd)) (q := fun h a => SlIn encAsk 3 w0 (.slice h.1 a.program.length h.2) a.program) hwz (i := 0) rfl (fun _ _ => .head _)) (fun hbor12 => ?_)
    refine W.seqR fun Q11 hQ11 => ?_
    refine WL.q (Y.move (.pl rfl)) rfl ?_
    refine WL.next hQ11 (.cons (i := 0) rfl (.cons (i := 1) rfl (.cons (i := 2) rfl (.cons (i := 4) rfl (.cons (i := 8) rfl (.cons (i := 10) rfl (.cons (i := 39) rfl (.nil)))))))) ?_
    refine W.cond (.pl rfl) (fun hC13 => ?_) (fun hC13 => ?_)
    · replace hF9 := cpos hC13 hF9
      -- region 6: sites.go:53
      refine W.reg ?_
      refine WL.q (Y.move (.pl rfl)) rfl ?_
      refine WL.q (Y.move (.pl rfl)) rfl ?_
      refine WL.q (Y.loadBA (ds := (encSitesTag t18)) Try.underlying97 rfl cells97 (.pl rfl) (i := 1) rfl rfl subW) rfl ?_
      refine WL.q (Y.move (.pl rfl)) rfl ?_
      refine WL.q (Y.nilCheck (.pl rfl)) rfl ?_
      refine WL.q (Y.nField (off := 5) (ft := 97) Try.underlying99 rfl cells97 (i' := 0) rfl (⟨(ix_lt (hx21)).1, by simpa only [List.length_set] using (ix_lt (hx21)).2⟩) (.pl rfl)) rfl ?_
      refine WL.step (WO.storeNA0 (enc := encNSitesProcess) (inn := (innNSitesProcess w0)) (h0 := ((none, 0) : Hd)) (ds := (encSitesTag t18)) (a := (SitesProcess.mk x21.program x21.pending (x21.round + 1) store17 0 (SitesTag.mk (-1) (-1)) 0)) (a' := (SitesProcess.mk x21.program x21.pending (x21.round + 1) store17 0 t18 0)) (idx := who16) (j := 5) cells97 (.pl rfl) (.pl rfl) rfl (oneSitesTag _) lenNSitesProcess (i := 0) rfl (setget (⟨(ix_lt (hx21)).1, by simpa only [List.length_set] using (ix_lt (hx21)).2⟩)) rfl (by decide) rfl rfl ?_)
      refine WL.q (Y.nilCheck (.pl rfl)) rfl ?_
      refine WL.q (Y.nField (off := 7) (ft := 3) Try.underlying99 rfl cells3 (i' := 0) rfl (⟨(ix_lt (hx21)).1, by simpa only [List.length_set] using (ix_lt (hx21)).2⟩) (.pl rfl)) rfl ?_
      refine WL.step (WO.storeN0 (enc := encNSitesProcess) (inn := (innNSitesProcess w0)) (h0 := ((none, 0) : Hd)) (a := (SitesProcess.mk x21.program x21.pending (x21.round + 1) store17 0 t18 0)) (a' := (SitesProcess.mk x21.program x21.pending (x21.round + 1) store17 0 t18 value19)) (idx := who16) (j := 7) cells3 (.pl rfl) (.pl rfl) rfl lenNSitesProcess (i := 0) rfl (setget (⟨(ix_lt (hx21)).1, by simpa only [List.length_set] using (ix_lt (hx21)).2⟩)) rfl (by decide) rfl rfl ?_)
      refine WL.nil ?_
      exact W.joinAt1 hK10 (((((((people8.set who16.toNat (SitesProcess.mk x21.program x21.pending (x21.round + 1) x21.store x21.replies x21.best x21.value)).set who16.toNat (SitesProcess.mk x21.program x21.pending (x21.round + 1) store17 x21.replies x21.best x21.value)).set who16.toNat (SitesProcess.mk x21.program x21.pending (x21.round + 1) store17 0 x21.best x21.value)).set who16.toNat (SitesProcess.mk x21.program x21.pending (x21.round + 1) store17 0 (SitesTag.mk (-1) (-1)) x21.value)).set who16.toNat (SitesProcess.mk x21.program x21.pending (x21.round + 1) store17 0 (SitesTag.mk (-1) (-1)) 0)).set who16.toNat (SitesProcess.mk x21.program x21.pending (x21.round + 1) store17 0 t18 0)).set who16.toNat (SitesProcess.mk x21.program x21.pending (x21.round + 1) store17 0 t18 value19)) (Option.some.inj hF9) (.nil) (.cons (i := 0) rfl (.cons (i := 1) rfl (.cons (i := 2) rfl (.cons (i := 4) rfl (.cons (i := 8) rfl (.cons (i := 10) rfl (.nil))))))) (fun wz hw => St.cong (L := ([cBx b1 95 (Value.bool fast2 :: (Value.slice A3 (sites5).length c4 :: (Value.slice A6 (people8).length c7 :: (Value.slice A10 (letters12).length c11 :: (Value.slice A13 (events15).length c14 :: []))))), cR encSite 4 A3 c4 39 sites5, cN encNSitesProcess (innNSitesProcess w0) 8 A6 c7 99 hd9 (((((((people8.set who16.toNat (SitesProcess.mk x21.program x21.pending (x21.round + 1) x21.store x21.replies x21.best x21.value)).set who16.toNat (SitesProcess.mk x21.program x21.pending (x21.round + 1) store17 x21.replies x21.best x21.value)).set who16.toNat (SitesProcess.mk x21.program x21.pending (x21.round + 1) store17 0 x21.best x21.value)).set who16.toNat (SitesProcess.mk x21.program x21.pending (x21.round + 1) store17 0 (SitesTag.mk (-1) (-1)) x21.value)).set who16.toNat (SitesProcess.mk x21.program x21.pending (x21.round + 1) store17 0 (SitesTag.mk (-1) (-1)) 0)).set who16.toNat (SitesProcess.mk x21.program x21.pending (x21.round + 1) store17 0 t18 0)).set who16.toNat (SitesProcess.mk x21.program x21.pending (x21.round + 1) store17 0 t18 value19)), cR encSitesLetter 9 A10 c11 172 letters12, cR encEvent 4 A13 c14 34 events15, cBx b20 97 (encSitesTag t18)] ++ T)) (hw.pickK 6 [2, 3, 0, 4, 5, 1] rfl) (by simp only [List.length_set, List.nil_append, List.cons_append]))
    · replace hF9 := cneg hC13 hF9
      refine W.skip ?_
      exact W.joinAt1 hK10 (((((people8.set who16.toNat (SitesProcess.mk x21.program x21.pending (x21.round + 1) x21.store x21.replies x21.best x21.value)).set who16.toNat (SitesProcess.mk x21.program x21.pending (x21.round + 1) store17 x21.replies x21.best x21.value)).set who16.toNat (SitesProcess.mk x21.program x21.pending (x21.round + 1) store17 0 x21.best x21.value)).set who16.toNat (SitesProcess.mk x21.program x21.pending (x21.round + 1) store17 0 (SitesTag.mk (-1) (-1)) x21.value)).set who16.toNat (SitesProcess.mk x21.program x21.pending (x21.round + 1) store17 0 (SitesTag.mk (-1) (-1)) 0)) (Option.some.inj hF9) (.nil) (.cons (i := 0) rfl (.cons (i := 1) rfl (.cons (i := 2) rfl (.cons (i := 4) rfl (.cons (i := 8) rfl (.cons (i := 10) rfl (.nil))))))) (fun wz hw => St.cong (L := ([cBx b1 95 (Value.bool fast2 :: (Value.slice A3 (sites5).length c4 :: (Value.slice A6 (people8).length c7 :: (Value.slice A10 (letters12).length c11 :: (Value.slice A13 (events15).length c14 :: []))))), cR encSite 4 A3 c4 39 sites5, cN encNSitesProcess (innNSitesProcess w0) 8 A6 c7 99 hd9 (((((people8.set who16.toNat (SitesProcess.mk x21.program x21.pending (x21.round + 1) x21.store x21.replies x21.best x21.value)).set who16.toNat (SitesProcess.mk x21.program x21.pending (x21.round + 1) store17 x21.replies x21.best x21.value)).set who16.toNat (SitesProcess.mk x21.program x21.pending (x21.round + 1) store17 0 x21.best x21.value)).set who16.toNat (SitesProcess.mk x21.program x21.pending (x21.round + 1) store17 0 (SitesTag.mk (-1) (-1)) x21.value)).set who16.toNat (SitesProcess.mk x21.program x21.pending (x21.round + 1) store17 0 (SitesTag.mk (-1) (-1)) 0)), cR encSitesLetter 9 A10 c11 172 letters12, cR encEvent 4 A13 c14 34 events15, cBx b20 97 (encSitesTag t18)] ++ T)) (hw.pickK 6 [2, 3, 0, 4, 5, 1] rfl) (by simp only [List.length_set, List.nil_append, List.cons_append]))
  · -- behind
    rintro people23 rfl
    -- region 7: sites.go:55
    refine W.know (fun wz hwz => bor_of (h0 := ((none, 0) : Hd)) (q := fun h a => SlIn encAsk 3 w0 (.slice h.1 a.program.length h.2) a.program) hwz (i := 2) rfl (fun _ _ => .head _)) (fun hbor16 => ?_)
    refine W.seqR fun Q15 hQ15 => ?_
    refine WL.q (Y.move (.pl rfl)) rfl ?_
    refine WL.q (Y.nilCheck (.pl rfl)) rfl ?_
    refine WL.q (Y.fieldAddr0 (off := 1) (ft := 27) Try.underlying95 rfl cells27 (.pl rfl)) rfl ?_
    refine WL.q (Y.loadB (v := .slice A3 (sites5).length c4) Try.underlying27 rfl (.pl rfl) (i := 0) rfl (rfl)) rfl ?_
    refine WL.q (Y.len Try.underlying27 (.pl rfl)) rfl ?_
    refine WL.q (Y.move (.pl rfl)) rfl ?_
    refine WL.next hQ15 (.cons (i := 0) rfl (.cons (i := 1) rfl (.cons (i := 2) rfl (.cons (i := 4) rfl (.cons (i := 8) rfl (.cons (i := 10) rfl (.cons (i := 52) rfl (.cons (i := 53) rfl (.nil))))))))) ?_
    refine W.block ?_
    obtain ⟨o17, hL17, hF⟩ := bnd hF
    refine W.loop4 (Em := fun (letters26 : (List SitesLetter)) (v27 : Int) (A24 : Option Addr) (c25 : Nat) => [(53, .int .i64 v27)]) (M := fun letters26 v27 A24 c25 => ([cBx b1 95 (Value.bool fast2 :: (Value.slice A3 (sites5).length c4 :: (Value.slice A6 (people23).length c7 :: (Value.slice A24 (letters26).length c25 :: (Value.slice A13 (events15).length c14 :: []))))), cR encSite 4 A3 c4 39 sites5, cN encNSitesProcess (innNSitesProcess w0) 8 A6 c7 99 hd9 people23, cR encSitesLetter 9 A24 c25 172 letters26, cR encEvent 4 A13 c14 34 events15, cBx b20 97 (encSitesTag t18)] ++ T)) (I := fun letters26 v27 A24 c25 k17 => iter (sites_net_start_L1 N sites5 people23 who16 store17 t18 value19) k17 (letters26, v27) = some o17) letters12 0 A10 c11 N (hL17) (.cons rfl (.nil)) (.cons (i := 0) rfl (.cons (i := 1) rfl (.cons (i := 2) rfl (.cons (i := 4) rfl (.cons (i := 8) rfl (.cons (i := 10) rfl (.cons (i := 52) rfl (.nil)))))))) (fun wz hw => hw.pickK 6 [0, 1, 2, 3, 4, 5] rfl) (fun letters26 v27 A24 c25 k17 hI K18 hK18 => ?_)
    obtain ⟨k17, t17, rfl, hF17, hN17⟩ := iter_step hI
    -- region 8: sites.go:55
    refine W.know (fun wz hwz => bor_of (h0 := ((none, 0) : Hd)) (q := fun h a => SlIn encAsk 3 w0 (.slice h.1 a.program.length h.2) a.program) hwz (i := 2) rfl (fun _ _ => .head _)) (fun hbor20 => ?_)
    refine W.seqR fun Q19 hQ19 => ?_
    refine WL.q (Y.lss (.pl rfl) (.pl rfl)) rfl ?_
    refine WL.next hQ19 (.cons (i := 0) rfl (.cons (i := 1) rfl (.cons (i := 2) rfl (.cons (i := 4) rfl (.cons (i := 8) rfl (.cons (i := 10) rfl (.cons (i := 52) rfl (.cons (i := 53) rfl (.cons (i := 54) rfl (.nil)))))))))) ?_
    refine W.seq fun K21 hK21 => ?_
    refine W.cond (.pl rfl) (fun hC22 => ?_) (fun hC22 => ?_)
    · replace hF17 := cpos hC22 hF17
      refine W.skip ?_
      refine W.go hK21 (.cons (i := 0) rfl (.cons (i := 1) rfl (.cons (i := 2) rfl (.cons (i := 4) rfl (.cons (i := 8) rfl (.cons (i := 10) rfl (.cons (i := 52) rfl (.cons (i := 53) rfl (.nil))))))))) ?_
      refine W.seq fun K23 hK23 => ?_
      refine W.block ?_
      -- region 9: sites.go:55
      refine W.seqR fun Q24 hQ24 => ?_
      refine WL.q (Y.move (.pl rfl)) rfl ?_
      refine WL.q (Y.assign (.pl rfl)) rfl ?_
      refine WL.next hQ24 (.cons (i := 0) rfl (.cons (i := 1) rfl (.cons (i := 2) rfl (.cons (i := 4) rfl (.cons (i := 8) rfl (.cons (i := 10) rfl (.cons (i := 11) rfl (.cons (i := 52) rfl (.cons (i := 53) rfl (.nil)))))))))) ?_
      -- region 10: sites.go:56
      refine W.know (fun wz hw => n_okA0 hw (i := 2) rfl) (fun hok26 => ?_)
      refine W.regX 16 (by kernel_rfl) ?_
      refine WX.pure 0 #[true, false, false, false, false, false, false, false, false, false, false, false, false, false, false, false, false, false, false, false] rfl (by kernel_rfl) (fun _ _ => Y.move (.pl rfl)) rfl ?_
      refine WX.pure 1 #[true, true, false, false, false, false, false, false, false, false, false, false, false, false, false, false, false, false, false, false] rfl (by kernel_rfl) (fun _ _ => Y.move (.pl rfl)) rfl ?_
      refine WX.pure 2 #[true, true, true, false, false, false, false, false, false, false, false, false, false, false, false, false, false, false, false, false] rfl (by kernel_rfl) (fun _ _ => Y.nilCheck (.pl rfl)) rfl ?_
      refine WX.pure 3 #[true, true, true, true, false, false, false, false, false, false, false, false, false, false, false, false, false, false, false, false] rfl (by kernel_rfl) (fun _ _ => Y.fieldAddr0 (off := 3) (ft := 93) Try.underlying95 rfl cells93 (.pl rfl)) rfl ?_
      refine WX.take 4 #[true, true, true, true, true, false, false, false, false, false, false, false, false, false, false, false, false, false, false, false] (fun wz hw => St.tail [] hw) rfl (by kernel_rfl) (Y.loadB (v := .slice A24 (letters26).length c25) Try.underlying93 rfl (.pl rfl) (i := 0) rfl (rfl)) rfl ?_
      refine WX.pure 5 #[true, true, true, true, true, true, false, false, false, false, false, false, false, false, false, false, false, false, false, false] rfl (by kernel_rfl) (fun _ _ => Y.move (.pl rfl)) rfl ?_
      refine WX.pure 6 #[true, true, true, true, true, true, true, false, false, false, false, false, false, false, false, false, false, false, false, false] rfl (by kernel_rfl) (fun _ _ => Y.move (.pl rfl)) rfl ?_
      refine WX.pure 7 #[true, true, true, true, true, true, true, true, false, false, false, false, false, false, false, false, false, false, false, false] rfl (by kernel_rfl) (fun _ _ => Y.nilCheck (.pl rfl)) rfl ?_
      obtain ⟨x28, hx28, hF17⟩ := bnd hF17
      refine WX.take 8 #[true, true, true, true, true, true, true, true, true, false, false, false, false, false, false, false, false, false, false, false] (fun wz hw => St.tail [] hw) rfl (by kernel_rfl) (Y.okField (off := 2) (ft := 3) Try.underlying99 rfl cells3 hok26 (by have := (ix_lt (hx28)); omega) (.pl rfl)) rfl ?_
      refine WX.take 9 #[true, true, true, true, true, true, true, true, true, true, false, false, false, false, false, false, false, false, false, false] (fun wz hw => St.tail [] hw) rfl (by kernel_rfl) (Y.loadN (enc := encNSitesProcess) (h0 := ((none, 0) : Hd)) (v := .int .i64 x28.round) (a := (SitesProcess.mk x28.program x28.pending x28.round x28.store x28.replies x28.best x28.value)) (idx := who16) (j := 2) Try.underlying3 rfl lenNSitesProcess (i := 2) rfl (.pl rfl) (ix_get (hx28)) rfl rfl) rfl ?_
      refine WX.pure 10 #[true, true, true, true, true, true, true, true, true, true, true, false, false, false, false, false, false, false, false, false] rfl (by kernel_rfl) (fun _ _ => Y.move (.pl rfl)) rfl ?_
      refine WX.pure 11 #[true, true, true, true, true, true, true, true, true, true, true, true, false, false, false, false, false, false, false, false] rfl (by kernel_rfl) (fun _ _ => Y.move (.pl rfl)) rfl ?_
      refine WX.take 12 #[true, true, true, true, true, true, true, true, true, true, true, true, true, false, false, false, false, false, false, false] (fun wz hw => St.tail [] hw) rfl (by kernel_rfl) (Y.loadBA (ds := (encSitesTag t18)) Try.underlying97 rfl cells97 (.pl rfl) (i := 5) rfl rfl subW) rfl ?_
      refine WX.pure 13 #[true, true, true, true, true, true, true, true, true, true, true, true, true, true, false, false, false, false, false, false] rfl (by kernel_rfl) (fun _ _ => Y.move (.pl rfl)) rfl ?_
      refine WX.pure 14 #[true, true, true, true, true, true, true, true, true, true, true, true, true, true, true, false, false, false, false, false] rfl (by kernel_rfl) (fun _ _ => Y.buildF (cs := (encSitesLetter (SitesLetter.mk who16 x28.round v27 store17 t18 value19 false false)).toArray) shape172 (.cons (.pl rfl) (.cons (.pl rfl) (.cons (.pl rfl) (.cons (.pl rfl) (.cons (.pl rfl) (.cons (.pl rfl) (.nil))))))) (by kernel_rfl)) rfl ?_
      refine WX.one 15 #[true, true, true, true, true, true, true, true, true, true, true, true, true, true, true, true, false, false, false, false] (fun wz hw => St.tail [] hw) rfl (by kernel_rfl) (WO.bsliceC (enc := encSitesLetter) (ys := ([(SitesLetter.mk who16 x28.round v27 store17 t18 value19 false false)] : List SitesLetter)) Try.underlying93 bz172 (.cons (.pl rfl) (.nil)) rfl lenSitesLetter rfl rfl (by decide) (by decide) rfl fun b29 => ?_)
      obtain ⟨hk32, hF17⟩ := ckh hF17
      refine WX.stop #[true, true, true, true, true, true, true, true, true, true, true, true, true, true, true, true, true, false, false, false] (fun wz hw => St.tail [_] hw) rfl (by kernel_rfl) (WO.appendC (enc := encSitesLetter) Try.underlying93 ap172 lenSitesLetter oneSitesLetter (.pl rfl) rfl (.pl rfl) (i := 4) rfl (m2 := 0) rfl (hk32) rfl fun A30 c31 => ?_)
      refine WA.take 17 #[true, true, true, true, true, true, true, true, true, true, true, true, true, true, true, true, true, true, false, false] rfl (by kernel_rfl) (fun _ _ => Y.nilCheck (.pl rfl)) rfl ?_
      refine WA.take 18 #[true, true, true, true, true, true, true, true, true, true, true, true, true, true, true, true, true, true, true, false] rfl (by kernel_rfl) (fun _ _ => Y.fieldAddr0 (off := 3) (ft := 93) Try.underlying95 rfl cells93 (.pl rfl)) rfl ?_
      refine WA.branch [19] (by kernel_rfl) ⟨?_, trivial⟩
      refine WI.step #[true, true, true, true, true, true, true, true, true, true, true, true, true, true, true, true, true, true, true, true] rfl rfl (WO.storeB (cs' := (Value.bool fast2 :: (Value.slice A3 (sites5).length c4 :: (Value.slice A6 (people23).length c7 :: (Value.slice A30 ((letters26 ++ ([(SitesLetter.mk who16 x28.round v27 store17 t18 value19 false false)] : List SitesLetter))).length c31 :: (Value.slice A13 (events15).length c14 :: [])))))) cells93 (.pl rfl) (.pl rfl) rfl (i := 1) rfl (ltl (m := 5) (by decide) rfl) (rfl) ?_)
      refine WA.done (by kernel_rfl) ?_
      refine W.go hK23 (.cons (i := 0) rfl (.cons (i := 1) rfl (.cons (i := 2) rfl (.cons (i := 4) rfl (.cons (i := 8) rfl (.cons (i := 10) rfl (.cons (i := 52) rfl (.cons (i := 53) rfl (.nil))))))))) ?_
      -- region 11: sites.go:55
      refine W.reg ?_
      obtain ⟨hk33, hF17⟩ := ckh hF17
      refine WL.q (Y.add (.pl rfl) (.pl rfl) (ok64_lt (hk33))) rfl ?_
      refine WL.q (Y.move (.pl rfl)) rfl ?_
      refine WL.nil ?_
      obtain rfl := Option.some.inj hF17
      exact W.again4 hK18 (letters26 ++ ([(SitesLetter.mk who16 x28.round v27 store17 t18 value19 false false)] : List SitesLetter)) (v27 + 1) A30 c31 k17 hN17 (Nat.lt_succ_self _) (.cons rfl (.nil)) (.cons (i := 0) rfl (.cons (i := 1) rfl (.cons (i := 2) rfl (.cons (i := 4) rfl (.cons (i := 8) rfl (.cons (i := 10) rfl (.cons (i := 52) rfl (.nil)))))))) (fun wz hw => hw.pickK 7 [1, 2, 3, 4, 5, 6] rfl)
    · replace hF17 := cneg hC22 hF17
      refine W.exit ?_
      obtain rfl := Option.some.inj hF17
      obtain rfl := einr hN17
      obtain rfl := Option.some.inj hF
      refine W.endV (fn := Try.f86) (vs := []) Try.results86 trivial (fun _ _ h => h) (fun wz hw => ?_)
      exact hR _ _ ⟨(A24, c25), trivial, rfl, (hw.pickK 6 [0, 1, 2, 3, 4] rfl)⟩

def sites_net_call (N : Nat) (fast2 : Bool) (sites5 : (List Site)) (people8 : (List SitesProcess)) (letters12 : (List SitesLetter)) (events15 : (List Event)) (who16 : Int) : Option ((List SitesProcess) × (List SitesLetter) × (List Event)) :=
  bd (ix people8 who16) fun (x17 : SitesProcess) =>
  cond (x17.pending || (decide (((x17.program).length : Int) = 0)))
    (some (people8, letters12, events15))
    (bd (ix x17.program 0) fun (x18 : Ask) =>
    ck (limB 32 ((events15).length + (([(Event.mk who16 0 x18.kind x18.arg)] : List Event)).length)) <|
    bd (sites_net_start N fast2 sites5 (people8.set who16.toNat (SitesProcess.mk x17.program true x17.round x17.store x17.replies x17.best x17.value)) letters12 (events15 ++ ([(Event.mk who16 0 x18.kind x18.arg)] : List Event)) who16 false (SitesTag.mk 0 0) 0) fun (r24 : ((List SitesProcess) × (List SitesLetter))) =>
    some (r24.1, r24.2, (events15 ++ ([(Event.mk who16 0 x18.kind x18.arg)] : List Event))))

theorem sites_net_call_ok {N : Nat} {fast2 : Bool} {sites5 : (List Site)} {people8 : (List SitesProcess)} {letters12 : (List SitesLetter)} {events15 : (List Event)} {who16 : Int} {b1 : Nat} {A3 : Option Addr} {c4 : Nat} {A6 : Option Addr} {c7 : Nat} {hd9 : List Hd} {A10 : Option Addr} {c11 : Nat} {A13 : Option Addr} {c14 : Nat} {res : ((List SitesProcess) × (List SitesLetter) × (List Event))} (hF : sites_net_call N fast2 sites5 people8 letters12 events15 who16 = some res) {w0 w : World} {T : List Chunk} (hw : St w0.heap.size w0 ([cBx b1 95 (Value.bool fast2 :: (Value.slice A3 (sites5).length c4 :: (Value.slice A6 (people8).length c7 :: (Value.slice A10 (letters12).length c11 :: (Value.slice A13 (events15).length c14 :: []))))), cR encSite 4 A3 c4 39 sites5, cN encNSitesProcess (innNSitesProcess w0) 8 A6 c7 99 hd9 people8, cR encSitesLetter 9 A10 c11 172 letters12, cR encEvent 4 A13 c14 34 events15] ++ T) w) :
    Calls Try.prog 52 (List.toArray [.pointer (some ⟨b1, 0, none⟩), .int .i64 who16]) w (fun e w' => ∃ g : (Option Addr × Nat × Option Addr × Nat), (True) ∧ e = .returned (.tuple #[]) ∧ St w0.heap.size w0 ([cBx b1 95 (Value.bool fast2 :: (Value.slice A3 (sites5).length c4 :: (Value.slice A6 (res.1).length c7 :: (Value.slice g.1 (res.2.1).length g.2.1 :: (Value.slice g.2.2.1 (res.2.2).length g.2.2.2 :: []))))), cR encSite 4 A3 c4 39 sites5, cN encNSitesProcess (innNSitesProcess w0) 8 A6 c7 99 hd9 res.1, cR encSitesLetter 9 g.1 g.2.1 172 res.2.1, cR encEvent 4 g.2.2.1 g.2.2.2 34 res.2.2] ++ T) w') := by
  refine W.enter (n := 52) Try.func52 rfl rfl Sub.refl (by simp) hw fun R hR => ?_
  unfold sites_net_call at hF
  -- region 0: sites.go:61
  refine W.know (fun wz hwz => bor_of (h0 := ((none, 0) : Hd)) (q := fun h a => SlIn encAsk 3 w0 (.slice h.1 a.program.length h.2) a.program) hwz (i := 2) rfl (fun _ _ => .head _)) (fun hbor2 => ?_)
  refine W.seqR fun Q1 hQ1 => ?_
  refine WL.q (Y.move (.pl rfl)) rfl ?_
  refine WL.q (Y.nilCheck (.pl rfl)) rfl ?_
  refine WL.q (Y.fieldAddr0 (off := 2) (ft := 92) Try.underlying95 rfl cells92 (.pl rfl)) rfl ?_
  refine WL.q (Y.loadB (v := .slice A6 (people8).length c7) Try.underlying92 rfl (.pl rfl) (i := 0) rfl (rfl)) rfl ?_
  refine WL.q (Y.move (.pl rfl)) rfl ?_
  obtain ⟨x17, hx17, hF⟩ := bnd hF
  refine WL.q (Y.nEl Try.underlying92 cells99 (i := 2) rfl (.pl rfl) rfl (.pl rfl) (ix_lt (hx17))) rfl ?_
  refine WL.q (Y.assign (.pl rfl)) rfl ?_
  refine WL.next hQ1 (.cons (i := 0) rfl (.cons (i := 1) rfl (.cons (i := 4) rfl (.nil)))) ?_
  refine W.seq fun K3 hK3 => ?_
  -- region 1: sites.go:62
  refine W.seqR fun Q4 hQ4 => ?_
  refine WL.q (Y.move (.pl rfl)) rfl ?_
  refine WL.q (Y.nilCheck (.pl rfl)) rfl ?_
  refine WL.q (Y.nField (off := 1) (ft := 4) Try.underlying99 rfl cells4 (i' := 2) rfl (ix_lt (hx17)) (.pl rfl)) rfl ?_
  refine WL.q (Y.loadN (enc := encNSitesProcess) (h0 := ((none, 0) : Hd)) (v := .bool x17.pending) (a := (SitesProcess.mk x17.program x17.pending x17.round x17.store x17.replies x17.best x17.value)) (idx := who16) (j := 1) Try.underlying4 rfl lenNSitesProcess (i := 2) rfl (.pl rfl) (ix_get (hx17)) rfl rfl) rfl ?_
  refine WL.q (Y.move (.pl rfl)) rfl ?_
  refine WL.g (.pl rfl rfl rfl) (fun hg => Y.move (.pl rfl)) rfl ?_
  refine WL.g (.pl rfl rfl rfl) (fun hg => Y.nilCheck (.gd (hg) rfl)) rfl ?_
  refine WL.g (.pl rfl rfl rfl) (fun hg => Y.nField (off := 0) (ft := 41) Try.underlying99 rfl cells41 (i' := 2) rfl (ix_lt (hx17)) (.gd (hg) rfl)) rfl ?_
  refine WL.g (.pl rfl rfl rfl) (fun hg => Y.loadN (enc := encNSitesProcess) (h0 := ((none, 0) : Hd)) (v := .slice (hd9.getD who16.toNat ((none, 0) : Hd)).1 (x17.program).length (hd9.getD who16.toNat ((none, 0) : Hd)).2) (a := (SitesProcess.mk x17.program x17.pending x17.round x17.store x17.replies x17.best x17.value)) (idx := who16) (j := 0) Try.underlying41 rfl lenNSitesProcess (i := 2) rfl (.gd (hg) rfl) (ix_get (hx17)) rfl rfl) rfl ?_
  refine WL.g (.pl rfl rfl rfl) (fun hg => Y.len Try.underlying41 (.gd (hg) rfl)) rfl ?_
  refine WL.g (.pl rfl rfl rfl) (fun hg => Y.eql (.gd (hg) rfl) (.pl rfl)) rfl ?_
  refine WL.q (Y.or (.pl rfl) (fun h2 => .gd (eqf h2) rfl)) rfl ?_
  refine WL.next hQ4 (.cons (i := 0) rfl (.cons (i := 1) rfl (.cons (i := 4) rfl (.cons (i := 23) rfl (.nil))))) ?_
  refine W.cond (.pl rfl) (fun hC5 => ?_) (fun hC5 => ?_)
  · replace hF := cpos hC5 hF
    obtain rfl := Option.some.inj hF
    refine W.retV (fn := Try.f52) (vs := []) Try.results52 trivial (fun _ _ h => h) (fun wz hw => ?_)
    exact hR _ _ ⟨(A10, c11, A13, c14), trivial, rfl, (hw.pickK 5 [0, 1, 2, 3, 4] rfl)⟩
  · replace hF := cneg hC5 hF
    refine W.skip ?_
    refine W.go hK3 (.cons (i := 0) rfl (.cons (i := 1) rfl (.cons (i := 4) rfl (.nil)))) ?_
    -- region 2: sites.go:65
    refine W.seqR fun Q6 hQ6 => ?_
    refine WL.q (Y.move (.pl rfl)) rfl ?_
    refine WL.q (Y.nilCheck (.pl rfl)) rfl ?_
    refine WL.q (Y.nField (off := 0) (ft := 41) Try.underlying99 rfl cells41 (i' := 2) rfl (ix_lt (hx17)) (.pl rfl)) rfl ?_
    refine WL.q (Y.loadN (enc := encNSitesProcess) (h0 := ((none, 0) : Hd)) (v := .slice (hd9.getD who16.toNat ((none, 0) : Hd)).1 (x17.program).length (hd9.getD who16.toNat ((none, 0) : Hd)).2) (a := (SitesProcess.mk x17.program x17.pending x17.round x17.store x17.replies x17.best x17.value)) (idx := who16) (j := 0) Try.underlying41 rfl lenNSitesProcess (i := 2) rfl (.pl rfl) (ix_get (hx17)) rfl rfl) rfl ?_
    obtain ⟨x18, hx18, hF⟩ := bnd hF
    refine WL.q (Y.slEl Try.underlying41 cells58 (hbor2 _ _ (ix_get (hx17))) (.pl rfl) (.pl rfl) (ix_lt (hx18))) rfl ?_
    refine WL.q (Y.loadSA (enc := encAsk) (ds := (encAsk x18)) (j := 0) Try.underlying58 rfl cells58 (hbor2 _ _ (ix_get (hx17))) (.pl rfl) (hx18) rfl rfl subW) rfl ?_
    refine WL.step (WO.alloc (cs := (encAsk (Ask.mk 0 0 0)).toArray) zero58 rfl rfl fun b19 => ?_)
    refine WL.step (WO.storeBA (ds := (encAsk x18)) (cs' := (encAsk x18)) cells58 (.pl rfl) (.pl rfl) rfl (oneAsk _) (i := 0) rfl (lel (o := 0) (l := 3) (m := 3) (by decide) rfl rfl) (putW rfl) ?_)
    refine WL.next hQ6 (.cons (i := 0) rfl (.cons (i := 1) rfl (.cons (i := 4) rfl (.cons (i := 5) rfl (.nil))))) ?_
    -- region 3: sites.go:66
    refine W.seqR fun Q7 hQ7 => ?_
    refine WL.q (Y.move (.pl rfl)) rfl ?_
    refine WL.q (Y.nilCheck (.pl rfl)) rfl ?_
    refine WL.q (Y.nField (off := 1) (ft := 4) Try.underlying99 rfl cells4 (i' := 3) rfl (ix_lt (hx17)) (.pl rfl)) rfl ?_
    refine WL.step (WO.storeN0 (enc := encNSitesProcess) (inn := (innNSitesProcess w0)) (h0 := ((none, 0) : Hd)) (a := (SitesProcess.mk x17.program x17.pending x17.round x17.store x17.replies x17.best x17.value)) (a' := (SitesProcess.mk x17.program true x17.round x17.store x17.replies x17.best x17.value)) (idx := who16) (j := 1) cells4 (.pl rfl) (.pl rfl) rfl lenNSitesProcess (i := 3) rfl (ix_get (hx17)) rfl (by decide) rfl rfl ?_)
    refine WL.next hQ7 (.cons (i := 0) rfl (.cons (i := 1) rfl (.cons (i := 5) rfl (.nil)))) ?_
    -- region 4: sites.go:67
    refine W.know (fun wz hwz => bor_of (h0 := ((none, 0) : Hd)) (q := fun h a => SlIn encAsk 3 w0 (.slice h.1 a.program.length h.2) a.program) hwz (i := 0) rfl (fun _ _ => .head _)) (fun hbor9 => ?_)
    refine W.seqX 12 (by kernel_rfl) fun K8 hK8 => ?_
    refine WX.pure 0 #[true, false, false, false, false, false, false, false, false, false, false, false, false, false, false, false] rfl (by kernel_rfl) (fun _ _ => Y.move (.pl rfl)) rfl ?_
    refine WX.pure 1 #[true, true, false, false, false, false, false, false, false, false, false, false, false, false, false, false] rfl (by kernel_rfl) (fun _ _ => Y.move (.pl rfl)) rfl ?_
    refine WX.pure 2 #[true, true, true, false, false, false, false, false, false, false, false, false, false, false, false, false] rfl (by kernel_rfl) (fun _ _ => Y.nilCheck (.pl rfl)) rfl ?_
    refine WX.pure 3 #[true, true, true, true, false, false, false, false, false, false, false, false, false, false, false, false] rfl (by kernel_rfl) (fun _ _ => Y.fieldAddr0 (off := 4) (ft := 26) Try.underlying95 rfl cells26 (.pl rfl)) rfl ?_
    refine WX.take 4 #[true, true, true, true, true, false, false, false, false, false, false, false, false, false, false, false] (fun wz hw => St.tail [] hw) rfl (by kernel_rfl) (Y.loadB (v := .slice A13 (events15).length c14) Try.underlying26 rfl (.pl rfl) (i := 2) rfl (rfl)) rfl ?_
    refine WX.pure 5 #[true, true, true, true, true, true, false, false, false, false, false, false, false, false, false, false] rfl (by kernel_rfl) (fun _ _ => Y.move (.pl rfl)) rfl ?_
    refine WX.pure 6 #[true, true, true, true, true, true, true, false, false, false, false, false, false, false, false, false] rfl (by kernel_rfl) (fun _ _ => Y.fieldAddr0 (off := 1) (ft := 3) Try.underlying58 rfl cells3 (.pl rfl)) rfl ?_
    refine WX.take 7 #[true, true, true, true, true, true, true, true, false, false, false, false, false, false, false, false] (fun wz hw => St.tail [] hw) rfl (by kernel_rfl) (Y.loadB (v := .int .i64 x18.kind) Try.underlying3 rfl (.pl rfl) (i := 1) rfl (rfl)) rfl ?_
    refine WX.pure 8 #[true, true, true, true, true, true, true, true, true, false, false, false, false, false, false, false] rfl (by kernel_rfl) (fun _ _ => Y.fieldAddr0 (off := 2) (ft := 3) Try.underlying58 rfl cells3 (.pl rfl)) rfl ?_
    refine WX.take 9 #[true, true, true, true, true, true, true, true, true, true, false, false, false, false, false, false] (fun wz hw => St.tail [] hw) rfl (by kernel_rfl) (Y.loadB (v := .int .i64 x18.arg) Try.underlying3 rfl (.pl rfl) (i := 1) rfl (rfl)) rfl ?_
    refine WX.pure 10 #[true, true, true, true, true, true, true, true, true, true, true, false, false, false, false, false] rfl (by kernel_rfl) (fun _ _ => Y.build (cs := (encEvent (Event.mk who16 0 x18.kind x18.arg)).toArray) shape34 (.cons (.pl rfl) (.cons (.pl rfl) (.cons (.pl rfl) (.nil)))) (one_parts ⟨rfl, ⟨rfl, ⟨rfl, trivial⟩⟩⟩) rfl) rfl ?_
    refine WX.one 11 #[true, true, true, true, true, true, true, true, true, true, true, true, false, false, false, false] (fun wz hw => St.tail [] hw) rfl (by kernel_rfl) (WO.bsliceC (enc := encEvent) (ys := ([(Event.mk who16 0 x18.kind x18.arg)] : List Event)) Try.underlying26 bz34 (.cons (.pl rfl) (.nil)) rfl lenEvent rfl rfl (by decide) (by decide) rfl fun b20 => ?_)
    obtain ⟨hk23, hF⟩ := ckh hF
    refine WX.stop #[true, true, true, true, true, true, true, true, true, true, true, true, true, false, false, false] (fun wz hw => St.tail [_] hw) rfl (by kernel_rfl) (WO.appendC (enc := encEvent) Try.underlying26 ap34 lenEvent oneEvent (.pl rfl) rfl (.pl rfl) (i := 6) rfl (m2 := 0) rfl (hk23) rfl fun A21 c22 => ?_)
    refine WA.take 13 #[true, true, true, true, true, true, true, true, true, true, true, true, true, true, false, false] rfl (by kernel_rfl) (fun _ _ => Y.nilCheck (.pl rfl)) rfl ?_
    refine WA.take 14 #[true, true, true, true, true, true, true, true, true, true, true, true, true, true, true, false] rfl (by kernel_rfl) (fun _ _ => Y.fieldAddr0 (off := 4) (ft := 26) Try.underlying95 rfl cells26 (.pl rfl)) rfl ?_
    refine WA.branch [15] (by kernel_rfl) ⟨?_, trivial⟩
    refine WI.step #[true, true, true, true, true, true, true, true, true, true, true, true, true, true, true, true] rfl rfl (WO.storeB (cs' := (Value.bool fast2 :: (Value.slice A3 (sites5).length c4 :: (Value.slice A6 (people8).length c7 :: (Value.slice A10 (letters12).length c11 :: (Value.slice A21 ((events15 ++ ([(Event.mk who16 0 x18.kind x18.arg)] : List Event))).length c22 :: [])))))) cells26 (.pl rfl) (.pl rfl) rfl (i := 3) rfl (ltl (m := 5) (by decide) rfl) (rfl) ?_)
    refine WA.done (by kernel_rfl) ?_
    refine KK.next hK8 (.cons (i := 0) rfl (.cons (i := 1) rfl (.nil))) ?_
    -- region 5: sites.go:68
    refine W.reg ?_
    refine WL.q (Y.move (.pl rfl)) rfl ?_
    refine WL.q (Y.move (.pl rfl)) rfl ?_
    refine WL.q (Y.build (cs := (encSitesTag (SitesTag.mk 0 0)).toArray) shape97 (.nil) (one_parts trivial) rfl) rfl ?_
    obtain ⟨r24, hr24, hF⟩ := bnd hF
    refine WL.step (WO.call (γ := (Option Addr × Nat)) (fun g => .tuple #[]) (fun g => ([cBx b1 95 (Value.bool fast2 :: (Value.slice A3 (sites5).length c4 :: (Value.slice A6 (r24.1).length c7 :: (Value.slice g.1 (r24.2).length g.2 :: (Value.slice A21 ((events15 ++ ([(Event.mk who16 0 x18.kind x18.arg)] : List Event))).length c22 :: []))))), cR encSite 4 A3 c4 39 sites5, cN encNSitesProcess (innNSitesProcess w0) 8 A6 c7 99 hd9 r24.1, cR encSitesLetter 9 g.1 g.2 172 r24.2, cR encEvent 4 A21 c22 34 (events15 ++ ([(Event.mk who16 0 x18.kind x18.arg)] : List Event)), cR encEvent 4 (some ⟨b20, 0, none⟩) (([(Event.mk who16 0 x18.kind x18.arg)] : List Event)).length 34 ([(Event.mk who16 0 x18.kind x18.arg)] : List Event), cBx b19 58 (encAsk x18)] ++ T)) (fun g => True) isGo86 (.cons (.pl rfl) (.cons (.pl rfl) (.cons (.pl rfl) (.cons (.pl rfl) (.cons (.pl rfl) (.nil)))))) rfl (fun wz hw => sites_net_start_ok (T := ([cR encEvent 4 (some ⟨b20, 0, none⟩) (([(Event.mk who16 0 x18.kind x18.arg)] : List Event)).length 34 ([(Event.mk who16 0 x18.kind x18.arg)] : List Event), cBx b19 58 (encAsk x18)] ++ T)) (b1 := b1) (A3 := A3) (c4 := c4) (A6 := A6) (c7 := c7) (hd9 := hd9) (A10 := A10) (c11 := c11) (A13 := A21) (c14 := c22) (hr24) (St.cong (L := ([cBx b1 95 (Value.bool fast2 :: (Value.slice A3 (sites5).length c4 :: (Value.slice A6 (people8).length c7 :: (Value.slice A10 (letters12).length c11 :: (Value.slice A21 ((events15 ++ ([(Event.mk who16 0 x18.kind x18.arg)] : List Event))).length c22 :: []))))), cR encSite 4 A3 c4 39 sites5, cN encNSitesProcess (innNSitesProcess w0) 8 A6 c7 99 hd9 (people8.set who16.toNat (SitesProcess.mk x17.program true x17.round x17.store x17.replies x17.best x17.value)), cR encSitesLetter 9 A10 c11 172 letters12, cR encEvent 4 A21 c22 34 (events15 ++ ([(Event.mk who16 0 x18.kind x18.arg)] : List Event)), cR encEvent 4 (some ⟨b20, 0, none⟩) (([(Event.mk who16 0 x18.kind x18.arg)] : List Event)).length 34 ([(Event.mk who16 0 x18.kind x18.arg)] : List Event), cBx b19 58 (encAsk x18)] ++ T)) (hw.pickK 7 [3, 4, 1, 5, 6, 0, 2] rfl) (by simp only [List.length_set, List.nil_append, List.cons_append])) ) ?_)
    rintro ⟨A25, c26⟩ -
    refine WL.nil ?_
    obtain rfl := Option.some.inj hF
    refine W.endV (fn := Try.f52) (vs := []) Try.results52 trivial (fun _ _ h => h) (fun wz hw => ?_)
    exact hR _ _ ⟨(A25, c26, A21, c22), trivial, rfl, (hw.pickK 7 [0, 1, 2, 3, 4] rfl)⟩

def cmp_isNaN_int (N : Nat) (x1 : Int) : Option Unit :=
  some ()

theorem cmp_isNaN_int_ok {N : Nat} {x1 : Int} {res : Unit} (hF : cmp_isNaN_int N x1 = some res) (w : World) :
    Pure Try.prog 142 [.int .i64 x1] w (.bool (!(decide (x1 = x1)))) := by
  refine W.enter (n := 6) Try.func142 rfl rfl Sub.refl (by simp) (St.start w) fun R hR => ?_
  unfold cmp_isNaN_int at hF
  -- region 0: cmp.go:63
  refine W.seqR fun Q1 hQ1 => ?_
  refine WL.q (Y.assign (.pl rfl)) rfl ?_
  refine WL.next hQ1 (.cons (i := 0) rfl (.nil)) ?_
  -- region 1: cmp.go:64
  refine W.seqR fun Q2 hQ2 => ?_
  refine WL.q (Y.move (.pl rfl)) rfl ?_
  refine WL.q (Y.move (.pl rfl)) rfl ?_
  refine WL.q (Y.neq (.pl rfl) (.pl rfl)) rfl ?_
  refine WL.q (Y.assign (.pl rfl)) rfl ?_
  refine WL.next hQ2 (.cons (i := 2) rfl (.nil)) ?_
  obtain rfl := Option.some.inj hF
  refine W.retV (fn := Try.f142) (vs := [.bool (!(decide (x1 = x1)))]) Try.results142 ⟨.tmp rfl, trivial⟩ (fun _ _ h => h) (fun wz hw => ?_)
  exact hR _ _ ⟨rfl, (hw.pick [] rfl)⟩

def cmp_Compare_int (N : Nat) (x1 : Int) (y2 : Int) : Option Int :=
  bd (cmp_isNaN_int N x1) fun (r3 : Unit) =>
  bd (cmp_isNaN_int N y2) fun (r4 : Unit) =>
  cond (!(decide (x1 = x1)))
    (cond (!(decide (y2 = y2)))
      (some 0)
      (some (-1)))
    (cond (!(decide (y2 = y2)))
      (some 1)
      (cond (decide (x1 < y2))
        (some (-1))
        (cond (decide (y2 < x1))
          (some 1)
          (some 0))))

theorem cmp_Compare_int_ok {N : Nat} {x1 : Int} {y2 : Int} {res : Int} (hF : cmp_Compare_int N x1 y2 = some res) (w : World) :
    Pure Try.prog 117 [.int .i64 x1, .int .i64 y2] w (.int .i64 res) := by
  refine W.enter (n := 20) Try.func117 rfl rfl Sub.refl (by simp) (St.start w) fun R hR => ?_
  unfold cmp_Compare_int at hF
  -- region 0: cmp.go:40
  refine W.seqR fun Q1 hQ1 => ?_
  refine WL.q (Y.assign (.pl rfl)) rfl ?_
  refine WL.next hQ1 (.cons (i := 0) rfl (.cons (i := 1) rfl (.nil))) ?_
  -- region 1: cmp.go:41
  refine W.seqR fun Q2 hQ2 => ?_
  refine WL.q (Y.move (.pl rfl)) rfl ?_
  obtain ⟨r3, hr3, hF⟩ := bnd hF
  refine WL.step (WO.callP isGo142 (.cons (.pl rfl) (.nil)) rfl (fun wz hw => cmp_isNaN_int_ok (hr3) wz ) ?_)
  refine WL.q (Y.assign (.pl rfl)) rfl ?_
  refine WL.next hQ2 (.cons (i := 0) rfl (.cons (i := 1) rfl (.cons (i := 5) rfl (.nil)))) ?_
  -- region 2: cmp.go:42
  refine W.seqR fun Q3 hQ3 => ?_
  refine WL.q (Y.move (.pl rfl)) rfl ?_
  obtain ⟨r4, hr4, hF⟩ := bnd hF
  refine WL.step (WO.callP isGo142 (.cons (.pl rfl) (.nil)) rfl (fun wz hw => cmp_isNaN_int_ok (hr4) wz ) ?_)
  refine WL.q (Y.assign (.pl rfl)) rfl ?_
  refine WL.next hQ3 (.cons (i := 0) rfl (.cons (i := 1) rfl (.cons (i := 5) rfl (.cons (i := 6) rfl (.nil))))) ?_
  refine W.seq fun K4 hK4 => ?_
  -- region 3: cmp.go:43
  refine W.seqR fun Q5 hQ5 => ?_
  refine WL.q (Y.move (.pl rfl)) rfl ?_
  refine WL.next hQ5 (.cons (i := 0) rfl (.cons (i := 1) rfl (.cons (i := 6) rfl (.cons (i := 11) rfl (.nil))))) ?_
  refine W.cond (.pl rfl) (fun hC6 => ?_) (fun hC6 => ?_)
  · replace hF := cpos hC6 hF
    refine W.seq fun K7 hK7 => ?_
    -- region 4: cmp.go:44
    refine W.seqR fun Q8 hQ8 => ?_
    refine WL.q (Y.move (.pl rfl)) rfl ?_
    refine WL.next hQ8 (.cons (i := 12) rfl (.nil)) ?_
    refine W.cond (.pl rfl) (fun hC9 => ?_) (fun hC9 => ?_)
    · replace hF := cpos hC9 hF
      -- region 5: cmp.go:45
      refine W.seqR fun Q10 hQ10 => ?_
      refine WL.q (Y.assign (.pl rfl)) rfl ?_
      refine WL.next hQ10 (.cons (i := 4) rfl (.nil)) ?_
      obtain rfl := Option.some.inj hF
      refine W.retV (fn := Try.f117) (vs := [.int .i64 0]) Try.results117 ⟨.tmp rfl, trivial⟩ (fun _ _ h => h) (fun wz hw => ?_)
      exact hR _ _ ⟨rfl, (hw.pick [] rfl)⟩
    · replace hF := cneg hC9 hF
      refine W.skip ?_
      refine W.go hK7 (.nil) ?_
      -- region 6: cmp.go:47
      refine W.seqR fun Q11 hQ11 => ?_
      refine WL.q (Y.assign (.pl rfl)) rfl ?_
      refine WL.next hQ11 (.cons (i := 4) rfl (.nil)) ?_
      obtain rfl := Option.some.inj hF
      refine W.retV (fn := Try.f117) (vs := [.int .i64 (-1)]) Try.results117 ⟨.tmp rfl, trivial⟩ (fun _ _ h => h) (fun wz hw => ?_)
      exact hR _ _ ⟨rfl, (hw.pick [] rfl)⟩
  · replace hF := cneg hC6 hF
    refine W.skip ?_
    refine W.go hK4 (.cons (i := 0) rfl (.cons (i := 1) rfl (.cons (i := 6) rfl (.nil)))) ?_
    refine W.seq fun K12 hK12 => ?_
    -- region 7: cmp.go:49
    refine W.seqR fun Q13 hQ13 => ?_
    refine WL.q (Y.move (.pl rfl)) rfl ?_
    refine WL.next hQ13 (.cons (i := 0) rfl (.cons (i := 1) rfl (.cons (i := 13) rfl (.nil)))) ?_
    refine W.cond (.pl rfl) (fun hC14 => ?_) (fun hC14 => ?_)
    · replace hF := cpos hC14 hF
      -- region 8: cmp.go:50
      refine W.seqR fun Q15 hQ15 => ?_
      refine WL.q (Y.assign (.pl rfl)) rfl ?_
      refine WL.next hQ15 (.cons (i := 4) rfl (.nil)) ?_
      obtain rfl := Option.some.inj hF
      refine W.retV (fn := Try.f117) (vs := [.int .i64 1]) Try.results117 ⟨.tmp rfl, trivial⟩ (fun _ _ h => h) (fun wz hw => ?_)
      exact hR _ _ ⟨rfl, (hw.pick [] rfl)⟩
    · replace hF := cneg hC14 hF
      refine W.skip ?_
      refine W.go hK12 (.cons (i := 0) rfl (.cons (i := 1) rfl (.nil))) ?_
      refine W.seq fun K16 hK16 => ?_
      -- region 9: cmp.go:52
      refine W.seqR fun Q17 hQ17 => ?_
      refine WL.q (Y.move (.pl rfl)) rfl ?_
      refine WL.q (Y.move (.pl rfl)) rfl ?_
      refine WL.q (Y.lss (.pl rfl) (.pl rfl)) rfl ?_
      refine WL.next hQ17 (.cons (i := 0) rfl (.cons (i := 1) rfl (.cons (i := 16) rfl (.nil)))) ?_
      refine W.cond (.pl rfl) (fun hC18 => ?_) (fun hC18 => ?_)
      · replace hF := cpos hC18 hF
        -- region 10: cmp.go:53
        refine W.seqR fun Q19 hQ19 => ?_
        refine WL.q (Y.assign (.pl rfl)) rfl ?_
        refine WL.next hQ19 (.cons (i := 4) rfl (.nil)) ?_
        obtain rfl := Option.some.inj hF
        refine W.retV (fn := Try.f117) (vs := [.int .i64 (-1)]) Try.results117 ⟨.tmp rfl, trivial⟩ (fun _ _ h => h) (fun wz hw => ?_)
        exact hR _ _ ⟨rfl, (hw.pick [] rfl)⟩
      · replace hF := cneg hC18 hF
        refine W.skip ?_
        refine W.go hK16 (.cons (i := 0) rfl (.cons (i := 1) rfl (.nil))) ?_
        refine W.seq fun K20 hK20 => ?_
        -- region 11: cmp.go:55
        refine W.seqR fun Q21 hQ21 => ?_
        refine WL.q (Y.move (.pl rfl)) rfl ?_
        refine WL.q (Y.move (.pl rfl)) rfl ?_
        refine WL.q (Y.gtr (.pl rfl) (.pl rfl)) rfl ?_
        refine WL.next hQ21 (.cons (i := 19) rfl (.nil)) ?_
        refine W.cond (.pl rfl) (fun hC22 => ?_) (fun hC22 => ?_)
        · replace hF := cpos hC22 hF
          -- region 12: cmp.go:56
          refine W.seqR fun Q23 hQ23 => ?_
          refine WL.q (Y.assign (.pl rfl)) rfl ?_
          refine WL.next hQ23 (.cons (i := 4) rfl (.nil)) ?_
          obtain rfl := Option.some.inj hF
          refine W.retV (fn := Try.f117) (vs := [.int .i64 1]) Try.results117 ⟨.tmp rfl, trivial⟩ (fun _ _ h => h) (fun wz hw => ?_)
          exact hR _ _ ⟨rfl, (hw.pick [] rfl)⟩
        · replace hF := cneg hC22 hF
          refine W.skip ?_
          refine W.go hK20 (.nil) ?_
          -- region 13: cmp.go:58
          refine W.seqR fun Q24 hQ24 => ?_
          refine WL.q (Y.assign (.pl rfl)) rfl ?_
          refine WL.next hQ24 (.cons (i := 4) rfl (.nil)) ?_
          obtain rfl := Option.some.inj hF
          refine W.retV (fn := Try.f117) (vs := [.int .i64 0]) Try.results117 ⟨.tmp rfl, trivial⟩ (fun _ _ h => h) (fun wz hw => ?_)
          exact hR _ _ ⟨rfl, (hw.pick [] rfl)⟩

def cmp_Or_int_L3 (N : Nat) (vals1 : (List Int)) : Int → Option (Int ⊕ (Unit ⊕ Int))
  | v6 =>
    cond (decide (v6 < ((vals1).length : Int)))
      (bd (ix vals1 v6) fun (x7 : Int) =>
      cond (!(decide (x7 = 0)))
        (some (.inr (.inr x7)))
        (ck (ok64 (v6 + 1)) <|
        some (.inl (v6 + 1))))
      (some (.inr (.inl ())))

def cmp_Or_int (N : Nat) (vals1 : (List Int)) : Option Int :=
  bd (α := (Unit ⊕ Int)) (iter (cmp_Or_int_L3 N vals1) N 0) <|
  Sum.elim (fun _ => 
    some 0) (fun p => some p)

theorem cmp_Or_int_ok {N : Nat} {vals1 : (List Int)} {res : Int} (hF : cmp_Or_int N vals1 = some res) (w : World) {v5 : Value} (hs4 : SlIn (eI .i64) 1 w v5 vals1) :
    Pure Try.prog 121 [v5] w (.int .i64 res) := by
  obtain ⟨A2, c3, rfl, hcc3, hs4⟩ := hs4.form
  refine W.enter (n := 18) Try.func121 rfl rfl Sub.refl (by simp) (St.start w) fun R hR => ?_
  unfold cmp_Or_int at hF
  -- region 0: cmp.go:69
  refine W.seqR fun Q1 hQ1 => ?_
  refine WL.q (Y.assign (.pl rfl)) rfl ?_
  refine WL.next hQ1 (.cons (i := 0) rfl (.nil)) ?_
  -- region 1: cmp.go:70
  refine W.seqR fun Q2 hQ2 => ?_
  refine WL.q (Y.assign (.pl rfl)) rfl ?_
  refine WL.next hQ2 (.cons (i := 0) rfl (.cons (i := 3) rfl (.nil))) ?_
  obtain ⟨o3, hF3, hF⟩ := bnd hF
  refine W.join0 (Em := []) (M := []) (I := (.inl ()) = o3) (.cons (i := 3) rfl (.nil)) (fun K4 hK4 => ?_) ?_
  · -- up to
    -- region 2: cmp.go:71
    refine W.seqR fun Q5 hQ5 => ?_
    refine WL.q (Y.move (.pl rfl)) rfl ?_
    refine WL.q (Y.len Try.underlying47 (.pl rfl)) rfl ?_
    refine WL.q (Y.move (.pl rfl)) rfl ?_
    refine WL.next hQ5 (.cons (i := 3) rfl (.cons (i := 6) rfl (.cons (i := 7) rfl (.cons (i := 8) rfl (.nil))))) ?_
    refine W.block ?_
    refine W.loop1 (Em := fun (v6 : Int) => [(8, .int .i64 v6)]) (M := fun v6 => []) (I := fun v6 k6 => iter (cmp_Or_int_L3 N vals1) k6 v6 = some o3) 0 N (hF3) (.cons rfl (.nil)) (.cons (i := 3) rfl (.cons (i := 6) rfl (.cons (i := 7) rfl (.nil)))) (fun wz hw => hw.pick [] rfl) (fun v6 k6 hI K7 hK7 => ?_)
    obtain ⟨k6, t6, rfl, hF6, hN6⟩ := iter_step hI
    -- region 3: cmp.go:71
    refine W.seqR fun Q8 hQ8 => ?_
    refine WL.q (Y.lss (.pl rfl) (.pl rfl)) rfl ?_
    refine WL.next hQ8 (.cons (i := 3) rfl (.cons (i := 6) rfl (.cons (i := 7) rfl (.cons (i := 8) rfl (.cons (i := 9) rfl (.nil)))))) ?_
    refine W.seq fun K9 hK9 => ?_
    refine W.cond (.pl rfl) (fun hC10 => ?_) (fun hC10 => ?_)
    · replace hF6 := cpos hC10 hF6
      refine W.skip ?_
      refine W.go hK9 (.cons (i := 3) rfl (.cons (i := 6) rfl (.cons (i := 7) rfl (.cons (i := 8) rfl (.nil))))) ?_
      refine W.seq fun K11 hK11 => ?_
      refine W.block ?_
      -- region 4: cmp.go:71
      refine W.seqR fun Q12 hQ12 => ?_
      obtain ⟨x7, hx7, hF6⟩ := bnd hF6
      refine WL.q (Y.slEl Try.underlying47 cells3 hs4 (.pl rfl) (.pl rfl) (ix_lt (hx7))) rfl ?_
      refine WL.q (Y.loadS (enc := (eI .i64)) (v := .int .i64 x7) (j := 0) Try.underlying3 rfl hs4 (.pl rfl) (hx7) rfl rfl) rfl ?_
      refine WL.q (Y.assign (.pl rfl)) rfl ?_
      refine WL.next hQ12 (.cons (i := 3) rfl (.cons (i := 5) rfl (.cons (i := 6) rfl (.cons (i := 7) rfl (.cons (i := 8) rfl (.nil)))))) ?_
      -- region 5: cmp.go:72
      refine W.seqR fun Q13 hQ13 => ?_
      refine WL.q (Y.move (.pl rfl)) rfl ?_
      refine WL.q (Y.move (.pl rfl)) rfl ?_
      refine WL.q (Y.neq (.pl rfl) (.pl rfl)) rfl ?_
      refine WL.next hQ13 (.cons (i := 3) rfl (.cons (i := 5) rfl (.cons (i := 6) rfl (.cons (i := 7) rfl (.cons (i := 8) rfl (.cons (i := 14) rfl (.nil))))))) ?_
      refine W.cond (.pl rfl) (fun hC14 => ?_) (fun hC14 => ?_)
      · replace hF6 := cpos hC14 hF6
        -- region 6: cmp.go:73
        refine W.seqR fun Q15 hQ15 => ?_
        refine WL.q (Y.move (.pl rfl)) rfl ?_
        refine WL.q (Y.assign (.pl rfl)) rfl ?_
        refine WL.next hQ15 (.cons (i := 2) rfl (.nil)) ?_
        obtain rfl := Option.some.inj hF6
        obtain rfl := einr hN6
        obtain rfl := Option.some.inj hF
        refine W.retV (fn := Try.f121) (vs := [.int .i64 x7]) Try.results121 ⟨.tmp rfl, trivial⟩ (fun _ _ h => h) (fun wz hw => ?_)
        exact hR _ _ ⟨rfl, (hw.pick [] rfl)⟩
      · replace hF6 := cneg hC14 hF6
        refine W.skip ?_
        refine W.go hK11 (.cons (i := 3) rfl (.cons (i := 6) rfl (.cons (i := 7) rfl (.cons (i := 8) rfl (.nil))))) ?_
        -- region 7: cmp.go:71
        refine W.reg ?_
        obtain ⟨hk8, hF6⟩ := ckh hF6
        refine WL.q (Y.add (.pl rfl) (.pl rfl) (ok64_lt (hk8))) rfl ?_
        refine WL.q (Y.move (.pl rfl)) rfl ?_
        refine WL.nil ?_
        obtain rfl := Option.some.inj hF6
        exact W.again1 hK7 (v6 + 1) k6 hN6 (Nat.lt_succ_self _) (.cons rfl (.nil)) (.cons (i := 3) rfl (.cons (i := 6) rfl (.cons (i := 7) rfl (.nil)))) (fun wz hw => hw.pick [] rfl)
    · replace hF6 := cneg hC10 hF6
      refine W.exit ?_
      obtain rfl := Option.some.inj hF6
      exact W.joinAt0 hK4  (einr hN6) (.nil) (.cons (i := 3) rfl (.nil)) (fun wz hw => hw.pick [] rfl)
  · -- behind
    rintro  rfl
    -- region 8: cmp.go:76
    refine W.seqR fun Q17 hQ17 => ?_
    refine WL.q (Y.move (.pl rfl)) rfl ?_
    refine WL.q (Y.assign (.pl rfl)) rfl ?_
    refine WL.next hQ17 (.cons (i := 2) rfl (.nil)) ?_
    obtain rfl := Option.some.inj hF
    refine W.retV (fn := Try.f121) (vs := [.int .i64 0]) Try.results121 ⟨.tmp rfl, trivial⟩ (fun _ _ h => h) (fun wz hw => ?_)
    exact hR _ _ ⟨rfl, (hw.pick [] rfl)⟩

def sites_compare (N : Nat) (a1 : SitesTag) (b2 : SitesTag) : Option Int :=
  bd (cmp_Compare_int N a1.stamp b2.stamp) fun (r5 : Int) =>
  bd (cmp_Compare_int N a1.who b2.who) fun (r6 : Int) =>
  bd (cmp_Or_int N ([r5, r6] : List Int)) fun (r8 : Int) =>
  some r8

theorem sites_compare_ok {N : Nat} {a1 : SitesTag} {b2 : SitesTag} {res : Int} (hF : sites_compare N a1 b2 = some res) (w : World) :
    Pure Try.prog 87 [.agg (encSitesTag a1).toArray, .agg (encSitesTag b2).toArray] w (.int .i64 res) := by
  refine W.enter (n := 17) Try.func87 rfl rfl Sub.refl (by simp) (St.start w) fun R hR => ?_
  unfold sites_compare at hF
  -- region 0: sites.go:14
  refine W.seqR fun Q1 hQ1 => ?_
  refine WL.step (WO.boxA (.pl rfl) rfl fun b3 => ?_)
  refine WL.step (WO.boxA (.pl rfl) rfl fun b4 => ?_)
  refine WL.q (Y.assign (.pl rfl)) rfl ?_
  refine WL.next hQ1 (.cons (i := 2) rfl (.cons (i := 3) rfl (.nil))) ?_
  -- region 1: sites.go:14
  refine W.seqX 12 (by kernel_rfl) fun K2 hK2 => ?_
  refine WX.pure 0 #[true, false, false, false, false, false, false, false, false, false, false, false, false] rfl (by kernel_rfl) (fun _ _ => Y.fieldAddr0 (off := 0) (ft := 3) Try.underlying97 rfl cells3 (.pl rfl)) rfl ?_
  refine WX.take 1 #[true, true, false, false, false, false, false, false, false, false, false, false, false] (fun wz hw => St.tail [] hw) rfl (by kernel_rfl) (Y.loadB (v := .int .i64 a1.stamp) Try.underlying3 rfl (.pl rfl) (i := 1) rfl (rfl)) rfl ?_
  refine WX.pure 2 #[true, true, true, false, false, false, false, false, false, false, false, false, false] rfl (by kernel_rfl) (fun _ _ => Y.fieldAddr0 (off := 0) (ft := 3) Try.underlying97 rfl cells3 (.pl rfl)) rfl ?_
  refine WX.take 3 #[true, true, true, true, false, false, false, false, false, false, false, false, false] (fun wz hw => St.tail [] hw) rfl (by kernel_rfl) (Y.loadB (v := .int .i64 b2.stamp) Try.underlying3 rfl (.pl rfl) (i := 0) rfl (rfl)) rfl ?_
  refine WX.pure 5 #[true, true, true, true, false, true, false, false, false, false, false, false, false] rfl (by kernel_rfl) (fun _ _ => Y.fieldAddr0 (off := 1) (ft := 3) Try.underlying97 rfl cells3 (.pl rfl)) rfl ?_
  refine WX.take 6 #[true, true, true, true, false, true, true, false, false, false, false, false, false] (fun wz hw => St.tail [] hw) rfl (by kernel_rfl) (Y.loadB (v := .int .i64 a1.who) Try.underlying3 rfl (.pl rfl) (i := 1) rfl (rfl)) rfl ?_
  refine WX.pure 7 #[true, true, true, true, false, true, true, true, false, false, false, false, false] rfl (by kernel_rfl) (fun _ _ => Y.fieldAddr0 (off := 1) (ft := 3) Try.underlying97 rfl cells3 (.pl rfl)) rfl ?_
  refine WX.take 8 #[true, true, true, true, false, true, true, true, true, false, false, false, false] (fun wz hw => St.tail [] hw) rfl (by kernel_rfl) (Y.loadB (v := .int .i64 b2.who) Try.underlying3 rfl (.pl rfl) (i := 0) rfl (rfl)) rfl ?_
  obtain ⟨r5, hr5, hF⟩ := bnd hF
  refine WX.one 4 #[true, true, true, true, true, true, true, true, true, false, false, false, false] (fun wz hw => St.tail [] hw) rfl (by kernel_rfl) (WO.callP isGo117 (.cons (.pl rfl) (.cons (.pl rfl) (.nil))) rfl (fun wz hw => cmp_Compare_int_ok (hr5) wz ) ?_)
  obtain ⟨r6, hr6, hF⟩ := bnd hF
  refine WX.one 9 #[true, true, true, true, true, true, true, true, true, true, false, false, false] (fun wz hw => St.tail [] hw) rfl (by kernel_rfl) (WO.callP isGo117 (.cons (.pl rfl) (.cons (.pl rfl) (.nil))) rfl (fun wz hw => cmp_Compare_int_ok (hr6) wz ) ?_)
  refine WX.one 10 #[true, true, true, true, true, true, true, true, true, true, true, false, false] (fun wz hw => St.tail [] hw) rfl (by kernel_rfl) (WO.bsliceC (enc := (eI .i64)) (ys := ([r5, r6] : List Int)) Try.underlying47 bz3 (.cons (.pl rfl) (.cons (.pl rfl) (.nil))) rfl (fun _ => rfl) rfl rfl (by decide) (by decide) rfl fun b7 => ?_)
  obtain ⟨r8, hr8, hF⟩ := bnd hF
  refine WX.one 11 #[true, true, true, true, true, true, true, true, true, true, true, true, false] (fun wz hw => St.tail [_] hw) rfl (by kernel_rfl) (WO.callP isGo121 (.cons (.pl rfl) (.nil)) rfl (fun wz hw => cmp_Or_int_ok (hr8) wz (SlIn.ofRow (fun _ => rfl) hw (i := 0) rfl)) ?_)
  refine WX.stop #[true, true, true, true, true, true, true, true, true, true, true, true, true] (fun wz hw => St.tail [_] hw) rfl (by kernel_rfl) (WO.q (Y.assign (.pl rfl)) rfl ?_)
  refine WA.done (by kernel_rfl) ?_
  refine KK.next hK2 (.cons (i := 4) rfl (.nil)) ?_
  obtain rfl := Option.some.inj hF
  refine W.retV (fn := Try.f87) (vs := [.int .i64 r8]) Try.results87 ⟨.tmp rfl, trivial⟩ (fun _ _ h => h) (fun wz hw => ?_)
  exact hR _ _ ⟨rfl, (hw.pick [] rfl)⟩

def sites_net_hand (N : Nat) (fast2 : Bool) (sites5 : (List Site)) (people8 : (List SitesProcess)) (letters12 : (List SitesLetter)) (events15 : (List Event)) (i16 : Int) : Option ((List Site) × (List SitesLetter)) :=
  cond ((decide (i16 < 0)) || (decide (((letters12).length : Int) ≤ i16)))
    (some (sites5, letters12))
    (bd (ix letters12 i16) fun (x17 : SitesLetter) =>
    bd (ix sites5 x17.site) fun (x18 : Site) =>
    cond (x17.delivered || x18.down)
      (some (sites5, letters12))
      (cond (!x17.store)
        (some (sites5, (letters12.set i16.toNat (SitesLetter.mk x17.who x17.round x17.site x17.store (SitesTag.mk x18.stamp x18.who) x18.value true x17.received))))
        (bd (sites_compare N x17.tag (SitesTag.mk x18.stamp x18.who)) fun (r20 : Int) =>
        cond (decide (0 < r20))
          (some ((sites5.set x17.site.toNat (Site.mk x17.tag.stamp x17.tag.who x17.value x18.down)), (letters12.set i16.toNat (SitesLetter.mk x17.who x17.round x17.site x17.store x17.tag x17.value true x17.received))))
          (some (sites5, (letters12.set i16.toNat (SitesLetter.mk x17.who x17.round x17.site x17.store x17.tag x17.value true x17.received)))))))

theorem sites_net_hand_ok {N : Nat} {fast2 : Bool} {sites5 : (List Site)} {people8 : (List SitesProcess)} {letters12 : (List SitesLetter)} {events15 : (List Event)} {i16 : Int} {b1 : Nat} {A3 : Option Addr} {c4 : Nat} {A6 : Option Addr} {c7 : Nat} {hd9 : List Hd} {A10 : Option Addr} {c11 : Nat} {A13 : Option Addr} {c14 : Nat} {res : ((List Site) × (List SitesLetter))} (hF : sites_net_hand N fast2 sites5 people8 letters12 events15 i16 = some res) {w0 w : World} {T : List Chunk} (hw : St w0.heap.size w0 ([cBx b1 95 (Value.bool fast2 :: (Value.slice A3 (sites5).length c4 :: (Value.slice A6 (people8).length c7 :: (Value.slice A10 (letters12).length c11 :: (Value.slice A13 (events15).length c14 :: []))))), cR encSite 4 A3 c4 39 sites5, cN encNSitesProcess (innNSitesProcess w0) 8 A6 c7 99 hd9 people8, cR encSitesLetter 9 A10 c11 172 letters12, cR encEvent 4 A13 c14 34 events15] ++ T) w) :
    Calls Try.prog 53 (List.toArray [.pointer (some ⟨b1, 0, none⟩), .int .i64 i16]) w (fun e w' => ∃ g : Unit, (True) ∧ e = .returned (.tuple #[]) ∧ St w0.heap.size w0 ([cBx b1 95 (Value.bool fast2 :: (Value.slice A3 (res.1).length c4 :: (Value.slice A6 (people8).length c7 :: (Value.slice A10 (res.2).length c11 :: (Value.slice A13 (events15).length c14 :: []))))), cR encSite 4 A3 c4 39 res.1, cN encNSitesProcess (innNSitesProcess w0) 8 A6 c7 99 hd9 people8, cR encSitesLetter 9 A10 c11 172 res.2, cR encEvent 4 A13 c14 34 events15] ++ T) w') := by
  refine W.enter (n := 103) Try.func53 rfl rfl Sub.refl (by simp) hw fun R hR => ?_
  unfold sites_net_hand at hF
  refine W.seq fun K1 hK1 => ?_
  -- region 0: sites.go:72
  refine W.know (fun wz hwz => bor_of (h0 := ((none, 0) : Hd)) (q := fun h a => SlIn encAsk 3 w0 (.slice h.1 a.program.length h.2) a.program) hwz (i := 2) rfl (fun _ _ => .head _)) (fun hbor3 => ?_)
  refine W.seqR fun Q2 hQ2 => ?_
  refine WL.q (Y.move (.pl rfl)) rfl ?_
  refine WL.q (Y.lss (.pl rfl) (.pl rfl)) rfl ?_
  refine WL.q (Y.move (.pl rfl)) rfl ?_
  refine WL.g (.pl rfl rfl rfl) (fun hg => Y.move (.pl rfl)) rfl ?_
  refine WL.g (.pl rfl rfl rfl) (fun hg => Y.move (.pl rfl)) rfl ?_
  refine WL.g (.pl rfl rfl rfl) (fun hg => Y.nilCheck (.gd (hg) rfl)) rfl ?_
  refine WL.g (.pl rfl rfl rfl) (fun hg => Y.fieldAddr0 (off := 3) (ft := 93) Try.underlying95 rfl cells93 (.gd (hg) rfl)) rfl ?_
  refine WL.g (.pl rfl rfl rfl) (fun hg => Y.loadB (v := .slice A10 (letters12).length c11) Try.underlying93 rfl (.gd (hg) rfl) (i := 0) rfl (rfl)) rfl ?_
  refine WL.g (.pl rfl rfl rfl) (fun hg => Y.len Try.underlying93 (.gd (hg) rfl)) rfl ?_
  refine WL.g (.pl rfl rfl rfl) (fun hg => Y.geq (.gd (hg) rfl) (.gd (hg) rfl)) rfl ?_
  refine WL.q (Y.or (.pl rfl) (fun h2 => .gd (eqf h2) rfl)) rfl ?_
  refine WL.next hQ2 (.cons (i := 0) rfl (.cons (i := 1) rfl (.cons (i := 17) rfl (.nil)))) ?_
  refine W.cond (.pl rfl) (fun hC4 => ?_) (fun hC4 => ?_)
  · replace hF := cpos hC4 hF
    obtain rfl := Option.some.inj hF
    refine W.retV (fn := Try.f53) (vs := []) Try.results53 trivial (fun _ _ h => h) (fun wz hw => ?_)
    exact hR _ _ ⟨(), trivial, rfl, (hw.pickK 5 [0, 1, 2, 3, 4] rfl)⟩
  · replace hF := cneg hC4 hF
    refine W.skip ?_
    refine W.go hK1 (.cons (i := 0) rfl (.cons (i := 1) rfl (.nil))) ?_
    -- region 1: sites.go:75
    refine W.seqR fun Q5 hQ5 => ?_
    refine WL.q (Y.move (.pl rfl)) rfl ?_
    refine WL.q (Y.nilCheck (.pl rfl)) rfl ?_
    refine WL.q (Y.fieldAddr0 (off := 3) (ft := 93) Try.underlying95 rfl cells93 (.pl rfl)) rfl ?_
    refine WL.q (Y.loadB (v := .slice A10 (letters12).length c11) Try.underlying93 rfl (.pl rfl) (i := 0) rfl (rfl)) rfl ?_
    refine WL.q (Y.move (.pl rfl)) rfl ?_
    obtain ⟨x17, hx17, hF⟩ := bnd hF
    refine WL.q (Y.rowEl Try.underlying93 cells172 (i := 3) rfl (.pl rfl) rfl (.pl rfl) (ix_lt (hx17))) rfl ?_
    refine WL.q (Y.assign (.pl rfl)) rfl ?_
    refine WL.next hQ5 (.cons (i := 0) rfl (.cons (i := 4) rfl (.nil))) ?_
    -- region 2: sites.go:76
    refine W.seqD (by kernel_rfl) (by kernel_rfl) fun R6 hR6 => ?_
    refine WD.q (Y.move (.pl rfl)) rfl ?_
    refine WD.q (Y.nilCheck (.pl rfl)) rfl ?_
    refine WD.q (Y.fieldAddr0 (off := 1) (ft := 27) Try.underlying95 rfl cells27 (.pl rfl)) rfl ?_
    refine WD.q (Y.loadB (v := .slice A3 (sites5).length c4) Try.underlying27 rfl (.pl rfl) (i := 0) rfl (rfl)) rfl ?_
    refine WD.q (Y.move (.pl rfl)) rfl ?_
    refine WD.q (Y.nilCheck (.pl rfl)) rfl ?_
    refine WD.q (Y.rowField (off := 2) (ft := 3) Try.underlying172 rfl cells3 (i' := 3) rfl (ix_lt (hx17)) (.pl rfl)) rfl ?_
    refine WD.q (Y.loadR (enc := encSitesLetter) (v := .int .i64 x17.site) (a := x17) (idx := i16) (j := 2) Try.underlying3 rfl lenSitesLetter (i := 3) rfl (.pl rfl) (ix_get (hx17)) rfl rfl) rfl ?_
    obtain ⟨x18, hx18, hF⟩ := bnd hF
    refine WD.q (Y.rowEl Try.underlying27 cells39 (i := 1) rfl (.pl rfl) rfl (.pl rfl) (ix_lt (hx18))) rfl ?_
    refine WD.q (Y.assign (.pl rfl)) rfl ?_
    refine WD.next hR6 (.cons (i := 4) rfl (.cons (i := 5) rfl (.nil))) ?_
    refine W.seq fun K7 hK7 => ?_
    -- region 3: sites.go:77
    refine W.seqR fun Q8 hQ8 => ?_
    refine WL.q (Y.move (.pl rfl)) rfl ?_
    refine WL.q (Y.nilCheck (.pl rfl)) rfl ?_
    refine WL.q (Y.rowField (off := 7) (ft := 4) Try.underlying172 rfl cells4 (i' := 3) rfl (ix_lt (hx17)) (.pl rfl)) rfl ?_
    refine WL.q (Y.loadR (enc := encSitesLetter) (v := .bool x17.delivered) (a := x17) (idx := i16) (j := 7) Try.underlying4 rfl lenSitesLetter (i := 3) rfl (.pl rfl) (ix_get (hx17)) rfl rfl) rfl ?_
    refine WL.q (Y.move (.pl rfl)) rfl ?_
    refine WL.g (.pl rfl rfl rfl) (fun hg => Y.move (.pl rfl)) rfl ?_
    refine WL.g (.pl rfl rfl rfl) (fun hg => Y.nilCheck (.gd (hg) rfl)) rfl ?_
    refine WL.g (.pl rfl rfl rfl) (fun hg => Y.rowField (off := 3) (ft := 4) Try.underlying39 rfl cells4 (i' := 1) rfl (ix_lt (hx18)) (.gd (hg) rfl)) rfl ?_
    refine WL.g (.pl rfl rfl rfl) (fun hg => Y.loadR (enc := encSite) (v := .bool x18.down) (a := x18) (idx := x17.site) (j := 3) Try.underlying4 rfl lenSite (i := 1) rfl (.gd (hg) rfl) (ix_get (hx18)) rfl rfl) rfl ?_
    refine WL.q (Y.or (.pl rfl) (fun h2 => .gd (eqf h2) rfl)) rfl ?_
    refine WL.next hQ8 (.cons (i := 4) rfl (.cons (i := 5) rfl (.cons (i := 42) rfl (.nil)))) ?_
    refine W.cond (.pl rfl) (fun hC9 => ?_) (fun hC9 => ?_)
    · replace hF := cpos hC9 hF
      obtain rfl := Option.some.inj hF
      refine W.retV (fn := Try.f53) (vs := []) Try.results53 trivial (fun _ _ h => h) (fun wz hw => ?_)
      exact hR _ _ ⟨(), trivial, rfl, (hw.pickK 5 [0, 1, 2, 3, 4] rfl)⟩
    · replace hF := cneg hC9 hF
      refine W.skip ?_
      refine W.go hK7 (.cons (i := 4) rfl (.cons (i := 5) rfl (.nil))) ?_
      -- region 4: sites.go:80
      refine W.seqR fun Q10 hQ10 => ?_
      refine WL.q (Y.move (.pl rfl)) rfl ?_
      refine WL.q (Y.nilCheck (.pl rfl)) rfl ?_
      refine WL.q (Y.rowField (off := 7) (ft := 4) Try.underlying172 rfl cells4 (i' := 3) rfl (ix_lt (hx17)) (.pl rfl)) rfl ?_
      refine WL.step (WO.storeS (enc := encSitesLetter) (a := x17) (a' := (SitesLetter.mk x17.who x17.round x17.site x17.store x17.tag x17.value true x17.received)) (idx := i16) (j := 7) cells4 (.pl rfl) (.pl rfl) rfl lenSitesLetter (i := 3) rfl (ix_get (hx17)) rfl (by decide) rfl ?_)
      refine WL.next hQ10 (.cons (i := 4) rfl (.cons (i := 5) rfl (.nil))) ?_
      -- region 5: sites.go:81
      refine W.know (fun wz hw => (hw.row_lim (i := 1) rfl).2.2) (fun hok12 => ?_)
      refine W.know (fun wz hw => (hw.row_lim (i := 3) rfl).2.2) (fun hok13 => ?_)
      refine W.seqX 10 (by kernel_rfl) fun K11 hK11 => ?_
      refine WX.pure 0 #[true, false, false, false, false, false, false, false, false, false, false] rfl (by kernel_rfl) (fun _ _ => Y.move (.pl rfl)) rfl ?_
      refine WX.pure 1 #[true, true, false, false, false, false, false, false, false, false, false] rfl (by kernel_rfl) (fun _ _ => Y.nilCheck (.pl rfl)) rfl ?_
      refine WX.take 2 #[true, true, true, false, false, false, false, false, false, false, false] (fun wz hw => St.tail [] hw) rfl (by kernel_rfl) (Y.okField (off := 0) (ft := 3) Try.underlying39 rfl cells3 hok12 (by have := (ix_lt (hx18)); omega) (.pl rfl)) rfl ?_
      refine WX.take 3 #[true, true, true, true, false, false, false, false, false, false, false] (fun wz hw => St.tail [] hw) rfl (by kernel_rfl) (Y.loadR (enc := encSite) (v := .int .i64 x18.stamp) (a := x18) (idx := x17.site) (j := 0) Try.underlying3 rfl lenSite (i := 1) rfl (.pl rfl) (ix_get (hx18)) rfl rfl) rfl ?_
      refine WX.pure 4 #[true, true, true, true, true, false, false, false, false, false, false] rfl (by kernel_rfl) (fun _ _ => Y.move (.pl rfl)) rfl ?_
      refine WX.pure 5 #[true, true, true, true, true, true, false, false, false, false, false] rfl (by kernel_rfl) (fun _ _ => Y.nilCheck (.pl rfl)) rfl ?_
      refine WX.take 6 #[true, true, true, true, true, true, true, false, false, false, false] (fun wz hw => St.tail [] hw) rfl (by kernel_rfl) (Y.okField (off := 1) (ft := 3) Try.underlying39 rfl cells3 hok12 (by have := (ix_lt (hx18)); omega) (.pl rfl)) rfl ?_
      refine WX.take 7 #[true, true, true, true, true, true, true, true, false, false, false] (fun wz hw => St.tail [] hw) rfl (by kernel_rfl) (Y.loadR (enc := encSite) (v := .int .i64 x18.who) (a := x18) (idx := x17.site) (j := 1) Try.underlying3 rfl lenSite (i := 1) rfl (.pl rfl) (ix_get (hx18)) rfl rfl) rfl ?_
      refine WX.pure 8 #[true, true, true, true, true, true, true, true, true, false, false] rfl (by kernel_rfl) (fun _ _ => Y.build (cs := (encSitesTag (SitesTag.mk x18.stamp x18.who)).toArray) shape97 (.cons (.pl rfl) (.cons (.pl rfl) (.nil))) (one_parts ⟨rfl, ⟨rfl, trivial⟩⟩) rfl) rfl ?_
      refine WX.one 9 #[true, true, true, true, true, true, true, true, true, true, false] (fun wz hw => St.tail [] hw) rfl (by kernel_rfl) (WO.alloc (cs := (encSitesTag (SitesTag.mk 0 0)).toArray) zero97 rfl rfl fun b19 => ?_)
      refine WX.stop #[true, true, true, true, true, true, true, true, true, true, true] (fun wz hw => St.tail [_] hw) rfl (by kernel_rfl) (WO.storeBA (ds := (encSitesTag (SitesTag.mk x18.stamp x18.who))) (cs' := (encSitesTag (SitesTag.mk x18.stamp x18.who))) cells97 (.pl rfl) (.pl rfl) rfl (oneSitesTag _) (i := 0) rfl (lel (o := 0) (l := 2) (m := 2) (by decide) rfl rfl) (putW rfl) ?_)
      refine WA.done (by kernel_rfl) ?_
      refine KK.next hK11 (.cons (i := 4) rfl (.cons (i := 5) rfl (.cons (i := 6) rfl (.nil)))) ?_
      refine W.block ?_
      -- region 6: sites.go:83
      refine W.seqR fun Q14 hQ14 => ?_
      refine WL.q (Y.move (.pl rfl)) rfl ?_
      refine WL.q (Y.nilCheck (.pl rfl)) rfl ?_
      refine WL.q (Y.rowField (off := 3) (ft := 4) Try.underlying172 rfl cells4 (i' := 4) rfl (⟨(ix_lt (hx17)).1, by simpa only [List.length_set] using (ix_lt (hx17)).2⟩) (.pl rfl)) rfl ?_
      refine WL.q (Y.loadR (enc := encSitesLetter) (v := .bool x17.store) (a := (SitesLetter.mk x17.who x17.round x17.site x17.store x17.tag x17.value true x17.received)) (idx := i16) (j := 3) Try.underlying4 rfl lenSitesLetter (i := 4) rfl (.pl rfl) (setget (ix_lt (hx17))) rfl rfl) rfl ?_
      refine WL.q (Y.not (.pl rfl)) rfl ?_
      refine WL.q (Y.assign (.pl rfl)) rfl ?_
      refine WL.next hQ14 (.cons (i := 4) rfl (.cons (i := 5) rfl (.cons (i := 6) rfl (.cons (i := 55) rfl (.nil))))) ?_
      refine W.cond (.pl rfl) (fun hC15 => ?_) (fun hC15 => ?_)
      · replace hF := cpos hC15 hF
        -- region 7: sites.go:84
        refine W.know (fun wz hw => (hw.row_lim (i := 2) rfl).2.2) (fun hok17 => ?_)
        refine W.know (fun wz hw => (hw.row_lim (i := 4) rfl).2.2) (fun hok18 => ?_)
        refine W.regX 9 (by kernel_rfl) ?_
        refine WX.pure 0 #[true, false, false, false, false, false, false, false, false, false, false, false, false] rfl (by kernel_rfl) (fun _ _ => Y.move (.pl rfl)) rfl ?_
        refine WX.pure 1 #[true, true, false, false, false, false, false, false, false, false, false, false, false] rfl (by kernel_rfl) (fun _ _ => Y.move (.pl rfl)) rfl ?_
        refine WX.take 2 #[true, true, true, false, false, false, false, false, false, false, false, false, false] (fun wz hw => St.tail [] hw) rfl (by kernel_rfl) (Y.loadBA (ds := (encSitesTag (SitesTag.mk x18.stamp x18.who))) Try.underlying97 rfl cells97 (.pl rfl) (i := 0) rfl rfl subW) rfl ?_
        refine WX.pure 3 #[true, true, true, true, false, false, false, false, false, false, false, false, false] rfl (by kernel_rfl) (fun _ _ => Y.move (.pl rfl)) rfl ?_
        refine WX.pure 4 #[true, true, true, true, true, false, false, false, false, false, false, false, false] rfl (by kernel_rfl) (fun _ _ => Y.nilCheck (.pl rfl)) rfl ?_
        refine WX.take 5 #[true, true, true, true, true, true, false, false, false, false, false, false, false] (fun wz hw => St.tail [] hw) rfl (by kernel_rfl) (Y.okField (off := 2) (ft := 3) Try.underlying39 rfl cells3 hok17 (by have := (ix_lt (hx18)); omega) (.pl rfl)) rfl ?_
        refine WX.take 6 #[true, true, true, true, true, true, true, false, false, false, false, false, false] (fun wz hw => St.tail [] hw) rfl (by kernel_rfl) (Y.loadR (enc := encSite) (v := .int .i64 x18.value) (a := x18) (idx := x17.site) (j := 2) Try.underlying3 rfl lenSite (i := 2) rfl (.pl rfl) (ix_get (hx18)) rfl rfl) rfl ?_
        refine WX.pure 7 #[true, true, true, true, true, true, true, true, false, false, false, false, false] rfl (by kernel_rfl) (fun _ _ => Y.nilCheck (.pl rfl)) rfl ?_
        refine WX.take 8 #[true, true, true, true, true, true, true, true, true, false, false, false, false] (fun wz hw => St.tail [] hw) rfl (by kernel_rfl) (Y.okField (off := 4) (ft := 97) Try.underlying172 rfl cells97 hok18 (by have := (ix_lt (hx17)); have e1 : (letters12).length = ((letters12.set i16.toNat (SitesLetter.mk x17.who x17.round x17.site x17.store x17.tag x17.value true x17.received))).length := (by simp only [List.length_set]); omega) (.pl rfl)) rfl ?_
        refine WX.stop #[true, true, true, true, true, true, true, true, true, true, false, false, false] (fun wz hw => St.tail [] hw) rfl (by kernel_rfl) (WO.storeFSAj (enc := encSitesLetter) (ds := (encSitesTag (SitesTag.mk x18.stamp x18.who))) (a := (SitesLetter.mk x17.who x17.round x17.site x17.store x17.tag x17.value true x17.received)) (a' := (SitesLetter.mk x17.who x17.round x17.site x17.store (SitesTag.mk x18.stamp x18.who) x17.value true x17.received)) (idx := i16) (j := 4) cells97 (.pl rfl) (.pl rfl) rfl (oneSitesTag _) lenSitesLetter (i := 4) rfl (ix_lt (hx17)) rfl (by decide) rfl ?_)
        refine WA.take 10 #[true, true, true, true, true, true, true, true, true, true, true, false, false] rfl (by kernel_rfl) (fun _ _ => Y.nilCheck (.pl rfl)) rfl ?_
        refine WA.take 11 #[true, true, true, true, true, true, true, true, true, true, true, true, false] rfl (by kernel_rfl) (fun _ _ => Y.okField (off := 6) (ft := 3) Try.underlying172 rfl cells3 hok18 (by have := (ix_lt (hx17)); have e1 : (letters12).length = ((letters12.set i16.toNat (SitesLetter.mk x17.who x17.round x17.site x17.store x17.tag x17.value true x17.received))).length := (by simp only [List.length_set]); omega) (.pl rfl)) rfl ?_
        refine WA.branch [12] (by kernel_rfl) ⟨?_, trivial⟩
        refine WI.step #[true, true, true, true, true, true, true, true, true, true, true, true, true] rfl rfl (WO.storeFS (enc := encSitesLetter) (a := (SitesLetter.mk x17.who x17.round x17.site x17.store (SitesTag.mk x18.stamp x18.who) x17.value true x17.received)) (a' := (SitesLetter.mk x17.who x17.round x17.site x17.store (SitesTag.mk x18.stamp x18.who) x18.value true x17.received)) (idx := i16) (j := 6) cells3 (.pl rfl) (.pl rfl) rfl lenSitesLetter (i := 4) rfl (ix_lt (hx17)) rfl (by decide) rfl ?_)
        refine WA.done (by kernel_rfl) ?_
        obtain rfl := Option.some.inj hF
        refine W.endV (fn := Try.f53) (vs := []) Try.results53 trivial (fun _ _ h => h) (fun wz hw => ?_)
        exact hR _ _ ⟨(), trivial, rfl, (St.cong (L := ([cBx b1 95 (Value.bool fast2 :: (Value.slice A3 (sites5).length c4 :: (Value.slice A6 (people8).length c7 :: (Value.slice A10 (letters12).length c11 :: (Value.slice A13 (events15).length c14 :: []))))), cR encSite 4 A3 c4 39 sites5, cN encNSitesProcess (innNSitesProcess w0) 8 A6 c7 99 hd9 people8, cR encSitesLetter 9 A10 c11 172 (letters12.set i16.toNat (SitesLetter.mk x17.who x17.round x17.site x17.store (SitesTag.mk x18.stamp x18.who) x18.value true x17.received)), cR encEvent 4 A13 c14 34 events15] ++ T)) (hw.pickK 6 [1, 2, 3, 4, 5] rfl) (by simp only [List.length_set, List.nil_append, List.cons_append]))⟩
      · replace hF := cneg hC15 hF
        -- region 8: sites.go:85
        refine W.seqD (by kernel_rfl) (by kernel_rfl) fun R19 hR19 => ?_
        refine WD.q (Y.move (.pl rfl)) rfl ?_
        refine WD.q (Y.nilCheck (.pl rfl)) rfl ?_
        refine WD.q (Y.rowField (off := 4) (ft := 97) Try.underlying172 rfl cells97 (i' := 4) rfl (⟨(ix_lt (hx17)).1, by simpa only [List.length_set] using (ix_lt (hx17)).2⟩) (.pl rfl)) rfl ?_
        refine WD.q (Y.loadRA (enc := encSitesLetter) (ds := (encSitesTag x17.tag)) (a := (SitesLetter.mk x17.who x17.round x17.site x17.store x17.tag x17.value true x17.received)) (idx := i16) (j := 4) Try.underlying97 rfl cells97 lenSitesLetter (i := 4) rfl (.pl rfl) (setget (ix_lt (hx17))) rfl rfl (subM (pre := (Value.int .i64 x17.who :: (Value.int .i64 x17.round :: (Value.int .i64 x17.site :: (Value.bool x17.store :: []))))) (o := 4) rfl)) rfl ?_
        refine WD.q (Y.loadBA (ds := (encSitesTag (SitesTag.mk x18.stamp x18.who))) Try.underlying97 rfl cells97 (.pl rfl) (i := 0) rfl rfl subW) rfl ?_
        obtain ⟨r20, hr20, hF⟩ := bnd hF
        refine WD.callP isGo87 (.cons (.pl rfl) (.cons (.pl rfl) (.nil))) rfl (fun wz hw => sites_compare_ok (hr20) wz ) ?_
        refine WD.q (Y.gtr (.pl rfl) (.pl rfl)) rfl ?_
        refine WD.q (Y.assign (.pl rfl)) rfl ?_
        refine WD.next hR19 (.cons (i := 4) rfl (.cons (i := 5) rfl (.cons (i := 72) rfl (.nil)))) ?_
        refine W.cond (.pl rfl) (fun hC20 => ?_) (fun hC20 => ?_)
        · replace hF := cpos hC20 hF
          -- region 9: sites.go:86
          refine W.know (fun wz hw => (hw.row_lim (i := 2) rfl).2.2) (fun hok22 => ?_)
          refine W.know (fun wz hw => (hw.row_lim (i := 4) rfl).2.2) (fun hok23 => ?_)
          refine W.regX 19 (by kernel_rfl) ?_
          refine WX.pure 0 #[true, false, false, false, false, false, false, false, false, false, false, false, false, false, false, false, false, false, false, false, false, false, false, false, false, false] rfl (by kernel_rfl) (fun _ _ => Y.move (.pl rfl)) rfl ?_
          refine WX.pure 1 #[true, true, false, false, false, false, false, false, false, false, false, false, false, false, false, false, false, false, false, false, false, false, false, false, false, false] rfl (by kernel_rfl) (fun _ _ => Y.move (.pl rfl)) rfl ?_
          refine WX.pure 2 #[true, true, true, false, false, false, false, false, false, false, false, false, false, false, false, false, false, false, false, false, false, false, false, false, false, false] rfl (by kernel_rfl) (fun _ _ => Y.move (.pl rfl)) rfl ?_
          refine WX.pure 3 #[true, true, true, true, false, false, false, false, false, false, false, false, false, false, false, false, false, false, false, false, false, false, false, false, false, false] rfl (by kernel_rfl) (fun _ _ => Y.move (.pl rfl)) rfl ?_
          refine WX.pure 4 #[true, true, true, true, true, false, false, false, false, false, false, false, false, false, false, false, false, false, false, false, false, false, false, false, false, false] rfl (by kernel_rfl) (fun _ _ => Y.nilCheck (.pl rfl)) rfl ?_
          refine WX.take 5 #[true, true, true, true, true, true, false, false, false, false, false, false, false, false, false, false, false, false, false, false, false, false, false, false, false, false] (fun wz hw => St.tail [] hw) rfl (by kernel_rfl) (Y.okField (off := 4) (ft := 97) Try.underlying172 rfl cells97 hok23 (by have := (ix_lt (hx17)); have e1 : (letters12).length = ((letters12.set i16.toNat (SitesLetter.mk x17.who x17.round x17.site x17.store x17.tag x17.value true x17.received))).length := (by simp only [List.length_set]); omega) (.pl rfl)) rfl ?_
          refine WX.take 6 #[true, true, true, true, true, true, true, false, false, false, false, false, false, false, false, false, false, false, false, false, false, false, false, false, false, false] (fun wz hw => St.tail [] hw) rfl (by kernel_rfl) (Y.okField (off := 0) (ft := 3) Try.underlying97 rfl cells3 hok23 (by have := (ix_lt (hx17)); have e1 : (letters12).length = ((letters12.set i16.toNat (SitesLetter.mk x17.who x17.round x17.site x17.store x17.tag x17.value true x17.received))).length := (by simp only [List.length_set]); omega) (.pl rfl)) rfl ?_
          refine WX.take 7 #[true, true, true, true, true, true, true, true, false, false, false, false, false, false, false, false, false, false, false, false, false, false, false, false, false, false] (fun wz hw => St.tail [] hw) rfl (by kernel_rfl) (Y.loadR (enc := encSitesLetter) (v := .int .i64 x17.tag.stamp) (a := (SitesLetter.mk x17.who x17.round x17.site x17.store x17.tag x17.value true x17.received)) (idx := i16) (j := 4) Try.underlying3 rfl lenSitesLetter (i := 4) rfl (.pl rfl) (setget (ix_lt (hx17))) rfl rfl) rfl ?_
          refine WX.pure 8 #[true, true, true, true, true, true, true, true, true, false, false, false, false, false, false, false, false, false, false, false, false, false, false, false, false, false] rfl (by kernel_rfl) (fun _ _ => Y.move (.pl rfl)) rfl ?_
          refine WX.pure 9 #[true, true, true, true, true, true, true, true, true, true, false, false, false, false, false, false, false, false, false, false, false, false, false, false, false, false] rfl (by kernel_rfl) (fun _ _ => Y.nilCheck (.pl rfl)) rfl ?_
          refine WX.take 10 #[true, true, true, true, true, true, true, true, true, true, true, false, false, false, false, false, false, false, false, false, false, false, false, false, false, false] (fun wz hw => St.tail [] hw) rfl (by kernel_rfl) (Y.okField (off := 4) (ft := 97) Try.underlying172 rfl cells97 hok23 (by have := (ix_lt (hx17)); have e1 : (letters12).length = ((letters12.set i16.toNat (SitesLetter.mk x17.who x17.round x17.site x17.store x17.tag x17.value true x17.received))).length := (by simp only [List.length_set]); omega) (.pl rfl)) rfl ?_
          refine WX.take 11 #[true, true, true, true, true, true, true, true, true, true, true, true, false, false, false, false, false, false, false, false, false, false, false, false, false, false] (fun wz hw => St.tail [] hw) rfl (by kernel_rfl) (Y.okField (off := 1) (ft := 3) Try.underlying97 rfl cells3 hok23 (by have := (ix_lt (hx17)); have e1 : (letters12).length = ((letters12.set i16.toNat (SitesLetter.mk x17.who x17.round x17.site x17.store x17.tag x17.value true x17.received))).length := (by simp only [List.length_set]); omega) (.pl rfl)) rfl ?_
          refine WX.take 12 #[true, true, true, true, true, true, true, true, true, true, true, true, true, false, false, false, false, false, false, false, false, false, false, false, false, false] (fun wz hw => St.tail [] hw) rfl (by kernel_rfl) (Y.loadR (enc := encSitesLetter) (v := .int .i64 x17.tag.who) (a := (SitesLetter.mk x17.who x17.round x17.site x17.store x17.tag x17.value true x17.received)) (idx := i16) (j := 5) Try.underlying3 rfl lenSitesLetter (i := 4) rfl (.pl rfl) (setget (ix_lt (hx17))) rfl rfl) rfl ?_
          refine WX.pure 13 #[true, true, true, true, true, true, true, true, true, true, true, true, true, true, false, false, false, false, false, false, false, false, false, false, false, false] rfl (by kernel_rfl) (fun _ _ => Y.move (.pl rfl)) rfl ?_
          refine WX.pure 14 #[true, true, true, true, true, true, true, true, true, true, true, true, true, true, true, false, false, false, false, false, false, false, false, false, false, false] rfl (by kernel_rfl) (fun _ _ => Y.nilCheck (.pl rfl)) rfl ?_
          refine WX.take 15 #[true, true, true, true, true, true, true, true, true, true, true, true, true, true, true, true, false, false, false, false, false, false, false, false, false, false] (fun wz hw => St.tail [] hw) rfl (by kernel_rfl) (Y.okField (off := 6) (ft := 3) Try.underlying172 rfl cells3 hok23 (by have := (ix_lt (hx17)); have e1 : (letters12).length = ((letters12.set i16.toNat (SitesLetter.mk x17.who x17.round x17.site x17.store x17.tag x17.value true x17.received))).length := (by simp only [List.length_set]); omega) (.pl rfl)) rfl ?_
          refine WX.take 16 #[true, true, true, true, true, true, true, true, true, true, true, true, true, true, true, true, true, false, false, false, false, false, false, false, false, false] (fun wz hw => St.tail [] hw) rfl (by kernel_rfl) (Y.loadR (enc := encSitesLetter) (v := .int .i64 x17.value) (a := (SitesLetter.mk x17.who x17.round x17.site x17.store x17.tag x17.value true x17.received)) (idx := i16) (j := 6) Try.underlying3 rfl lenSitesLetter (i := 4) rfl (.pl rfl) (setget (ix_lt (hx17))) rfl rfl) rfl ?_
          refine WX.pure 17 #[true, true, true, true, true, true, true, true, true, true, true, true, true, true, true, true, true, true, false, false, false, false, false, false, false, false] rfl (by kernel_rfl) (fun _ _ => Y.nilCheck (.pl rfl)) rfl ?_
          refine WX.take 18 #[true, true, true, true, true, true, true, true, true, true, true, true, true, true, true, true, true, true, true, false, false, false, false, false, false, false] (fun wz hw => St.tail [] hw) rfl (by kernel_rfl) (Y.okField (off := 0) (ft := 3) Try.underlying39 rfl cells3 hok22 (by have := (ix_lt (hx18)); omega) (.pl rfl)) rfl ?_
          refine WX.stop #[true, true, true, true, true, true, true, true, true, true, true, true, true, true, true, true, true, true, true, true, false, false, false, false, false, false] (fun wz hw => St.tail [] hw) rfl (by kernel_rfl) (WO.storeS (enc := encSite) (a := x18) (a' := (Site.mk x17.tag.stamp x18.who x18.value x18.down)) (idx := x17.site) (j := 0) cells3 (.pl rfl) (.pl rfl) rfl lenSite (i := 2) rfl (ix_get (hx18)) rfl (by decide) rfl ?_)
          refine WA.take 20 #[true, true, true, true, true, true, true, true, true, true, true, true, true, true, true, true, true, true, true, true, true, false, false, false, false, false] rfl (by kernel_rfl) (fun _ _ => Y.nilCheck (.pl rfl)) rfl ?_
          refine WA.take 21 #[true, true, true, true, true, true, true, true, true, true, true, true, true, true, true, true, true, true, true, true, true, true, false, false, false, false] rfl (by kernel_rfl) (fun _ _ => Y.okField (off := 1) (ft := 3) Try.underlying39 rfl cells3 hok22 (by have := (ix_lt (hx18)); omega) (.pl rfl)) rfl ?_
          refine WA.branch [22] (by kernel_rfl) ⟨?_, trivial⟩
          refine WI.step #[true, true, true, true, true, true, true, true, true, true, true, true, true, true, true, true, true, true, true, true, true, true, true, false, false, false] rfl rfl (WO.storeFS (enc := encSite) (a := (Site.mk x17.tag.stamp x18.who x18.value x18.down)) (a' := (Site.mk x17.tag.stamp x17.tag.who x18.value x18.down)) (idx := x17.site) (j := 1) cells3 (.pl rfl) (.pl rfl) rfl lenSite (i := 2) rfl (ix_lt (hx18)) rfl (by decide) rfl ?_)
          refine WA.take 23 #[true, true, true, true, true, true, true, true, true, true, true, true, true, true, true, true, true, true, true, true, true, true, true, true, false, false] rfl (by kernel_rfl) (fun _ _ => Y.nilCheck (.pl rfl)) rfl ?_
          refine WA.take 24 #[true, true, true, true, true, true, true, true, true, true, true, true, true, true, true, true, true, true, true, true, true, true, true, true, true, false] rfl (by kernel_rfl) (fun _ _ => Y.okField (off := 2) (ft := 3) Try.underlying39 rfl cells3 hok22 (by have := (ix_lt (hx18)); omega) (.pl rfl)) rfl ?_
          refine WA.branch [25] (by kernel_rfl) ⟨?_, trivial⟩
          refine WI.step #[true, true, true, true, true, true, true, true, true, true, true, true, true, true, true, true, true, true, true, true, true, true, true, true, true, true] rfl rfl (WO.storeFS (enc := encSite) (a := (Site.mk x17.tag.stamp x17.tag.who x18.value x18.down)) (a' := (Site.mk x17.tag.stamp x17.tag.who x17.value x18.down)) (idx := x17.site) (j := 2) cells3 (.pl rfl) (.pl rfl) rfl lenSite (i := 2) rfl (ix_lt (hx18)) rfl (by decide) rfl ?_)
          refine WA.done (by kernel_rfl) ?_
          obtain rfl := Option.some.inj hF
          refine W.endV (fn := Try.f53) (vs := []) Try.results53 trivial (fun _ _ h => h) (fun wz hw => ?_)
          exact hR _ _ ⟨(), trivial, rfl, (St.cong (L := ([cBx b1 95 (Value.bool fast2 :: (Value.slice A3 (sites5).length c4 :: (Value.slice A6 (people8).length c7 :: (Value.slice A10 (letters12).length c11 :: (Value.slice A13 (events15).length c14 :: []))))), cR encSite 4 A3 c4 39 (sites5.set x17.site.toNat (Site.mk x17.tag.stamp x17.tag.who x17.value x18.down)), cN encNSitesProcess (innNSitesProcess w0) 8 A6 c7 99 hd9 people8, cR encSitesLetter 9 A10 c11 172 (letters12.set i16.toNat (SitesLetter.mk x17.who x17.round x17.site x17.store x17.tag x17.value true x17.received)), cR encEvent 4 A13 c14 34 events15] ++ T)) (hw.pickK 6 [1, 2, 3, 4, 5] rfl) (by simp only [List.length_set, List.nil_append, List.cons_append]))⟩
        · replace hF := cneg hC20 hF
          refine W.skip ?_
          obtain rfl := Option.some.inj hF
          refine W.endV (fn := Try.f53) (vs := []) Try.results53 trivial (fun _ _ h => h) (fun wz hw => ?_)
          exact hR _ _ ⟨(), trivial, rfl, (St.cong (L := ([cBx b1 95 (Value.bool fast2 :: (Value.slice A3 (sites5).length c4 :: (Value.slice A6 (people8).length c7 :: (Value.slice A10 (letters12).length c11 :: (Value.slice A13 (events15).length c14 :: []))))), cR encSite 4 A3 c4 39 sites5, cN encNSitesProcess (innNSitesProcess w0) 8 A6 c7 99 hd9 people8, cR encSitesLetter 9 A10 c11 172 (letters12.set i16.toNat (SitesLetter.mk x17.who x17.round x17.site x17.store x17.tag x17.value true x17.received)), cR encEvent 4 A13 c14 34 events15] ++ T)) (hw.pickK 6 [1, 2, 3, 4, 5] rfl) (by simp only [List.length_set, List.nil_append, List.cons_append]))⟩

def sites_net_respond (N : Nat) (fast2 : Bool) (sites5 : (List Site)) (people8 : (List SitesProcess)) (letters12 : (List SitesLetter)) (events15 : (List Event)) (who16 : Int) (res17 : Int) : Option (List SitesProcess) :=
  bd (ix people8 who16) fun (x18 : SitesProcess) =>
  ck (limB 32 ((events15).length + (([(Event.mk who16 0 0 res17)] : List Event)).length)) <|
  ck (ok64 (x18.round + 1)) <|
  ck (slB (x18.program).length 1 ((x18.program).length : Int)) <|
  some (((people8.set who16.toNat (SitesProcess.mk x18.program false x18.round x18.store x18.replies x18.best x18.value)).set who16.toNat (SitesProcess.mk x18.program false (x18.round + 1) x18.store x18.replies x18.best x18.value)).set who16.toNat (SitesProcess.mk (x18.program.drop (1 : Int).toNat) false (x18.round + 1) x18.store x18.replies x18.best x18.value))

theorem sites_net_respond_ok {N : Nat} {fast2 : Bool} {sites5 : (List Site)} {people8 : (List SitesProcess)} {letters12 : (List SitesLetter)} {events15 : (List Event)} {who16 : Int} {res17 : Int} {b1 : Nat} {A3 : Option Addr} {c4 : Nat} {A6 : Option Addr} {c7 : Nat} {hd9 : List Hd} {A10 : Option Addr} {c11 : Nat} {A13 : Option Addr} {c14 : Nat} {res : (List SitesProcess)} (hF : sites_net_respond N fast2 sites5 people8 letters12 events15 who16 res17 = some res) {w0 w : World} {T : List Chunk} (hw : St w0.heap.size w0 ([cBx b1 95 (Value.bool fast2 :: (Value.slice A3 (sites5).length c4 :: (Value.slice A6 (people8).length c7 :: (Value.slice A10 (letters12).length c11 :: (Value.slice A13 (events15).length c14 :: []))))), cR encSite 4 A3 c4 39 sites5, cN encNSitesProcess (innNSitesProcess w0) 8 A6 c7 99 hd9 people8, cR encSitesLetter 9 A10 c11 172 letters12, cR encEvent 4 A13 c14 34 events15] ++ T) w) :
    Calls Try.prog 122 (List.toArray [.pointer (some ⟨b1, 0, none⟩), .int .i64 who16, .int .i64 res17]) w (fun e w' => ∃ g : (Option Addr × Nat), (True) ∧ e = .returned (.tuple #[]) ∧ St w0.heap.size w0 ([cBx b1 95 (Value.bool fast2 :: (Value.slice A3 (sites5).length c4 :: (Value.slice A6 (res).length c7 :: (Value.slice A10 (letters12).length c11 :: (Value.slice g.1 ((events15 ++ ([(Event.mk who16 0 0 res17)] : List Event))).length g.2 :: []))))), cR encSite 4 A3 c4 39 sites5, cN encNSitesProcess (innNSitesProcess w0) 8 A6 c7 99 (hd9.set who16.toNat (((subA (hd9.getD who16.toNat ((none, 0) : Hd)).1 (hd9.getD who16.toNat ((none, 0) : Hd)).2 (1 : Int).toNat 3), ((hd9.getD who16.toNat ((none, 0) : Hd)).2 - (1 : Int).toNat)) : Hd)) res, cR encSitesLetter 9 A10 c11 172 letters12, cR encEvent 4 g.1 g.2 34 (events15 ++ ([(Event.mk who16 0 0 res17)] : List Event))] ++ T) w') := by
  refine W.enter (n := 43) Try.func122 rfl rfl Sub.refl (by simp) hw fun R hR => ?_
  unfold sites_net_respond at hF
  -- region 0: sites.go:114
  refine W.know (fun wz hwz => bor_of (h0 := ((none, 0) : Hd)) (q := fun h a => SlIn encAsk 3 w0 (.slice h.1 a.program.length h.2) a.program) hwz (i := 2) rfl (fun _ _ => .head _)) (fun hbor2 => ?_)
  refine W.seqR fun Q1 hQ1 => ?_
  refine WL.q (Y.move (.pl rfl)) rfl ?_
  refine WL.q (Y.nilCheck (.pl rfl)) rfl ?_
  refine WL.q (Y.fieldAddr0 (off := 2) (ft := 92) Try.underlying95 rfl cells92 (.pl rfl)) rfl ?_
  refine WL.q (Y.loadB (v := .slice A6 (people8).length c7) Try.underlying92 rfl (.pl rfl) (i := 0) rfl (rfl)) rfl ?_
  refine WL.q (Y.move (.pl rfl)) rfl ?_
  obtain ⟨x18, hx18, hF⟩ := bnd hF
  refine WL.q (Y.nEl Try.underlying92 cells99 (i := 2) rfl (.pl rfl) rfl (.pl rfl) (ix_lt (hx18))) rfl ?_
  refine WL.q (Y.assign (.pl rfl)) rfl ?_
  refine WL.next hQ1 (.cons (i := 0) rfl (.cons (i := 1) rfl (.cons (i := 2) rfl (.cons (i := 6) rfl (.nil))))) ?_
  -- region 1: sites.go:115
  refine W.seqR fun Q3 hQ3 => ?_
  refine WL.q (Y.move (.pl rfl)) rfl ?_
  refine WL.q (Y.move (.pl rfl)) rfl ?_
  refine WL.q (Y.nilCheck (.pl rfl)) rfl ?_
  refine WL.q (Y.fieldAddr0 (off := 4) (ft := 26) Try.underlying95 rfl cells26 (.pl rfl)) rfl ?_
  refine WL.q (Y.loadB (v := .slice A13 (events15).length c14) Try.underlying26 rfl (.pl rfl) (i := 0) rfl (rfl)) rfl ?_
  refine WL.q (Y.move (.pl rfl)) rfl ?_
  refine WL.q (Y.move (.pl rfl)) rfl ?_
  refine WL.q (Y.build (cs := (encEvent (Event.mk who16 0 0 res17)).toArray) shape34 (.cons (.pl rfl) (.cons (.pl rfl) (.cons (.pl rfl) (.nil)))) (one_parts ⟨rfl, ⟨rfl, ⟨rfl, trivial⟩⟩⟩) rfl) rfl ?_
  refine WL.step (WO.bsliceC (enc := encEvent) (ys := ([(Event.mk who16 0 0 res17)] : List Event)) Try.underlying26 bz34 (.cons (.pl rfl) (.nil)) rfl lenEvent rfl rfl (by decide) (by decide) rfl fun b19 => ?_)
  obtain ⟨hk22, hF⟩ := ckh hF
  refine WL.step (WO.appendC (enc := encEvent) Try.underlying26 ap34 lenEvent oneEvent (.pl rfl) rfl (.pl rfl) (i := 5) rfl (m2 := 0) rfl (hk22) rfl fun A20 c21 => ?_)
  refine WL.q (Y.nilCheck (.pl rfl)) rfl ?_
  refine WL.q (Y.fieldAddr0 (off := 4) (ft := 26) Try.underlying95 rfl cells26 (.pl rfl)) rfl ?_
  refine WL.step (WO.storeB (cs' := (Value.bool fast2 :: (Value.slice A3 (sites5).length c4 :: (Value.slice A6 (people8).length c7 :: (Value.slice A10 (letters12).length c11 :: (Value.slice A20 ((events15 ++ ([(Event.mk who16 0 0 res17)] : List Event))).length c21 :: [])))))) cells26 (.pl rfl) (.pl rfl) rfl (i := 1) rfl (ltl (m := 5) (by decide) rfl) (rfl) ?_)
  refine WL.next hQ3 (.cons (i := 6) rfl (.nil)) ?_
  -- region 2: sites.go:116
  refine W.seqR fun Q4 hQ4 => ?_
  refine WL.q (Y.move (.pl rfl)) rfl ?_
  refine WL.q (Y.nilCheck (.pl rfl)) rfl ?_
  refine WL.q (Y.nField (off := 1) (ft := 4) Try.underlying99 rfl cells4 (i' := 3) rfl (ix_lt (hx18)) (.pl rfl)) rfl ?_
  refine WL.step (WO.storeN0 (enc := encNSitesProcess) (inn := (innNSitesProcess w0)) (h0 := ((none, 0) : Hd)) (a := (SitesProcess.mk x18.program x18.pending x18.round x18.store x18.replies x18.best x18.value)) (a' := (SitesProcess.mk x18.program false x18.round x18.store x18.replies x18.best x18.value)) (idx := who16) (j := 1) cells4 (.pl rfl) (.pl rfl) rfl lenNSitesProcess (i := 3) rfl (ix_get (hx18)) rfl (by decide) rfl rfl ?_)
  refine WL.next hQ4 (.cons (i := 6) rfl (.nil)) ?_
  -- region 3: sites.go:117
  refine W.know (fun wz hwz => bor_of (h0 := ((none, 0) : Hd)) (q := fun h a => SlIn encAsk 3 w0 (.slice h.1 a.program.length h.2) a.program) hwz (i := 0) rfl (fun _ _ => .head _)) (fun hbor6 => ?_)
  refine W.seqR fun Q5 hQ5 => ?_
  refine WL.q (Y.move (.pl rfl)) rfl ?_
  refine WL.q (Y.nilCheck (.pl rfl)) rfl ?_
  refine WL.q (Y.nField (off := 2) (ft := 3) Try.underlying99 rfl cells3 (i' := 0) rfl (⟨(ix_lt (hx18)).1, by simpa only [List.length_set] using (ix_lt (hx18)).2⟩) (.pl rfl)) rfl ?_
  refine WL.q (Y.loadN (enc := encNSitesProcess) (h0 := ((none, 0) : Hd)) (v := .int .i64 x18.round) (a := (SitesProcess.mk x18.program false x18.round x18.store x18.replies x18.best x18.value)) (idx := who16) (j := 2) Try.underlying3 rfl lenNSitesProcess (i := 0) rfl (.pl rfl) (setget (ix_lt (hx18))) rfl rfl) rfl ?_
  obtain ⟨hk23, hF⟩ := ckh hF
  refine WL.q (Y.add (.pl rfl) (.pl rfl) (ok64_lt (hk23))) rfl ?_
  refine WL.q (Y.nilCheck (.pl rfl)) rfl ?_
  refine WL.q (Y.nField (off := 2) (ft := 3) Try.underlying99 rfl cells3 (i' := 0) rfl (⟨(ix_lt (hx18)).1, by simpa only [List.length_set] using (ix_lt (hx18)).2⟩) (.pl rfl)) rfl ?_
  refine WL.step (WO.storeN0 (enc := encNSitesProcess) (inn := (innNSitesProcess w0)) (h0 := ((none, 0) : Hd)) (a := (SitesProcess.mk x18.program false x18.round x18.store x18.replies x18.best x18.value)) (a' := (SitesProcess.mk x18.program false (x18.round + 1) x18.store x18.replies x18.best x18.value)) (idx := who16) (j := 2) cells3 (.pl rfl) (.pl rfl) rfl lenNSitesProcess (i := 0) rfl (setget (ix_lt (hx18))) rfl (by decide) rfl rfl ?_)
  refine WL.next hQ5 (.cons (i := 6) rfl (.nil)) ?_
  -- region 4: sites.go:118
  refine W.know (fun wz hwz => bor_of (h0 := ((none, 0) : Hd)) (q := fun h a => SlIn encAsk 3 w0 (.slice h.1 a.program.length h.2) a.program) hwz (i := 0) rfl (fun _ _ => .head _)) (fun hbor8 => ?_)
  refine W.reg ?_
  refine WL.q (Y.move (.pl rfl)) rfl ?_
  refine WL.q (Y.move (.pl rfl)) rfl ?_
  refine WL.q (Y.nilCheck (.pl rfl)) rfl ?_
  refine WL.q (Y.nField (off := 0) (ft := 41) Try.underlying99 rfl cells41 (i' := 0) rfl (⟨(ix_lt (hx18)).1, by simpa only [List.length_set] using (ix_lt (hx18)).2⟩) (.pl rfl)) rfl ?_
  refine WL.q (Y.loadN (enc := encNSitesProcess) (h0 := ((none, 0) : Hd)) (v := .slice (hd9.getD who16.toNat ((none, 0) : Hd)).1 (x18.program).length (hd9.getD who16.toNat ((none, 0) : Hd)).2) (a := (SitesProcess.mk x18.program false (x18.round + 1) x18.store x18.replies x18.best x18.value)) (idx := who16) (j := 0) Try.underlying41 rfl lenNSitesProcess (i := 0) rfl (.pl rfl) (setget (⟨(ix_lt (hx18)).1, by simpa only [List.length_set] using (ix_lt (hx18)).2⟩)) rfl rfl) rfl ?_
  obtain ⟨hk24, hF⟩ := ckh hF
  refine WL.q (Y.slice1 (xs := x18.program) Try.underlying41 cells58 (.pl rfl) rfl ((hbor2 _ _ (ix_get (hx18)))).cap_le (.pl rfl) (hk24)) rfl ?_
  refine WL.q (Y.nilCheck (.pl rfl)) rfl ?_
  refine WL.q (Y.nField (off := 0) (ft := 41) Try.underlying99 rfl cells41 (i' := 0) rfl (⟨(ix_lt (hx18)).1, by simpa only [List.length_set] using (ix_lt (hx18)).2⟩) (.pl rfl)) rfl ?_
  refine WL.step (WO.storeN (enc := encNSitesProcess) (inn := (innNSitesProcess w0)) (h0 := ((none, 0) : Hd)) (h' := (((subA (hd9.getD who16.toNat ((none, 0) : Hd)).1 (hd9.getD who16.toNat ((none, 0) : Hd)).2 (1 : Int).toNat 3), ((hd9.getD who16.toNat ((none, 0) : Hd)).2 - (1 : Int).toNat)) : Hd)) (a := (SitesProcess.mk x18.program false (x18.round + 1) x18.store x18.replies x18.best x18.value)) (a' := (SitesProcess.mk (x18.program.drop (1 : Int).toNat) false (x18.round + 1) x18.store x18.replies x18.best x18.value)) (idx := who16) (j := 0) cells41 (.pl rfl) (.pl rfl) rfl lenNSitesProcess (i := 0) rfl (setget (⟨(ix_lt (hx18)).1, by simpa only [List.length_set] using (ix_lt (hx18)).2⟩)) rfl (by decide) rfl (.trans (.drop (M := (innNSitesProcess w0) _ _)) (.fact ((SlIn.sub1 (hbor2 _ _ (ix_get (hx18))) (slB_nat (hk24)).1)))) ?_)
  refine WL.nil ?_
  obtain rfl := Option.some.inj hF
  refine W.endV (fn := Try.f122) (vs := []) Try.results122 trivial (fun _ _ h => h) (fun wz hw => ?_)
  exact hR _ _ ⟨(A20, c21), trivial, rfl, (St.cong (L := ([cBx b1 95 (Value.bool fast2 :: (Value.slice A3 (sites5).length c4 :: (Value.slice A6 (people8).length c7 :: (Value.slice A10 (letters12).length c11 :: (Value.slice A20 ((events15 ++ ([(Event.mk who16 0 0 res17)] : List Event))).length c21 :: []))))), cR encSite 4 A3 c4 39 sites5, cN encNSitesProcess (innNSitesProcess w0) 8 A6 c7 99 (hd9.set who16.toNat (((subA (hd9.getD who16.toNat ((none, 0) : Hd)).1 (hd9.getD who16.toNat ((none, 0) : Hd)).2 (1 : Int).toNat 3), ((hd9.getD who16.toNat ((none, 0) : Hd)).2 - (1 : Int).toNat)) : Hd)) (((people8.set who16.toNat (SitesProcess.mk x18.program false x18.round x18.store x18.replies x18.best x18.value)).set who16.toNat (SitesProcess.mk x18.program false (x18.round + 1) x18.store x18.replies x18.best x18.value)).set who16.toNat (SitesProcess.mk (x18.program.drop (1 : Int).toNat) false (x18.round + 1) x18.store x18.replies x18.best x18.value)), cR encSitesLetter 9 A10 c11 172 letters12, cR encEvent 4 A20 c21 34 (events15 ++ ([(Event.mk who16 0 0 res17)] : List Event))] ++ T)) (hw.pickK 6 [2, 3, 0, 4, 5] rfl) (by simp only [List.length_set, List.nil_append, List.cons_append]))⟩

def sites_net_next (N : Nat) (fast2 : Bool) (sites5 : (List Site)) (people8 : (List SitesProcess)) (letters12 : (List SitesLetter)) (events15 : (List Event)) (who16 : Int) : Option ((List SitesProcess) × (List SitesLetter) × (List Event)) :=
  bd (ix people8 who16) fun (x17 : SitesProcess) =>
  bd (ix x17.program 0) fun (x18 : Ask) =>
  cond (x17.store && (decide (x18.kind = 1)))
    (bd (sites_net_respond N fast2 sites5 people8 letters12 events15 who16 0) fun (r19 : (List SitesProcess)) =>
    some (r19, letters12, (events15 ++ ([(Event.mk who16 0 0 0)] : List Event))))
    (cond (x17.store || ((!(decide (x18.kind = 1))) && fast2))
      (bd (sites_net_respond N fast2 sites5 people8 letters12 events15 who16 x17.value) fun (r22 : (List SitesProcess)) =>
      some (r22, letters12, (events15 ++ ([(Event.mk who16 0 0 x17.value)] : List Event))))
      (cond (decide (x18.kind = 1))
        (ck (ok64 (x17.best.stamp + 1)) <|
        bd (sites_net_start N fast2 sites5 people8 letters12 events15 who16 true (SitesTag.mk (x17.best.stamp + 1) who16) x18.arg) fun (r26 : ((List SitesProcess) × (List SitesLetter))) =>
        some (r26.1, r26.2, events15))
        (bd (sites_net_start N fast2 sites5 people8 letters12 events15 who16 true x17.best x17.value) fun (r29 : ((List SitesProcess) × (List SitesLetter))) =>
        some (r29.1, r29.2, events15))))

theorem sites_net_next_ok {N : Nat} {fast2 : Bool} {sites5 : (List Site)} {people8 : (List SitesProcess)} {letters12 : (List SitesLetter)} {events15 : (List Event)} {who16 : Int} {b1 : Nat} {A3 : Option Addr} {c4 : Nat} {A6 : Option Addr} {c7 : Nat} {hd9 : List Hd} {A10 : Option Addr} {c11 : Nat} {A13 : Option Addr} {c14 : Nat} {res : ((List SitesProcess) × (List SitesLetter) × (List Event))} (hF : sites_net_next N fast2 sites5 people8 letters12 events15 who16 = some res) {w0 w : World} {T : List Chunk} (hw : St w0.heap.size w0 ([cBx b1 95 (Value.bool fast2 :: (Value.slice A3 (sites5).length c4 :: (Value.slice A6 (people8).length c7 :: (Value.slice A10 (letters12).length c11 :: (Value.slice A13 (events15).length c14 :: []))))), cR encSite 4 A3 c4 39 sites5, cN encNSitesProcess (innNSitesProcess w0) 8 A6 c7 99 hd9 people8, cR encSitesLetter 9 A10 c11 172 letters12, cR encEvent 4 A13 c14 34 events15] ++ T) w) :
    Calls Try.prog 88 (List.toArray [.pointer (some ⟨b1, 0, none⟩), .int .i64 who16]) w (fun e w' => ∃ g : (List Hd × Option Addr × Nat × Option Addr × Nat), (True) ∧ e = .returned (.tuple #[]) ∧ St w0.heap.size w0 ([cBx b1 95 (Value.bool fast2 :: (Value.slice A3 (sites5).length c4 :: (Value.slice A6 (res.1).length c7 :: (Value.slice g.2.1 (res.2.1).length g.2.2.1 :: (Value.slice g.2.2.2.1 (res.2.2).length g.2.2.2.2 :: []))))), cR encSite 4 A3 c4 39 sites5, cN encNSitesProcess (innNSitesProcess w0) 8 A6 c7 99 g.1 res.1, cR encSitesLetter 9 g.2.1 g.2.2.1 172 res.2.1, cR encEvent 4 g.2.2.2.1 g.2.2.2.2 34 res.2.2] ++ T) w') := by
  refine W.enter (n := 84) Try.func88 rfl rfl Sub.refl (by simp) hw fun R hR => ?_
  unfold sites_net_next at hF
  -- region 0: sites.go:123
  refine W.know (fun wz hwz => bor_of (h0 := ((none, 0) : Hd)) (q := fun h a => SlIn encAsk 3 w0 (.slice h.1 a.program.length h.2) a.program) hwz (i := 2) rfl (fun _ _ => .head _)) (fun hbor2 => ?_)
  refine W.seqR fun Q1 hQ1 => ?_
  refine WL.q (Y.move (.pl rfl)) rfl ?_
  refine WL.q (Y.nilCheck (.pl rfl)) rfl ?_
  refine WL.q (Y.fieldAddr0 (off := 2) (ft := 92) Try.underlying95 rfl cells92 (.pl rfl)) rfl ?_
  refine WL.q (Y.loadB (v := .slice A6 (people8).length c7) Try.underlying92 rfl (.pl rfl) (i := 0) rfl (rfl)) rfl ?_
  refine WL.q (Y.move (.pl rfl)) rfl ?_
  obtain ⟨x17, hx17, hF⟩ := bnd hF
  refine WL.q (Y.nEl Try.underlying92 cells99 (i := 2) rfl (.pl rfl) rfl (.pl rfl) (ix_lt (hx17))) rfl ?_
  refine WL.q (Y.assign (.pl rfl)) rfl ?_
  refine WL.next hQ1 (.cons (i := 0) rfl (.cons (i := 1) rfl (.cons (i := 4) rfl (.nil)))) ?_
  -- region 1: sites.go:124
  refine W.seqR fun Q3 hQ3 => ?_
  refine WL.q (Y.move (.pl rfl)) rfl ?_
  refine WL.q (Y.nilCheck (.pl rfl)) rfl ?_
  refine WL.q (Y.nField (off := 0) (ft := 41) Try.underlying99 rfl cells41 (i' := 2) rfl (ix_lt (hx17)) (.pl rfl)) rfl ?_
  refine WL.q (Y.loadN (enc := encNSitesProcess) (h0 := ((none, 0) : Hd)) (v := .slice (hd9.getD who16.toNat ((none, 0) : Hd)).1 (x17.program).length (hd9.getD who16.toNat ((none, 0) : Hd)).2) (a := (SitesProcess.mk x17.program x17.pending x17.round x17.store x17.replies x17.best x17.value)) (idx := who16) (j := 0) Try.underlying41 rfl lenNSitesProcess (i := 2) rfl (.pl rfl) (ix_get (hx17)) rfl rfl) rfl ?_
  obtain ⟨x18, hx18, hF⟩ := bnd hF
  refine WL.q (Y.slEl Try.underlying41 cells58 (hbor2 _ _ (ix_get (hx17))) (.pl rfl) (.pl rfl) (ix_lt (hx18))) rfl ?_
  refine WL.q (Y.slField (off := 1) (ft := 3) Try.underlying58 rfl cells3 ((hbor2 _ _ (ix_get (hx17)))) (ix_lt (hx18)) (.pl rfl)) rfl ?_
  refine WL.q (Y.loadS (enc := encAsk) (v := .int .i64 x18.kind) (j := 1) Try.underlying3 rfl (hbor2 _ _ (ix_get (hx17))) (.pl rfl) (hx18) rfl rfl) rfl ?_
  refine WL.q (Y.eql (.pl rfl) (.pl rfl)) rfl ?_
  refine WL.q (Y.assign (.pl rfl)) rfl ?_
  refine WL.next hQ3 (.cons (i := 0) rfl (.cons (i := 1) rfl (.cons (i := 4) rfl (.cons (i := 5) rfl (.nil))))) ?_
  refine W.block ?_
  -- region 3: sites.go:126
  refine W.seqR fun Q4 hQ4 => ?_
  refine WL.q (Y.move (.pl rfl)) rfl ?_
  refine WL.q (Y.nilCheck (.pl rfl)) rfl ?_
  refine WL.q (Y.nField (off := 3) (ft := 4) Try.underlying99 rfl cells4 (i' := 2) rfl (ix_lt (hx17)) (.pl rfl)) rfl ?_
  refine WL.q (Y.loadN (enc := encNSitesProcess) (h0 := ((none, 0) : Hd)) (v := .bool x17.store) (a := (SitesProcess.mk x17.program x17.pending x17.round x17.store x17.replies x17.best x17.value)) (idx := who16) (j := 3) Try.underlying4 rfl lenNSitesProcess (i := 2) rfl (.pl rfl) (ix_get (hx17)) rfl rfl) rfl ?_
  refine WL.q (Y.move (.pl rfl)) rfl ?_
  refine WL.g (.pl rfl rfl rfl) (fun hg => Y.move (.pl rfl)) rfl ?_
  refine WL.q (Y.and (.pl rfl) (fun h2 => .gd (eqt h2) rfl)) rfl ?_
  refine WL.q (Y.assign (.pl rfl)) rfl ?_
  refine WL.next hQ4 (.cons (i := 0) rfl (.cons (i := 1) rfl (.cons (i := 4) rfl (.cons (i := 5) rfl (.cons (i := 31) rfl (.nil)))))) ?_
  refine W.cond (.pl rfl) (fun hC5 => ?_) (fun hC5 => ?_)
  · replace hF := cpos hC5 hF
    -- region 4: sites.go:127
    refine W.reg ?_
    refine WL.q (Y.move (.pl rfl)) rfl ?_
    refine WL.q (Y.move (.pl rfl)) rfl ?_
    obtain ⟨r19, hr19, hF⟩ := bnd hF
    refine WL.step (WO.call (γ := (Option Addr × Nat)) (fun g => .tuple #[]) (fun g => ([cBx b1 95 (Value.bool fast2 :: (Value.slice A3 (sites5).length c4 :: (Value.slice A6 (r19).length c7 :: (Value.slice A10 (letters12).length c11 :: (Value.slice g.1 ((events15 ++ ([(Event.mk who16 0 0 0)] : List Event))).length g.2 :: []))))), cR encSite 4 A3 c4 39 sites5, cN encNSitesProcess (innNSitesProcess w0) 8 A6 c7 99 (hd9.set who16.toNat (((subA (hd9.getD who16.toNat ((none, 0) : Hd)).1 (hd9.getD who16.toNat ((none, 0) : Hd)).2 (1 : Int).toNat 3), ((hd9.getD who16.toNat ((none, 0) : Hd)).2 - (1 : Int).toNat)) : Hd)) r19, cR encSitesLetter 9 A10 c11 172 letters12, cR encEvent 4 g.1 g.2 34 (events15 ++ ([(Event.mk who16 0 0 0)] : List Event))] ++ T)) (fun g => True) isGo122 (.cons (.pl rfl) (.cons (.pl rfl) (.cons (.pl rfl) (.nil)))) rfl (fun wz hw => sites_net_respond_ok (T := ([] ++ T)) (hr19) (hw.pickK 5 [0, 1, 2, 3, 4] rfl) ) ?_)
    rintro ⟨A20, c21⟩ -
    refine WL.nil ?_
    obtain rfl := Option.some.inj hF
    refine W.endV (fn := Try.f88) (vs := []) Try.results88 trivial (fun _ _ h => h) (fun wz hw => ?_)
    exact hR _ _ ⟨((hd9.set who16.toNat (((subA (hd9.getD who16.toNat ((none, 0) : Hd)).1 (hd9.getD who16.toNat ((none, 0) : Hd)).2 (1 : Int).toNat 3), ((hd9.getD who16.toNat ((none, 0) : Hd)).2 - (1 : Int).toNat)) : Hd)), A10, c11, A20, c21), trivial, rfl, (hw.pickK 5 [0, 1, 2, 3, 4] rfl)⟩
  · replace hF := cneg hC5 hF
    -- region 5: sites.go:128
    refine W.seqR fun Q7 hQ7 => ?_
    refine WL.q (Y.move (.pl rfl)) rfl ?_
    refine WL.q (Y.nilCheck (.pl rfl)) rfl ?_
    refine WL.q (Y.nField (off := 3) (ft := 4) Try.underlying99 rfl cells4 (i' := 2) rfl (ix_lt (hx17)) (.pl rfl)) rfl ?_
    refine WL.q (Y.loadN (enc := encNSitesProcess) (h0 := ((none, 0) : Hd)) (v := .bool x17.store) (a := (SitesProcess.mk x17.program x17.pending x17.round x17.store x17.replies x17.best x17.value)) (idx := who16) (j := 3) Try.underlying4 rfl lenNSitesProcess (i := 2) rfl (.pl rfl) (ix_get (hx17)) rfl rfl) rfl ?_
    refine WL.q (Y.move (.pl rfl)) rfl ?_
    refine WL.g (.pl rfl rfl rfl) (fun hg => Y.move (.pl rfl)) rfl ?_
    refine WL.g (.pl rfl rfl rfl) (fun hg => Y.not (.gd (hg) rfl)) rfl ?_
    refine WL.g (.pl rfl rfl rfl) (fun hg => Y.move (.gd (hg) rfl)) rfl ?_
    refine WL.g (.gd rfl rfl rfl) (fun hg => Y.move (.pl rfl)) rfl ?_
    refine WL.g (.gd rfl rfl rfl) (fun hg => Y.nilCheck (.gd (hg) rfl)) rfl ?_
    refine WL.g (.gd rfl rfl rfl) (fun hg => Y.fieldAddr0 (off := 0) (ft := 4) Try.underlying95 rfl cells4 (.gd (hg) rfl)) rfl ?_
    refine WL.g (.gd rfl rfl rfl) (fun hg => Y.loadB (v := .bool fast2) Try.underlying4 rfl (.gd (hg) rfl) (i := 0) rfl (rfl)) rfl ?_
    refine WL.g (.pl rfl rfl rfl) (fun hg => Y.and (.gd (hg) rfl) (fun h2 => .gd (band hg (eqt h2)) rfl)) rfl ?_
    refine WL.q (Y.or (.pl rfl) (fun h2 => .gd (eqf h2) rfl)) rfl ?_
    refine WL.q (Y.assign (.pl rfl)) rfl ?_
    refine WL.next hQ7 (.cons (i := 0) rfl (.cons (i := 1) rfl (.cons (i := 4) rfl (.cons (i := 5) rfl (.cons (i := 42) rfl (.nil)))))) ?_
    refine W.cond (.pl rfl) (fun hC8 => ?_) (fun hC8 => ?_)
    · replace hF := cpos hC8 hF
      -- region 6: sites.go:129
      refine W.reg ?_
      refine WL.q (Y.move (.pl rfl)) rfl ?_
      refine WL.q (Y.move (.pl rfl)) rfl ?_
      refine WL.q (Y.move (.pl rfl)) rfl ?_
      refine WL.q (Y.nilCheck (.pl rfl)) rfl ?_
      refine WL.q (Y.nField (off := 7) (ft := 3) Try.underlying99 rfl cells3 (i' := 2) rfl (ix_lt (hx17)) (.pl rfl)) rfl ?_
      refine WL.q (Y.loadN (enc := encNSitesProcess) (h0 := ((none, 0) : Hd)) (v := .int .i64 x17.value) (a := (SitesProcess.mk x17.program x17.pending x17.round x17.store x17.replies x17.best x17.value)) (idx := who16) (j := 7) Try.underlying3 rfl lenNSitesProcess (i := 2) rfl (.pl rfl) (ix_get (hx17)) rfl rfl) rfl ?_
      obtain ⟨r22, hr22, hF⟩ := bnd hF
      refine WL.step (WO.call (γ := (Option Addr × Nat)) (fun g => .tuple #[]) (fun g => ([cBx b1 95 (Value.bool fast2 :: (Value.slice A3 (sites5).length c4 :: (Value.slice A6 (r22).length c7 :: (Value.slice A10 (letters12).length c11 :: (Value.slice g.1 ((events15 ++ ([(Event.mk who16 0 0 x17.value)] : List Event))).length g.2 :: []))))), cR encSite 4 A3 c4 39 sites5, cN encNSitesProcess (innNSitesProcess w0) 8 A6 c7 99 (hd9.set who16.toNat (((subA (hd9.getD who16.toNat ((none, 0) : Hd)).1 (hd9.getD who16.toNat ((none, 0) : Hd)).2 (1 : Int).toNat 3), ((hd9.getD who16.toNat ((none, 0) : Hd)).2 - (1 : Int).toNat)) : Hd)) r22, cR encSitesLetter 9 A10 c11 172 letters12, cR encEvent 4 g.1 g.2 34 (events15 ++ ([(Event.mk who16 0 0 x17.value)] : List Event))] ++ T)) (fun g => True) isGo122 (.cons (.pl rfl) (.cons (.pl rfl) (.cons (.pl rfl) (.nil)))) rfl (fun wz hw => sites_net_respond_ok (T := ([] ++ T)) (hr22) (hw.pickK 5 [0, 1, 2, 3, 4] rfl) ) ?_)
      rintro ⟨A23, c24⟩ -
      refine WL.nil ?_
      obtain rfl := Option.some.inj hF
      refine W.endV (fn := Try.f88) (vs := []) Try.results88 trivial (fun _ _ h => h) (fun wz hw => ?_)
      exact hR _ _ ⟨((hd9.set who16.toNat (((subA (hd9.getD who16.toNat ((none, 0) : Hd)).1 (hd9.getD who16.toNat ((none, 0) : Hd)).2 (1 : Int).toNat 3), ((hd9.getD who16.toNat ((none, 0) : Hd)).2 - (1 : Int).toNat)) : Hd)), A10, c11, A23, c24), trivial, rfl, (hw.pickK 5 [0, 1, 2, 3, 4] rfl)⟩
    · replace hF := cneg hC8 hF
      -- region 7: sites.go:130
      refine W.seqR fun Q10 hQ10 => ?_
      refine WL.q (Y.move (.pl rfl)) rfl ?_
      refine WL.q (Y.assign (.pl rfl)) rfl ?_
      refine WL.next hQ10 (.cons (i := 0) rfl (.cons (i := 1) rfl (.cons (i := 4) rfl (.cons (i := 64) rfl (.nil))))) ?_
      refine W.cond (.pl rfl) (fun hC11 => ?_) (fun hC11 => ?_)
      · replace hF := cpos hC11 hF
        -- region 8: sites.go:131
        refine W.regT 17 (by kernel_rfl) (by kernel_rfl) ?_
        refine WS.q (Y.move (.pl rfl)) rfl ?_
        refine WS.q (Y.move (.pl rfl)) rfl ?_
        refine WS.q (Y.move (.pl rfl)) rfl ?_
        refine WS.q (Y.nilCheck (.pl rfl)) rfl ?_
        refine WS.q (Y.nField (off := 5) (ft := 97) Try.underlying99 rfl cells97 (i' := 2) rfl (ix_lt (hx17)) (.pl rfl)) rfl ?_
        refine WS.q (Y.nField (off := 0) (ft := 3) Try.underlying97 rfl cells3 (i' := 2) rfl (ix_lt (hx17)) (.pl rfl)) rfl ?_
        refine WS.q (Y.loadN (enc := encNSitesProcess) (h0 := ((none, 0) : Hd)) (v := .int .i64 x17.best.stamp) (a := (SitesProcess.mk x17.program x17.pending x17.round x17.store x17.replies x17.best x17.value)) (idx := who16) (j := 5) Try.underlying3 rfl lenNSitesProcess (i := 2) rfl (.pl rfl) (ix_get (hx17)) rfl rfl) rfl ?_
        obtain ⟨hk25, hF⟩ := ckh hF
        refine WS.q (Y.add (.pl rfl) (.pl rfl) (ok64_lt (hk25))) rfl ?_
        refine WS.q (Y.move (.pl rfl)) rfl ?_
        refine WS.q (Y.build (cs := (encSitesTag (SitesTag.mk (x17.best.stamp + 1) who16)).toArray) shape97 (.cons (.pl rfl) (.cons (.pl rfl) (.nil))) (one_parts ⟨rfl, ⟨rfl, trivial⟩⟩) rfl) rfl ?_
        refine WS.q (Y.move (.pl rfl)) rfl ?_
        refine WS.q (Y.nilCheck (.pl rfl)) rfl ?_
        refine WS.q (Y.nField (off := 0) (ft := 41) Try.underlying99 rfl cells41 (i' := 2) rfl (ix_lt (hx17)) (.pl rfl)) rfl ?_
        refine WS.q (Y.loadN (enc := encNSitesProcess) (h0 := ((none, 0) : Hd)) (v := .slice (hd9.getD who16.toNat ((none, 0) : Hd)).1 (x17.program).length (hd9.getD who16.toNat ((none, 0) : Hd)).2) (a := (SitesProcess.mk x17.program x17.pending x17.round x17.store x17.replies x17.best x17.value)) (idx := who16) (j := 0) Try.underlying41 rfl lenNSitesProcess (i := 2) rfl (.pl rfl) (ix_get (hx17)) rfl rfl) rfl ?_
        refine WS.q (Y.slEl Try.underlying41 cells58 (hbor2 _ _ (ix_get (hx17))) (.pl rfl) (.pl rfl) (ix_lt (hx18))) rfl ?_
        refine WS.q (Y.slField (off := 2) (ft := 3) Try.underlying58 rfl cells3 ((hbor2 _ _ (ix_get (hx17)))) (ix_lt (hx18)) (.pl rfl)) rfl ?_
        refine WS.q (Y.loadS (enc := encAsk) (v := .int .i64 x18.arg) (j := 2) Try.underlying3 rfl (hbor2 _ _ (ix_get (hx17))) (.pl rfl) (hx18) rfl rfl) rfl ?_
        refine WS.tail ?_
        obtain ⟨r26, hr26, hF⟩ := bnd hF
        refine WL.step (WO.call (γ := (Option Addr × Nat)) (fun g => .tuple #[]) (fun g => ([cBx b1 95 (Value.bool fast2 :: (Value.slice A3 (sites5).length c4 :: (Value.slice A6 (r26.1).length c7 :: (Value.slice g.1 (r26.2).length g.2 :: (Value.slice A13 (events15).length c14 :: []))))), cR encSite 4 A3 c4 39 sites5, cN encNSitesProcess (innNSitesProcess w0) 8 A6 c7 99 hd9 r26.1, cR encSitesLetter 9 g.1 g.2 172 r26.2, cR encEvent 4 A13 c14 34 events15] ++ T)) (fun g => True) isGo86 (.cons (.pl rfl) (.cons (.pl rfl) (.cons (.pl rfl) (.cons (.pl rfl) (.cons (.pl rfl) (.nil)))))) rfl (fun wz hw => sites_net_start_ok (T := ([] ++ T)) (hr26) (hw.pickK 5 [0, 1, 2, 3, 4] rfl) ) ?_)
        rintro ⟨A27, c28⟩ -
        refine WL.nil ?_
        obtain rfl := Option.some.inj hF
        refine W.endV (fn := Try.f88) (vs := []) Try.results88 trivial (fun _ _ h => h) (fun wz hw => ?_)
        exact hR _ _ ⟨(hd9, A27, c28, A13, c14), trivial, rfl, (hw.pickK 5 [0, 1, 2, 3, 4] rfl)⟩
      · replace hF := cneg hC11 hF
        -- region 2: sites.go:133
        refine W.regT 10 (by kernel_rfl) (by kernel_rfl) ?_
        refine WS.q (Y.move (.pl rfl)) rfl ?_
        refine WS.q (Y.move (.pl rfl)) rfl ?_
        refine WS.q (Y.move (.pl rfl)) rfl ?_
        refine WS.q (Y.nilCheck (.pl rfl)) rfl ?_
        refine WS.q (Y.nField (off := 5) (ft := 97) Try.underlying99 rfl cells97 (i' := 2) rfl (ix_lt (hx17)) (.pl rfl)) rfl ?_
        refine WS.q (Y.loadNA (enc := encNSitesProcess) (h0 := ((none, 0) : Hd)) (ds := (encSitesTag x17.best)) (a := (SitesProcess.mk x17.program x17.pending x17.round x17.store x17.replies x17.best x17.value)) (idx := who16) (j := 5) Try.underlying97 rfl cells97 lenNSitesProcess (i := 2) rfl (.pl rfl) (ix_get (hx17)) rfl rfl (subM (pre := (Value.slice (hd9.getD who16.toNat ((none, 0) : Hd)).1 (x17.program).length (hd9.getD who16.toNat ((none, 0) : Hd)).2 :: (Value.bool x17.pending :: (Value.int .i64 x17.round :: (Value.bool x17.store :: (Value.int .i64 x17.replies :: [])))))) (o := 5) rfl)) rfl ?_
        refine WS.q (Y.move (.pl rfl)) rfl ?_
        refine WS.q (Y.nilCheck (.pl rfl)) rfl ?_
        refine WS.q (Y.nField (off := 7) (ft := 3) Try.underlying99 rfl cells3 (i' := 2) rfl (ix_lt (hx17)) (.pl rfl)) rfl ?_
        refine WS.q (Y.loadN (enc := encNSitesProcess) (h0 := ((none, 0) : Hd)) (v := .int .i64 x17.value) (a := (SitesProcess.mk x17.program x17.pending x17.round x17.store x17.replies x17.best x17.value)) (idx := who16) (j := 7) Try.underlying3 rfl lenNSitesProcess (i := 2) rfl (.pl rfl) (ix_get (hx17)) rfl rfl) rfl ?_
        refine WS.tail ?_
        obtain ⟨r29, hr29, hF⟩ := bnd hF
        refine WL.step (WO.call (γ := (Option Addr × Nat)) (fun g => .tuple #[]) (fun g => ([cBx b1 95 (Value.bool fast2 :: (Value.slice A3 (sites5).length c4 :: (Value.slice A6 (r29.1).length c7 :: (Value.slice g.1 (r29.2).length g.2 :: (Value.slice A13 (events15).length c14 :: []))))), cR encSite 4 A3 c4 39 sites5, cN encNSitesProcess (innNSitesProcess w0) 8 A6 c7 99 hd9 r29.1, cR encSitesLetter 9 g.1 g.2 172 r29.2, cR encEvent 4 A13 c14 34 events15] ++ T)) (fun g => True) isGo86 (.cons (.pl rfl) (.cons (.pl rfl) (.cons (.pl rfl) (.cons (.pl rfl) (.cons (.pl rfl) (.nil)))))) rfl (fun wz hw => sites_net_start_ok (T := ([] ++ T)) (hr29) (hw.pickK 5 [0, 1, 2, 3, 4] rfl) ) ?_)
        rintro ⟨A30, c31⟩ -
        refine WL.nil ?_
        obtain rfl := Option.some.inj hF
        refine W.endV (fn := Try.f88) (vs := []) Try.results88 trivial (fun _ _ h => h) (fun wz hw => ?_)
        exact hR _ _ ⟨(hd9, A30, c31, A13, c14), trivial, rfl, (hw.pickK 5 [0, 1, 2, 3, 4] rfl)⟩

def sites_net_back (N : Nat) (fast2 : Bool) (sites5 : (List Site)) (people8 : (List SitesProcess)) (letters12 : (List SitesLetter)) (events15 : (List Event)) (i16 : Int) : Option ((List SitesProcess) × (List SitesLetter) × (List Event)) :=
  cond ((decide (i16 < 0)) || (decide (((letters12).length : Int) ≤ i16)))
    (some (people8, letters12, events15))
    (bd (ix letters12 i16) fun (x17 : SitesLetter) =>
    cond ((!x17.delivered) || x17.received)
      (some (people8, letters12, events15))
      (bd (ix people8 x17.who) fun (x18 : SitesProcess) =>
      cond ((!x18.pending) || (!(decide (x17.round = x18.round))))
        (some (people8, (letters12.set i16.toNat (SitesLetter.mk x17.who x17.round x17.site x17.store x17.tag x17.value x17.delivered true)), events15))
        (ck (ok64 (x18.replies + 1)) <|
        bd (α := (List SitesProcess)) (bd ((cond ((!x17.store) == true) (sites_compare N x17.tag x18.best) (some 0))) fun (r21 : Int) =>
          cond ((!x17.store) && (decide (0 < r21)))
            (some (((people8.set x17.who.toNat (SitesProcess.mk x18.program x18.pending x18.round x18.store (x18.replies + 1) x18.best x18.value)).set x17.who.toNat (SitesProcess.mk x18.program x18.pending x18.round x18.store (x18.replies + 1) x17.tag x18.value)).set x17.who.toNat (SitesProcess.mk x18.program x18.pending x18.round x18.store (x18.replies + 1) x17.tag x17.value)))
            (some (people8.set x17.who.toNat (SitesProcess.mk x18.program x18.pending x18.round x18.store (x18.replies + 1) x18.best x18.value)))) <|
        fun (people20 : (List SitesProcess)) => 
          bd (ix people20 x17.who) fun (x22 : SitesProcess) =>
          ck (ok64 (2 * x22.replies)) <|
          cond (decide (((sites5).length : Int) < (2 * x22.replies)))
            (bd (ix (letters12.set i16.toNat (SitesLetter.mk x17.who x17.round x17.site x17.store x17.tag x17.value x17.delivered true)) i16) fun (x24 : SitesLetter) =>
            bd (sites_net_next N fast2 sites5 people20 (letters12.set i16.toNat (SitesLetter.mk x17.who x17.round x17.site x17.store x17.tag x17.value x17.delivered true)) events15 x24.who) fun (r25 : ((List SitesProcess) × (List SitesLetter) × (List Event))) =>
            some (r25.1, r25.2.1, r25.2.2))
            (some (people20, (letters12.set i16.toNat (SitesLetter.mk x17.who x17.round x17.site x17.store x17.tag x17.value x17.delivered true)), events15)))))

theorem sites_net_back_ok {N : Nat} {fast2 : Bool} {sites5 : (List Site)} {people8 : (List SitesProcess)} {letters12 : (List SitesLetter)} {events15 : (List Event)} {i16 : Int} {b1 : Nat} {A3 : Option Addr} {c4 : Nat} {A6 : Option Addr} {c7 : Nat} {hd9 : List Hd} {A10 : Option Addr} {c11 : Nat} {A13 : Option Addr} {c14 : Nat} {res : ((List SitesProcess) × (List SitesLetter) × (List Event))} (hF : sites_net_back N fast2 sites5 people8 letters12 events15 i16 = some res) {w0 w : World} {T : List Chunk} (hw : St w0.heap.size w0 ([cBx b1 95 (Value.bool fast2 :: (Value.slice A3 (sites5).length c4 :: (Value.slice A6 (people8).length c7 :: (Value.slice A10 (letters12).length c11 :: (Value.slice A13 (events15).length c14 :: []))))), cR encSite 4 A3 c4 39 sites5, cN encNSitesProcess (innNSitesProcess w0) 8 A6 c7 99 hd9 people8, cR encSitesLetter 9 A10 c11 172 letters12, cR encEvent 4 A13 c14 34 events15] ++ T) w) :
    Calls Try.prog 54 (List.toArray [.pointer (some ⟨b1, 0, none⟩), .int .i64 i16]) w (fun e w' => ∃ g : (List Hd × Option Addr × Nat × Option Addr × Nat), (True) ∧ e = .returned (.tuple #[]) ∧ St w0.heap.size w0 ([cBx b1 95 (Value.bool fast2 :: (Value.slice A3 (sites5).length c4 :: (Value.slice A6 (res.1).length c7 :: (Value.slice g.2.1 (res.2.1).length g.2.2.1 :: (Value.slice g.2.2.2.1 (res.2.2).length g.2.2.2.2 :: []))))), cR encSite 4 A3 c4 39 sites5, cN encNSitesProcess (innNSitesProcess w0) 8 A6 c7 99 g.1 res.1, cR encSitesLetter 9 g.2.1 g.2.2.1 172 res.2.1, cR encEvent 4 g.2.2.2.1 g.2.2.2.2 34 res.2.2] ++ T) w') := by
  refine W.enter (n := 117) Try.func54 rfl rfl Sub.refl (by simp) hw fun R hR => ?_
  unfold sites_net_back at hF
  refine W.seq fun K1 hK1 => ?_
  -- region 0: sites.go:91
  refine W.know (fun wz hwz => bor_of (h0 := ((none, 0) : Hd)) (q := fun h a => SlIn encAsk 3 w0 (.slice h.1 a.program.length h.2) a.program) hwz (i := 2) rfl (fun _ _ => .head _)) (fun hbor3 => ?_)
  refine W.seqR fun Q2 hQ2 => ?_
  refine WL.q (Y.move (.pl rfl)) rfl ?_
  refine WL.q (Y.lss (.pl rfl) (.pl rfl)) rfl ?_
  refine WL.q (Y.move (.pl rfl)) rfl ?_
  refine WL.g (.pl rfl rfl rfl) (fun hg => Y.move (.pl rfl)) rfl ?_
  refine WL.g (.pl rfl rfl rfl) (fun hg => Y.move (.pl rfl)) rfl ?_
  refine WL.g (.pl rfl rfl rfl) (fun hg => Y.nilCheck (.gd (hg) rfl)) rfl ?_
  refine WL.g (.pl rfl rfl rfl) (fun hg => Y.fieldAddr0 (off := 3) (ft := 93) Try.underlying95 rfl cells93 (.gd (hg) rfl)) rfl ?_
  refine WL.g (.pl rfl rfl rfl) (fun hg => Y.loadB (v := .slice A10 (letters12).length c11) Try.underlying93 rfl (.gd (hg) rfl) (i := 0) rfl (rfl)) rfl ?_
  refine WL.g (.pl rfl rfl rfl) (fun hg => Y.len Try.underlying93 (.gd (hg) rfl)) rfl ?_
  refine WL.g (.pl rfl rfl rfl) (fun hg => Y.geq (.gd (hg) rfl) (.gd (hg) rfl)) rfl ?_
  refine WL.q (Y.or (.pl rfl) (fun h2 => .gd (eqf h2) rfl)) rfl ?_
  refine WL.next hQ2 (.cons (i := 0) rfl (.cons (i := 1) rfl (.cons (i := 16) rfl (.nil)))) ?_
  refine W.cond (.pl rfl) (fun hC4 => ?_) (fun hC4 => ?_)
  · replace hF := cpos hC4 hF
    obtain rfl := Option.some.inj hF
    refine W.retV (fn := Try.f54) (vs := []) Try.results54 trivial (fun _ _ h => h) (fun wz hw => ?_)
    exact hR _ _ ⟨(hd9, A10, c11, A13, c14), trivial, rfl, (hw.pickK 5 [0, 1, 2, 3, 4] rfl)⟩
  · replace hF := cneg hC4 hF
    refine W.skip ?_
    refine W.go hK1 (.cons (i := 0) rfl (.cons (i := 1) rfl (.nil))) ?_
    -- region 1: sites.go:94
    refine W.seqR fun Q5 hQ5 => ?_
    refine WL.q (Y.move (.pl rfl)) rfl ?_
    refine WL.q (Y.nilCheck (.pl rfl)) rfl ?_
    refine WL.q (Y.fieldAddr0 (off := 3) (ft := 93) Try.underlying95 rfl cells93 (.pl rfl)) rfl ?_
    refine WL.q (Y.loadB (v := .slice A10 (letters12).length c11) Try.underlying93 rfl (.pl rfl) (i := 0) rfl (rfl)) rfl ?_
    refine WL.q (Y.move (.pl rfl)) rfl ?_
    obtain ⟨x17, hx17, hF⟩ := bnd hF
    refine WL.q (Y.rowEl Try.underlying93 cells172 (i := 3) rfl (.pl rfl) rfl (.pl rfl) (ix_lt (hx17))) rfl ?_
    refine WL.q (Y.assign (.pl rfl)) rfl ?_
    refine WL.next hQ5 (.cons (i := 0) rfl (.cons (i := 4) rfl (.nil))) ?_
    refine W.seq fun K6 hK6 => ?_
    -- region 2: sites.go:95
    refine W.seqR fun Q7 hQ7 => ?_
    refine WL.q (Y.move (.pl rfl)) rfl ?_
    refine WL.q (Y.nilCheck (.pl rfl)) rfl ?_
    refine WL.q (Y.rowField (off := 7) (ft := 4) Try.underlying172 rfl cells4 (i' := 3) rfl (ix_lt (hx17)) (.pl rfl)) rfl ?_
    refine WL.q (Y.loadR (enc := encSitesLetter) (v := .bool x17.delivered) (a := x17) (idx := i16) (j := 7) Try.underlying4 rfl lenSitesLetter (i := 3) rfl (.pl rfl) (ix_get (hx17)) rfl rfl) rfl ?_
    refine WL.q (Y.not (.pl rfl)) rfl ?_
    refine WL.q (Y.move (.pl rfl)) rfl ?_
    refine WL.g (.pl rfl rfl rfl) (fun hg => Y.move (.pl rfl)) rfl ?_
    refine WL.g (.pl rfl rfl rfl) (fun hg => Y.nilCheck (.gd (hg) rfl)) rfl ?_
    refine WL.g (.pl rfl rfl rfl) (fun hg => Y.rowField (off := 8) (ft := 4) Try.underlying172 rfl cells4 (i' := 3) rfl (ix_lt (hx17)) (.gd (hg) rfl)) rfl ?_
    refine WL.g (.pl rfl rfl rfl) (fun hg => Y.loadR (enc := encSitesLetter) (v := .bool x17.received) (a := x17) (idx := i16) (j := 8) Try.underlying4 rfl lenSitesLetter (i := 3) rfl (.gd (hg) rfl) (ix_get (hx17)) rfl rfl) rfl ?_
    refine WL.q (Y.or (.pl rfl) (fun h2 => .gd (eqf h2) rfl)) rfl ?_
    refine WL.next hQ7 (.cons (i := 0) rfl (.cons (i := 4) rfl (.cons (i := 33) rfl (.nil)))) ?_
    refine W.cond (.pl rfl) (fun hC8 => ?_) (fun hC8 => ?_)
    · replace hF := cpos hC8 hF
      obtain rfl := Option.some.inj hF
      refine W.retV (fn := Try.f54) (vs := []) Try.results54 trivial (fun _ _ h => h) (fun wz hw => ?_)
      exact hR _ _ ⟨(hd9, A10, c11, A13, c14), trivial, rfl, (hw.pickK 5 [0, 1, 2, 3, 4] rfl)⟩
    · replace hF := cneg hC8 hF
      refine W.skip ?_
      refine W.go hK6 (.cons (i := 0) rfl (.cons (i := 4) rfl (.nil))) ?_
      -- region 3: sites.go:98
      refine W.seqR fun Q9 hQ9 => ?_
      refine WL.q (Y.move (.pl rfl)) rfl ?_
      refine WL.q (Y.nilCheck (.pl rfl)) rfl ?_
      refine WL.q (Y.rowField (off := 8) (ft := 4) Try.underlying172 rfl cells4 (i' := 3) rfl (ix_lt (hx17)) (.pl rfl)) rfl ?_
      refine WL.step (WO.storeS (enc := encSitesLetter) (a := x17) (a' := (SitesLetter.mk x17.who x17.round x17.site x17.store x17.tag x17.value x17.delivered true)) (idx := i16) (j := 8) cells4 (.pl rfl) (.pl rfl) rfl lenSitesLetter (i := 3) rfl (ix_get (hx17)) rfl (by decide) rfl ?_)
      refine WL.next hQ9 (.cons (i := 0) rfl (.cons (i := 4) rfl (.nil))) ?_
      -- region 4: sites.go:99
      refine W.seqD (by kernel_rfl) (by kernel_rfl) fun R10 hR10 => ?_
      refine WD.q (Y.move (.pl rfl)) rfl ?_
      refine WD.q (Y.nilCheck (.pl rfl)) rfl ?_
      refine WD.q (Y.fieldAddr0 (off := 2) (ft := 92) Try.underlying95 rfl cells92 (.pl rfl)) rfl ?_
      refine WD.q (Y.loadB (v := .slice A6 (people8).length c7) Try.underlying92 rfl (.pl rfl) (i := 0) rfl (rfl)) rfl ?_
      refine WD.q (Y.move (.pl rfl)) rfl ?_
      refine WD.q (Y.nilCheck (.pl rfl)) rfl ?_
      refine WD.q (Y.rowField (off := 0) (ft := 3) Try.underlying172 rfl cells3 (i' := 3) rfl (⟨(ix_lt (hx17)).1, by simpa only [List.length_set] using (ix_lt (hx17)).2⟩) (.pl rfl)) rfl ?_
      refine WD.q (Y.loadR (enc := encSitesLetter) (v := .int .i64 x17.who) (a := (SitesLetter.mk x17.who x17.round x17.site x17.store x17.tag x17.value x17.delivered true)) (idx := i16) (j := 0) Try.underlying3 rfl lenSitesLetter (i := 3) rfl (.pl rfl) (setget (ix_lt (hx17))) rfl rfl) rfl ?_
      obtain ⟨x18, hx18, hF⟩ := bnd hF
      refine WD.q (Y.nEl Try.underlying92 cells99 (i := 2) rfl (.pl rfl) rfl (.pl rfl) (ix_lt (hx18))) rfl ?_
      refine WD.q (Y.assign (.pl rfl)) rfl ?_
      refine WD.next hR10 (.cons (i := 0) rfl (.cons (i := 4) rfl (.cons (i := 5) rfl (.nil)))) ?_
      refine W.seq fun K11 hK11 => ?_
      -- region 5: sites.go:100
      refine W.seqD (by kernel_rfl) (by kernel_rfl) fun R12 hR12 => ?_
      refine WD.q (Y.move (.pl rfl)) rfl ?_
      refine WD.q (Y.nilCheck (.pl rfl)) rfl ?_
      refine WD.q (Y.nField (off := 1) (ft := 4) Try.underlying99 rfl cells4 (i' := 2) rfl (ix_lt (hx18)) (.pl rfl)) rfl ?_
      refine WD.q (Y.loadN (enc := encNSitesProcess) (h0 := ((none, 0) : Hd)) (v := .bool x18.pending) (a := (SitesProcess.mk x18.program x18.pending x18.round x18.store x18.replies x18.best x18.value)) (idx := x17.who) (j := 1) Try.underlying4 rfl lenNSitesProcess (i := 2) rfl (.pl rfl) (ix_get (hx18)) rfl rfl) rfl ?_
      refine WD.q (Y.not (.pl rfl)) rfl ?_
      refine WD.q (Y.move (.pl rfl)) rfl ?_
      refine WD.g (.pl rfl rfl rfl) (fun hg => Y.move (.pl rfl)) rfl ?_
      refine WD.g (.pl rfl rfl rfl) (fun hg => Y.nilCheck (.gd (hg) rfl)) rfl ?_
      refine WD.g (.pl rfl rfl rfl) (fun hg => Y.rowField (off := 1) (ft := 3) Try.underlying172 rfl cells3 (i' := 3) rfl (⟨(ix_lt (hx17)).1, by simpa only [List.length_set] using (ix_lt (hx17)).2⟩) (.gd (hg) rfl)) rfl ?_
      refine WD.g (.pl rfl rfl rfl) (fun hg => Y.loadR (enc := encSitesLetter) (v := .int .i64 x17.round) (a := (SitesLetter.mk x17.who x17.round x17.site x17.store x17.tag x17.value x17.delivered true)) (idx := i16) (j := 1) Try.underlying3 rfl lenSitesLetter (i := 3) rfl (.gd (hg) rfl) (setget (ix_lt (hx17))) rfl rfl) rfl ?_
      refine WD.g (.pl rfl rfl rfl) (fun hg => Y.move (.pl rfl)) rfl ?_
      refine WD.g (.pl rfl rfl rfl) (fun hg => Y.nilCheck (.gd (hg) rfl)) rfl ?_
      refine WD.g (.pl rfl rfl rfl) (fun hg => Y.nField (off := 2) (ft := 3) Try.underlying99 rfl cells3 (i' := 2) rfl (ix_lt (hx18)) (.gd (hg) rfl)) rfl ?_
      refine WD.g (.pl rfl rfl rfl) (fun hg => Y.loadN (enc := encNSitesProcess) (h0 := ((none, 0) : Hd)) (v := .int .i64 x18.round) (a := (SitesProcess.mk x18.program x18.pending x18.round x18.store x18.replies x18.best x18.value)) (idx := x17.who) (j := 2) Try.underlying3 rfl lenNSitesProcess (i := 2) rfl (.gd (hg) rfl) (ix_get (hx18)) rfl rfl) rfl ?_
      refine WD.g (.pl rfl rfl rfl) (fun hg => Y.neq (.gd (hg) rfl) (.gd (hg) rfl)) rfl ?_
      refine WD.q (Y.or (.pl rfl) (fun h2 => .gd (eqf h2) rfl)) rfl ?_
      refine WD.next hR12 (.cons (i := 0) rfl (.cons (i := 4) rfl (.cons (i := 5) rfl (.cons (i := 61) rfl (.nil))))) ?_
      refine W.cond (.pl rfl) (fun hC13 => ?_) (fun hC13 => ?_)
      · replace hF := cpos hC13 hF
        obtain rfl := Option.some.inj hF
        refine W.retV (fn := Try.f54) (vs := []) Try.results54 trivial (fun _ _ h => h) (fun wz hw => ?_)
        exact hR _ _ ⟨(hd9, A10, c11, A13, c14), trivial, rfl, (St.cong (L := ([cBx b1 95 (Value.bool fast2 :: (Value.slice A3 (sites5).length c4 :: (Value.slice A6 (people8).length c7 :: (Value.slice A10 (letters12).length c11 :: (Value.slice A13 (events15).length c14 :: []))))), cR encSite 4 A3 c4 39 sites5, cN encNSitesProcess (innNSitesProcess w0) 8 A6 c7 99 hd9 people8, cR encSitesLetter 9 A10 c11 172 (letters12.set i16.toNat (SitesLetter.mk x17.who x17.round x17.site x17.store x17.tag x17.value x17.delivered true)), cR encEvent 4 A13 c14 34 events15] ++ T)) (hw.pickK 5 [0, 1, 2, 3, 4] rfl) (by simp only [List.length_set, List.nil_append, List.cons_append]))⟩
      · replace hF := cneg hC13 hF
        refine W.skip ?_
        refine W.go hK11 (.cons (i := 0) rfl (.cons (i := 4) rfl (.cons (i := 5) rfl (.nil)))) ?_
        -- region 6: sites.go:103
        refine W.seqR fun Q14 hQ14 => ?_
        refine WL.q (Y.move (.pl rfl)) rfl ?_
        refine WL.q (Y.nilCheck (.pl rfl)) rfl ?_
        refine WL.q (Y.nField (off := 4) (ft := 3) Try.underlying99 rfl cells3 (i' := 2) rfl (ix_lt (hx18)) (.pl rfl)) rfl ?_
        refine WL.q (Y.loadN (enc := encNSitesProcess) (h0 := ((none, 0) : Hd)) (v := .int .i64 x18.replies) (a := (SitesProcess.mk x18.program x18.pending x18.round x18.store x18.replies x18.best x18.value)) (idx := x17.who) (j := 4) Try.underlying3 rfl lenNSitesProcess (i := 2) rfl (.pl rfl) (ix_get (hx18)) rfl rfl) rfl ?_
        obtain ⟨hk19, hF⟩ := ckh hF
        refine WL.q (Y.add (.pl rfl) (.pl rfl) (ok64_lt (hk19))) rfl ?_
        refine WL.q (Y.nilCheck (.pl rfl)) rfl ?_
        refine WL.q (Y.nField (off := 4) (ft := 3) Try.underlying99 rfl cells3 (i' := 2) rfl (ix_lt (hx18)) (.pl rfl)) rfl ?_
        refine WL.step (WO.storeN0 (enc := encNSitesProcess) (inn := (innNSitesProcess w0)) (h0 := ((none, 0) : Hd)) (a := (SitesProcess.mk x18.program x18.pending x18.round x18.store x18.replies x18.best x18.value)) (a' := (SitesProcess.mk x18.program x18.pending x18.round x18.store (x18.replies + 1) x18.best x18.value)) (idx := x17.who) (j := 4) cells3 (.pl rfl) (.pl rfl) rfl lenNSitesProcess (i := 2) rfl (ix_get (hx18)) rfl (by decide) rfl rfl ?_)
        refine WL.next hQ14 (.cons (i := 0) rfl (.cons (i := 4) rfl (.cons (i := 5) rfl (.nil)))) ?_
        obtain ⟨o15, hF15, hF⟩ := bnd hF
        refine W.join1 (Em := fun (people20 : (List SitesProcess)) => []) (M := fun people20 => ([cBx b1 95 (Value.bool fast2 :: (Value.slice A3 (sites5).length c4 :: (Value.slice A6 (people20).length c7 :: (Value.slice A10 ((letters12.set i16.toNat (SitesLetter.mk x17.who x17.round x17.site x17.store x17.tag x17.value x17.delivered true))).length c11 :: (Value.slice A13 (events15).length c14 :: []))))), cR encSite 4 A3 c4 39 sites5, cN encNSitesProcess (innNSitesProcess w0) 8 A6 c7 99 hd9 people20, cR encSitesLetter 9 A10 c11 172 (letters12.set i16.toNat (SitesLetter.mk x17.who x17.round x17.site x17.store x17.tag x17.value x17.delivered true)), cR encEvent 4 A13 c14 34 events15] ++ T)) (I := fun people20 => people20 = o15) (.cons (i := 0) rfl (.cons (i := 4) rfl (.cons (i := 5) rfl (.nil)))) (fun K16 hK16 => ?_) ?_
        · -- up to
          -- region 7: sites.go:104
          refine W.know (fun wz hwz => bor_of (h0 := ((none, 0) : Hd)) (q := fun h a => SlIn encAsk 3 w0 (.slice h.1 a.program.length h.2) a.program) hwz (i := 0) rfl (fun _ _ => .head _)) (fun hbor18 => ?_)
          refine W.seqD (by kernel_rfl) (by kernel_rfl) fun R17 hR17 => ?_
          refine WD.q (Y.move (.pl rfl)) rfl ?_
          refine WD.q (Y.nilCheck (.pl rfl)) rfl ?_
          refine WD.q (Y.rowField (off := 3) (ft := 4) Try.underlying172 rfl cells4 (i' := 3) rfl (⟨(ix_lt (hx17)).1, by simpa only [List.length_set] using (ix_lt (hx17)).2⟩) (.pl rfl)) rfl ?_
          refine WD.q (Y.loadR (enc := encSitesLetter) (v := .bool x17.store) (a := (SitesLetter.mk x17.who x17.round x17.site x17.store x17.tag x17.value x17.delivered true)) (idx := i16) (j := 3) Try.underlying4 rfl lenSitesLetter (i := 3) rfl (.pl rfl) (setget (ix_lt (hx17))) rfl rfl) rfl ?_
          refine WD.q (Y.not (.pl rfl)) rfl ?_
          refine WD.q (Y.move (.pl rfl)) rfl ?_
          refine WD.g (.pl rfl rfl rfl) (fun hg => Y.move (.pl rfl)) rfl ?_
          refine WD.g (.pl rfl rfl rfl) (fun hg => Y.nilCheck (.gd (hg) rfl)) rfl ?_
          refine WD.g (.pl rfl rfl rfl) (fun hg => Y.rowField (off := 4) (ft := 97) Try.underlying172 rfl cells97 (i' := 3) rfl (⟨(ix_lt (hx17)).1, by simpa only [List.length_set] using (ix_lt (hx17)).2⟩) (.gd (hg) rfl)) rfl ?_
          refine WD.g (.pl rfl rfl rfl) (fun hg => Y.loadRA (enc := encSitesLetter) (ds := (encSitesTag x17.tag)) (a := (SitesLetter.mk x17.who x17.round x17.site x17.store x17.tag x17.value x17.delivered true)) (idx := i16) (j := 4) Try.underlying97 rfl cells97 lenSitesLetter (i := 3) rfl (.gd (hg) rfl) (setget (ix_lt (hx17))) rfl rfl (subM (pre := (Value.int .i64 x17.who :: (Value.int .i64 x17.round :: (Value.int .i64 x17.site :: (Value.bool x17.store :: []))))) (o := 4) rfl)) rfl ?_
          refine WD.g (.pl rfl rfl rfl) (fun hg => Y.move (.pl rfl)) rfl ?_
          refine WD.g (.pl rfl rfl rfl) (fun hg => Y.nilCheck (.gd (hg) rfl)) rfl ?_
          refine WD.g (.pl rfl rfl rfl) (fun hg => Y.nField (off := 5) (ft := 97) Try.underlying99 rfl cells97 (i' := 0) rfl (⟨(ix_lt (hx18)).1, by simpa only [List.length_set] using (ix_lt (hx18)).2⟩) (.gd (hg) rfl)) rfl ?_
          refine WD.g (.pl rfl rfl rfl) (fun hg => Y.loadNA (enc := encNSitesProcess) (h0 := ((none, 0) : Hd)) (ds := (encSitesTag x18.best)) (a := (SitesProcess.mk x18.program x18.pending x18.round x18.store (x18.replies + 1) x18.best x18.value)) (idx := x17.who) (j := 5) Try.underlying97 rfl cells97 lenNSitesProcess (i := 0) rfl (.gd (hg) rfl) (setget (ix_lt (hx18))) rfl rfl (subM (pre := (Value.slice (hd9.getD x17.who.toNat ((none, 0) : Hd)).1 (x18.program).length (hd9.getD x17.who.toNat ((none, 0) : Hd)).2 :: (Value.bool x18.pending :: (Value.int .i64 x18.round :: (Value.bool x18.store :: (Value.int .i64 (x18.replies + 1) :: [])))))) (o := 5) rfl)) rfl ?_
          obtain ⟨r21, hr21, hF15⟩ := bnd hF15
          refine WD.gP (.pl rfl rfl rfl) isGo87 (fun hg => (.cons (.gd (hg) rfl) (.cons (.gd (hg) rfl) (.nil)))) rfl (fun hg wz hw => sites_compare_ok (gpos hg hr21) wz ) ?_
          refine WD.g (.pl rfl rfl rfl) (fun hg => Y.gtr (.gd (hg) rfl) (.pl rfl)) rfl ?_
          refine WD.q (Y.and (.pl rfl) (fun h2 => .gd (eqt h2) rfl)) rfl ?_
          refine WD.next hR17 (.cons (i := 0) rfl (.cons (i := 4) rfl (.cons (i := 5) rfl (.cons (i := 85) rfl (.nil))))) ?_
          refine W.cond (.pl rfl) (fun hC19 => ?_) (fun hC19 => ?_)
          · replace hF15 := cpos hC19 hF15
            -- region 8: sites.go:105
            refine W.know (fun wz hw => n_okA0 hw (i := 0) rfl) (fun hok21 => ?_)
            refine W.know (fun wz hw => (hw.row_lim (i := 3) rfl).2.2) (fun hok22 => ?_)
            refine W.regX 12 (by kernel_rfl) ?_
            refine WX.pure 0 #[true, false, false, false, false, false, false, false, false, false, false, false, false, false, false, false] rfl (by kernel_rfl) (fun _ _ => Y.move (.pl rfl)) rfl ?_
            refine WX.pure 1 #[true, true, false, false, false, false, false, false, false, false, false, false, false, false, false, false] rfl (by kernel_rfl) (fun _ _ => Y.move (.pl rfl)) rfl ?_
            refine WX.pure 2 #[true, true, true, false, false, false, false, false, false, false, false, false, false, false, false, false] rfl (by kernel_rfl) (fun _ _ => Y.move (.pl rfl)) rfl ?_
            refine WX.pure 3 #[true, true, true, true, false, false, false, false, false, false, false, false, false, false, false, false] rfl (by kernel_rfl) (fun _ _ => Y.nilCheck (.pl rfl)) rfl ?_
            refine WX.take 4 #[true, true, true, true, true, false, false, false, false, false, false, false, false, false, false, false] (fun wz hw => St.tail [] hw) rfl (by kernel_rfl) (Y.okField (off := 4) (ft := 97) Try.underlying172 rfl cells97 hok22 (by have := (ix_lt (hx17)); have e1 : (letters12).length = ((letters12.set i16.toNat (SitesLetter.mk x17.who x17.round x17.site x17.store x17.tag x17.value x17.delivered true))).length := (by simp only [List.length_set]); omega) (.pl rfl)) rfl ?_
            refine WX.take 5 #[true, true, true, true, true, true, false, false, false, false, false, false, false, false, false, false] (fun wz hw => St.tail [] hw) rfl (by kernel_rfl) (Y.loadRA (enc := encSitesLetter) (ds := (encSitesTag x17.tag)) (a := (SitesLetter.mk x17.who x17.round x17.site x17.store x17.tag x17.value x17.delivered true)) (idx := i16) (j := 4) Try.underlying97 rfl cells97 lenSitesLetter (i := 3) rfl (.pl rfl) (setget (ix_lt (hx17))) rfl rfl (subM (pre := (Value.int .i64 x17.who :: (Value.int .i64 x17.round :: (Value.int .i64 x17.site :: (Value.bool x17.store :: []))))) (o := 4) rfl)) rfl ?_
            refine WX.pure 6 #[true, true, true, true, true, true, true, false, false, false, false, false, false, false, false, false] rfl (by kernel_rfl) (fun _ _ => Y.move (.pl rfl)) rfl ?_
            refine WX.pure 7 #[true, true, true, true, true, true, true, true, false, false, false, false, false, false, false, false] rfl (by kernel_rfl) (fun _ _ => Y.nilCheck (.pl rfl)) rfl ?_
            refine WX.take 8 #[true, true, true, true, true, true, true, true, true, false, false, false, false, false, false, false] (fun wz hw => St.tail [] hw) rfl (by kernel_rfl) (Y.okField (off := 6) (ft := 3) Try.underlying172 rfl cells3 hok22 (by have := (ix_lt (hx17)); have e1 : (letters12).length = ((letters12.set i16.toNat (SitesLetter.mk x17.who x17.round x17.site x17.store x17.tag x17.value x17.delivered true))).length := (by simp only [List.length_set]); omega) (.pl rfl)) rfl ?_
            refine WX.take 9 #[true, true, true, true, true, true, true, true, true, true, false, false, false, false, false, false] (fun wz hw => St.tail [] hw) rfl (by kernel_rfl) (Y.loadR (enc := encSitesLetter) (v := .int .i64 x17.value) (a := (SitesLetter.mk x17.who x17.round x17.site x17.store x17.tag x17.value x17.delivered true)) (idx := i16) (j := 6) Try.underlying3 rfl lenSitesLetter (i := 3) rfl (.pl rfl) (setget (ix_lt (hx17))) rfl rfl) rfl ?_
            refine WX.pure 10 #[true, true, true, true, true, true, true, true, true, true, true, false, false, false, false, false] rfl (by kernel_rfl) (fun _ _ => Y.nilCheck (.pl rfl)) rfl ?_
            refine WX.take 11 #[true, true, true, true, true, true, true, true, true, true, true, true, false, false, false, false] (fun wz hw => St.tail [] hw) rfl (by kernel_rfl) (Y.okField (off := 5) (ft := 97) Try.underlying99 rfl cells97 hok21 (by have := (ix_lt (hx18)); have e1 : (people8).length = ((people8.set x17.who.toNat (SitesProcess.mk x18.program x18.pending x18.round x18.store (x18.replies + 1) x18.best x18.value))).length := (by simp only [List.length_set]); omega) (.pl rfl)) rfl ?_
            refine WX.stop #[true, true, true, true, true, true, true, true, true, true, true, true, true, false, false, false] (fun wz hw => St.tail [] hw) rfl (by kernel_rfl) (WO.storeNA0 (enc := encNSitesProcess) (inn := (innNSitesProcess w0)) (h0 := ((none, 0) : Hd)) (ds := (encSitesTag x17.tag)) (a := (SitesProcess.mk x18.program x18.pending x18.round x18.store (x18.replies + 1) x18.best x18.value)) (a' := (SitesProcess.mk x18.program x18.pending x18.round x18.store (x18.replies + 1) x17.tag x18.value)) (idx := x17.who) (j := 5) cells97 (.pl rfl) (.pl rfl) rfl (oneSitesTag _) lenNSitesProcess (i := 0) rfl (setget (ix_lt (hx18))) rfl (by decide) rfl rfl ?_)
            refine WA.take 13 #[true, true, true, true, true, true, true, true, true, true, true, true, true, true, false, false] rfl (by kernel_rfl) (fun _ _ => Y.nilCheck (.pl rfl)) rfl ?_
            refine WA.take 14 #[true, true, true, true, true, true, true, true, true, true, true, true, true, true, true, false] rfl (by kernel_rfl) (fun _ _ => Y.okField (off := 7) (ft := 3) Try.underlying99 rfl cells3 hok21 (by have := (ix_lt (hx18)); have e1 : (people8).length = ((people8.set x17.who.toNat (SitesProcess.mk x18.program x18.pending x18.round x18.store (x18.replies + 1) x18.best x18.value))).length := (by simp only [List.length_set]); omega) (.pl rfl)) rfl ?_
            refine WA.branch [15] (by kernel_rfl) ⟨?_, trivial⟩
            refine WI.step #[true, true, true, true, true, true, true, true, true, true, true, true, true, true, true, true] rfl rfl (WO.storeN0 (enc := encNSitesProcess) (inn := (innNSitesProcess w0)) (h0 := ((none, 0) : Hd)) (a := (SitesProcess.mk x18.program x18.pending x18.round x18.store (x18.replies + 1) x17.tag x18.value)) (a' := (SitesProcess.mk x18.program x18.pending x18.round x18.store (x18.replies + 1) x17.tag x17.value)) (idx := x17.who) (j := 7) cells3 (.pl rfl) (.pl rfl) rfl lenNSitesProcess (i := 0) rfl (setget (⟨(ix_lt (hx18)).1, by simpa only [List.length_set] using (ix_lt (hx18)).2⟩)) rfl (by decide) rfl rfl ?_)
            refine WA.done (by kernel_rfl) ?_
            exact W.joinAt1 hK16 (((people8.set x17.who.toNat (SitesProcess.mk x18.program x18.pending x18.round x18.store (x18.replies + 1) x18.best x18.value)).set x17.who.toNat (SitesProcess.mk x18.program x18.pending x18.round x18.store (x18.replies + 1) x17.tag x18.value)).set x17.who.toNat (SitesProcess.mk x18.program x18.pending x18.round x18.store (x18.replies + 1) x17.tag x17.value)) (Option.some.inj hF15) (.nil) (.cons (i := 0) rfl (.cons (i := 4) rfl (.cons (i := 5) rfl (.nil)))) (fun wz hw => St.cong (L := ([cBx b1 95 (Value.bool fast2 :: (Value.slice A3 (sites5).length c4 :: (Value.slice A6 (people8).length c7 :: (Value.slice A10 (letters12).length c11 :: (Value.slice A13 (events15).length c14 :: []))))), cR encSite 4 A3 c4 39 sites5, cN encNSitesProcess (innNSitesProcess w0) 8 A6 c7 99 hd9 (((people8.set x17.who.toNat (SitesProcess.mk x18.program x18.pending x18.round x18.store (x18.replies + 1) x18.best x18.value)).set x17.who.toNat (SitesProcess.mk x18.program x18.pending x18.round x18.store (x18.replies + 1) x17.tag x18.value)).set x17.who.toNat (SitesProcess.mk x18.program x18.pending x18.round x18.store (x18.replies + 1) x17.tag x17.value)), cR encSitesLetter 9 A10 c11 172 (letters12.set i16.toNat (SitesLetter.mk x17.who x17.round x17.site x17.store x17.tag x17.value x17.delivered true)), cR encEvent 4 A13 c14 34 events15] ++ T)) (hw.pickK 5 [1, 2, 0, 3, 4] rfl) (by simp only [List.length_set, List.nil_append, List.cons_append]))
          · replace hF15 := cneg hC19 hF15
            refine W.skip ?_
            exact W.joinAt1 hK16 (people8.set x17.who.toNat (SitesProcess.mk x18.program x18.pending x18.round x18.store (x18.replies + 1) x18.best x18.value)) (Option.some.inj hF15) (.nil) (.cons (i := 0) rfl (.cons (i := 4) rfl (.cons (i := 5) rfl (.nil)))) (fun wz hw => St.cong (L := ([cBx b1 95 (Value.bool fast2 :: (Value.slice A3 (sites5).length c4 :: (Value.slice A6 (people8).length c7 :: (Value.slice A10 (letters12).length c11 :: (Value.slice A13 (events15).length c14 :: []))))), cR encSite 4 A3 c4 39 sites5, cN encNSitesProcess (innNSitesProcess w0) 8 A6 c7 99 hd9 (people8.set x17.who.toNat (SitesProcess.mk x18.program x18.pending x18.round x18.store (x18.replies + 1) x18.best x18.value)), cR encSitesLetter 9 A10 c11 172 (letters12.set i16.toNat (SitesLetter.mk x17.who x17.round x17.site x17.store x17.tag x17.value x17.delivered true)), cR encEvent 4 A13 c14 34 events15] ++ T)) (hw.pickK 5 [1, 2, 0, 3, 4] rfl) (by simp only [List.length_set, List.nil_append, List.cons_append]))
        · -- behind
          rintro people20 rfl
          -- region 9: sites.go:107
          refine W.know (fun wz hwz => bor_of (h0 := ((none, 0) : Hd)) (q := fun h a => SlIn encAsk 3 w0 (.slice h.1 a.program.length h.2) a.program) hwz (i := 2) rfl (fun _ _ => .head _)) (fun hbor24 => ?_)
          refine W.seqD (by kernel_rfl) (by kernel_rfl) fun R23 hR23 => ?_
          refine WD.q (Y.move (.pl rfl)) rfl ?_
          refine WD.q (Y.nilCheck (.pl rfl)) rfl ?_
          obtain ⟨x22, hx22, hF⟩ := bnd hF
          refine WD.q (Y.nField (off := 4) (ft := 3) Try.underlying99 rfl cells3 (i' := 2) rfl (ix_lt (hx22)) (.pl rfl)) rfl ?_
          refine WD.q (Y.loadN (enc := encNSitesProcess) (h0 := ((none, 0) : Hd)) (v := .int .i64 x22.replies) (a := (SitesProcess.mk x22.program x22.pending x22.round x22.store x22.replies x22.best x22.value)) (idx := x17.who) (j := 4) Try.underlying3 rfl lenNSitesProcess (i := 2) rfl (.pl rfl) (ix_get (hx22)) rfl rfl) rfl ?_
          obtain ⟨hk23, hF⟩ := ckh hF
          refine WD.q (Y.mul (.pl rfl) (.pl rfl) (ok64_lt (hk23))) rfl ?_
          refine WD.q (Y.move (.pl rfl)) rfl ?_
          refine WD.q (Y.nilCheck (.pl rfl)) rfl ?_
          refine WD.q (Y.fieldAddr0 (off := 1) (ft := 27) Try.underlying95 rfl cells27 (.pl rfl)) rfl ?_
          refine WD.q (Y.loadB (v := .slice A3 (sites5).length c4) Try.underlying27 rfl (.pl rfl) (i := 0) rfl (rfl)) rfl ?_
          refine WD.q (Y.len Try.underlying27 (.pl rfl)) rfl ?_
          refine WD.q (Y.gtr (.pl rfl) (.pl rfl)) rfl ?_
          refine WD.next hR23 (.cons (i := 0) rfl (.cons (i := 4) rfl (.cons (i := 110) rfl (.nil)))) ?_
          refine W.cond (.pl rfl) (fun hC25 => ?_) (fun hC25 => ?_)
          · replace hF := cpos hC25 hF
            -- region 10: sites.go:108
            refine W.reg ?_
            refine WL.q (Y.move (.pl rfl)) rfl ?_
            refine WL.q (Y.move (.pl rfl)) rfl ?_
            refine WL.q (Y.nilCheck (.pl rfl)) rfl ?_
            obtain ⟨x24, hx24, hF⟩ := bnd hF
            refine WL.q (Y.rowField (off := 0) (ft := 3) Try.underlying172 rfl cells3 (i' := 3) rfl (ix_lt (hx24)) (.pl rfl)) rfl ?_
            refine WL.q (Y.loadR (enc := encSitesLetter) (v := .int .i64 x24.who) (a := x24) (idx := i16) (j := 0) Try.underlying3 rfl lenSitesLetter (i := 3) rfl (.pl rfl) (ix_get (hx24)) rfl rfl) rfl ?_
            obtain ⟨r25, hr25, hF⟩ := bnd hF
            refine WL.step (WO.call (γ := (List Hd × Option Addr × Nat × Option Addr × Nat)) (fun g => .tuple #[]) (fun g => ([cBx b1 95 (Value.bool fast2 :: (Value.slice A3 (sites5).length c4 :: (Value.slice A6 (r25.1).length c7 :: (Value.slice g.2.1 (r25.2.1).length g.2.2.1 :: (Value.slice g.2.2.2.1 (r25.2.2).length g.2.2.2.2 :: []))))), cR encSite 4 A3 c4 39 sites5, cN encNSitesProcess (innNSitesProcess w0) 8 A6 c7 99 g.1 r25.1, cR encSitesLetter 9 g.2.1 g.2.2.1 172 r25.2.1, cR encEvent 4 g.2.2.2.1 g.2.2.2.2 34 r25.2.2] ++ T)) (fun g => True) isGo88 (.cons (.pl rfl) (.cons (.pl rfl) (.nil))) rfl (fun wz hw => sites_net_next_ok (T := ([] ++ T)) (hr25) (hw.pickK 5 [0, 1, 2, 3, 4] rfl) ) ?_)
            rintro ⟨hd26, A27, c28, A29, c30⟩ -
            refine WL.nil ?_
            obtain rfl := Option.some.inj hF
            refine W.endV (fn := Try.f54) (vs := []) Try.results54 trivial (fun _ _ h => h) (fun wz hw => ?_)
            exact hR _ _ ⟨(hd26, A27, c28, A29, c30), trivial, rfl, (hw.pickK 5 [0, 1, 2, 3, 4] rfl)⟩
          · replace hF := cneg hC25 hF
            refine W.skip ?_
            obtain rfl := Option.some.inj hF
            refine W.endV (fn := Try.f54) (vs := []) Try.results54 trivial (fun _ _ h => h) (fun wz hw => ?_)
            exact hR _ _ ⟨(hd9, A10, c11, A13, c14), trivial, rfl, (hw.pickK 5 [0, 1, 2, 3, 4] rfl)⟩

def sites_Play_L5 (N : Nat) (people3 : (List (List Ask))) : ((List SitesProcess) × Int) → Option (((List SitesProcess) × Int) ⊕ (List SitesProcess))
  | (people23, v25) =>
    cond (decide (v25 < ((people3).length : Int)))
      (bd (ix people3 v25) fun (x26 : (List Ask)) =>
      ck (limB 80 ((people23).length + (([(SitesProcess.mk x26 false 0 false 0 (SitesTag.mk 0 0) 0)] : List SitesProcess)).length)) <|
      ck (ok64 (v25 + 1)) <|
      some (.inl ((people23 ++ ([(SitesProcess.mk x26 false 0 false 0 (SitesTag.mk 0 0) 0)] : List SitesProcess)), (v25 + 1))))
      (some (.inr people23))

def sites_Play_L7 (N : Nat) (acts8 : (List Act)) (fast2 : Bool) : ((List Site) × (List SitesProcess) × (List SitesLetter) × (List Event) × Int) → Option (((List Site) × (List SitesProcess) × (List SitesLetter) × (List Event) × Int) ⊕ ((List Site) × (List SitesProcess) × (List SitesLetter) × (List Event)))
  | (sites41, people42, letters46, events49, v50) =>
    cond (decide (v50 < ((acts8).length : Int)))
      (bd (ix acts8 v50) fun (x51 : Act) =>
      cond (decide (x51.kind = 1))
        (bd (sites_net_call N fast2 sites41 people42 letters46 events49 x51.a) fun (r53 : ((List SitesProcess) × (List SitesLetter) × (List Event))) =>
        ck (ok64 (v50 + 1)) <|
        some (.inl (sites41, r53.1, r53.2.1, r53.2.2, (v50 + 1))))
        (cond (decide (x51.kind = 2))
          (bd (sites_net_hand N fast2 sites41 people42 letters46 events49 x51.a) fun (r59 : ((List Site) × (List SitesLetter))) =>
          ck (ok64 (v50 + 1)) <|
          some (.inl (r59.1, people42, r59.2, events49, (v50 + 1))))
          (cond (decide (x51.kind = 3))
            (bd (sites_net_back N fast2 sites41 people42 letters46 events49 x51.a) fun (r61 : ((List SitesProcess) × (List SitesLetter) × (List Event))) =>
            ck (ok64 (v50 + 1)) <|
            some (.inl (sites41, r61.1, r61.2.1, r61.2.2, (v50 + 1))))
            (bd (ix sites41 x51.a) fun (x68 : Site) =>
            ck (ok64 (v50 + 1)) <|
            some (.inl ((sites41.set x51.a.toNat (Site.mk x68.stamp x68.who x68.value true)), people42, letters46, events49, (v50 + 1)))))))
      (some (.inr (sites41, people42, letters46, events49)))

def sites_Play (N : Nat) (sites1 : Int) (fast2 : Bool) (people3 : (List (List Ask))) (acts8 : (List Act)) : Option ((List Event) × (List Site) × Int) :=
  bd (sites_check N sites1 people3 acts8) fun (r13 : Int) =>
  cond (!(decide (r13 = 0)))
    (some ([], [], r13))
    (ck (mkB 32 sites1) <|
    bd (α := (List SitesProcess)) (iter (sites_Play_L5 N people3) N ([], 0)) <|
    fun (people19 : (List SitesProcess)) => 
      bd (α := ((List Site) × (List SitesProcess) × (List SitesLetter) × (List Event))) (iter (sites_Play_L7 N acts8 fast2) N ((List.replicate sites1.toNat (Site.z : Site)), people19, [], [], 0)) <|
      fun (sites32, people33, letters37, events40) => 
        some (events40, sites32, 0))

theorem sites_Play_ok {N : Nat} {sites1 : Int} {fast2 : Bool} {people3 : (List (List Ask))} {acts8 : (List Act)} {A4 : Option Addr} {c5 : Nat} {hd6 : List Hd} {res : ((List Event) × (List Site) × Int)} (hF : sites_Play N sites1 fast2 people3 acts8 = some res) (w : World) (hs7 : SlNN encAsk 3 w A4 c5 hd6 people3) {v12 : Value} (hs11 : SlIn encAct 2 w v12 acts8) :
    Made Try.prog 20 [.int .i64 sites1, .bool fast2, .slice A4 (people3).length c5, v12] w (fun g : (Option Addr × Nat × Option Addr × Nat) => .tuple #[.slice g.1 (res.1).length g.2.1, .slice g.2.2.1 (res.2.1).length g.2.2.2, .int .i64 res.2.2]) (fun g => [cR encEvent 4 g.1 g.2.1 34 res.1, cR encSite 4 g.2.2.1 g.2.2.2 39 res.2.1]) (fun g => True) := by
  obtain ⟨A9, c10, rfl, hcc10, hs11⟩ := hs11.form
  refine W.enter (n := 90) Try.func20 rfl rfl Sub.refl (by simp) (St.start w) fun R hR => ?_
  unfold sites_Play at hF
  -- region 0: sites.go:166
  refine W.seqR fun Q1 hQ1 => ?_
  refine WL.q (Y.assign (.pl rfl)) rfl ?_
  refine WL.q (Y.assign (.pl rfl)) rfl ?_
  refine WL.q (Y.assign (.pl rfl)) rfl ?_
  refine WL.next hQ1 (.cons (i := 0) rfl (.cons (i := 1) rfl (.cons (i := 2) rfl (.cons (i := 3) rfl (.nil))))) ?_
  refine W.seq fun K2 hK2 => ?_
  -- region 1: sites.go:167
  refine W.seqR fun Q3 hQ3 => ?_
  refine WL.q (Y.move (.pl rfl)) rfl ?_
  refine WL.q (Y.move (.pl rfl)) rfl ?_
  refine WL.q (Y.move (.pl rfl)) rfl ?_
  obtain ⟨r13, hr13, hF⟩ := bnd hF
  refine WL.step (WO.callP isGo51 (.cons (.pl rfl) (.cons (.pl rfl) (.cons (.pl rfl) (.nil)))) rfl (fun wz hw => sites_check_ok (hr13) wz (hs7.mono hw) (hs11.mono hw)) ?_)
  refine WL.q (Y.assign (.pl rfl)) rfl ?_
  refine WL.next hQ3 (.cons (i := 0) rfl (.cons (i := 1) rfl (.cons (i := 2) rfl (.cons (i := 3) rfl (.cons (i := 11) rfl (.nil)))))) ?_
  -- region 2: sites.go:167
  refine W.seqR fun Q4 hQ4 => ?_
  refine WL.q (Y.move (.pl rfl)) rfl ?_
  refine WL.q (Y.neq (.pl rfl) (.pl rfl)) rfl ?_
  refine WL.next hQ4 (.cons (i := 0) rfl (.cons (i := 1) rfl (.cons (i := 2) rfl (.cons (i := 3) rfl (.cons (i := 11) rfl (.cons (i := 22) rfl (.nil))))))) ?_
  refine W.cond (.pl rfl) (fun hC5 => ?_) (fun hC5 => ?_)
  · replace hF := cpos hC5 hF
    -- region 3: sites.go:168
    refine W.seqR fun Q6 hQ6 => ?_
    refine WL.q (Y.move (.pl rfl)) rfl ?_
    refine WL.q (Y.assign (.pl rfl)) rfl ?_
    refine WL.q (Y.assign (.pl rfl)) rfl ?_
    refine WL.q (Y.assign (.pl rfl)) rfl ?_
    refine WL.next hQ6 (.cons (i := 8) rfl (.cons (i := 9) rfl (.cons (i := 10) rfl (.nil)))) ?_
    obtain rfl := Option.some.inj hF
    refine W.retV (fn := Try.f20) (vs := [.slice none 0 0, .slice none 0 0, .int .i64 r13]) Try.results20 ⟨.tmp rfl, ⟨.tmp rfl, ⟨.tmp rfl, trivial⟩⟩⟩ (fun _ _ h => h) (fun wz hw => ?_)
    exact hR _ _ ⟨(none, 0, none, 0), trivial, rfl, ((St.nilR (St.nilR (hw.pick [] rfl) encEvent 4 34) encSite 4 39).pick [1, 0] rfl)⟩
  · replace hF := cneg hC5 hF
    refine W.skip ?_
    refine W.go hK2 (.cons (i := 0) rfl (.cons (i := 1) rfl (.cons (i := 2) rfl (.cons (i := 3) rfl (.nil))))) ?_
    -- region 4: sites.go:170
    refine W.seqR fun Q7 hQ7 => ?_
    refine WL.q (Y.move (.pl rfl)) rfl ?_
    refine WL.q (Y.move (.pl rfl)) rfl ?_
    obtain ⟨hk15, hF⟩ := ckh hF
    refine WL.step (WO.makeC (enc := encSite) (z := Site.z) Try.underlying27 mka39 rfl (.pl rfl) (hk15) rfl fun b14 => ?_)
    refine WL.q (Y.build (cs := (Value.bool fast2 :: (Value.slice (some ⟨b14, 0, none⟩) ((List.replicate sites1.toNat (Site.z : Site))).length sites1.toNat :: (Value.slice none 0 0 :: (Value.slice none 0 0 :: (Value.slice none 0 0 :: []))))).toArray) shape95 (.cons (.pl rfl) (.cons (.pl rfl) (.nil))) (one_parts ⟨rfl, ⟨rfl, trivial⟩⟩) rfl) rfl ?_
    refine WL.step (WO.boxA (.pl rfl) rfl fun b16 => ?_)
    refine WL.q (Y.assign (.pl rfl)) rfl ?_
    refine WL.next hQ7 (.cons (i := 2) rfl (.cons (i := 3) rfl (.cons (i := 12) rfl (.nil)))) ?_
    obtain ⟨o8, hF8, hF⟩ := bnd hF
    refine W.join4 (Em := fun (people19 : (List SitesProcess)) (A17 : Option Addr) (c18 : Nat) (hd20 : List Hd) => []) (M := fun people19 A17 c18 hd20 => [cBx b16 95 (Value.bool fast2 :: (Value.slice (some ⟨b14, 0, none⟩) ((List.replicate sites1.toNat (Site.z : Site))).length sites1.toNat :: (Value.slice A17 (people19).length c18 :: (Value.slice none 0 0 :: (Value.slice none 0 0 :: []))))), cR encSite 4 (some ⟨b14, 0, none⟩) sites1.toNat 39 (List.replicate sites1.toNat (Site.z : Site)), cN encNSitesProcess (innNSitesProcess w) 8 A17 c18 99 hd20 people19]) (I := fun people19 A17 c18 hd20 => people19 = o8) (.cons (i := 3) rfl (.cons (i := 12) rfl (.nil))) (fun K9 hK9 => ?_) ?_
    · -- up to
      -- region 5: sites.go:171
      refine W.seqR fun Q10 hQ10 => ?_
      refine WL.q (Y.move (.pl rfl)) rfl ?_
      refine WL.q (Y.len Try.underlying22 (.pl rfl)) rfl ?_
      refine WL.q (Y.move (.pl rfl)) rfl ?_
      refine WL.next hQ10 (.cons (i := 3) rfl (.cons (i := 12) rfl (.cons (i := 29) rfl (.cons (i := 30) rfl (.cons (i := 31) rfl (.nil)))))) ?_
      refine W.block ?_
      refine W.loop5 (Em := fun (people23 : (List SitesProcess)) (v25 : Int) (A21 : Option Addr) (c22 : Nat) (hd24 : List Hd) => [(31, .int .i64 v25)]) (M := fun people23 v25 A21 c22 hd24 => [cBx b16 95 (Value.bool fast2 :: (Value.slice (some ⟨b14, 0, none⟩) ((List.replicate sites1.toNat (Site.z : Site))).length sites1.toNat :: (Value.slice A21 (people23).length c22 :: (Value.slice none 0 0 :: (Value.slice none 0 0 :: []))))), cR encSite 4 (some ⟨b14, 0, none⟩) sites1.toNat 39 (List.replicate sites1.toNat (Site.z : Site)), cN encNSitesProcess (innNSitesProcess w) 8 A21 c22 99 hd24 people23]) (I := fun people23 v25 A21 c22 hd24 k11 => iter (sites_Play_L5 N people3) k11 (people23, v25) = some o8) [] 0 none 0 [] N (hF8) (.cons rfl (.nil)) (.cons (i := 3) rfl (.cons (i := 12) rfl (.cons (i := 29) rfl (.cons (i := 30) rfl (.nil))))) (fun wz hw => (St.nilN (hw.pick [0, 1] rfl) encNSitesProcess (innNSitesProcess w) 8 99).pick [1, 2, 0] rfl) (fun people23 v25 A21 c22 hd24 k11 hI K12 hK12 => ?_)
      obtain ⟨k11, t11, rfl, hF11, hN11⟩ := iter_step hI
      -- region 6: sites.go:171
      refine W.know (fun wz hwz => bor_of (h0 := ((none, 0) : Hd)) (q := fun h a => SlIn encAsk 3 w (.slice h.1 a.program.length h.2) a.program) hwz (i := 2) rfl (fun _ _ => .head _)) (fun hbor14 => ?_)
      refine W.seqR fun Q13 hQ13 => ?_
      refine WL.q (Y.lss (.pl rfl) (.pl rfl)) rfl ?_
      refine WL.next hQ13 (.cons (i := 3) rfl (.cons (i := 12) rfl (.cons (i := 29) rfl (.cons (i := 30) rfl (.cons (i := 31) rfl (.cons (i := 32) rfl (.nil))))))) ?_
      refine W.seq fun K15 hK15 => ?_
      refine W.cond (.pl rfl) (fun hC16 => ?_) (fun hC16 => ?_)
      · replace hF11 := cpos hC16 hF11
        refine W.skip ?_
        refine W.go hK15 (.cons (i := 3) rfl (.cons (i := 12) rfl (.cons (i := 29) rfl (.cons (i := 30) rfl (.cons (i := 31) rfl (.nil)))))) ?_
        refine W.seq fun K17 hK17 => ?_
        refine W.block ?_
        -- region 7: sites.go:171
        refine W.seqR fun Q18 hQ18 => ?_
        obtain ⟨x26, hx26, hF11⟩ := bnd hF11
        refine WL.q (Y.nnEl Try.underlying22 cells41 hs7 (.pl rfl) (.pl rfl) (ix_lt (hx26))) rfl ?_
        refine WL.q (Y.loadNN Try.underlying41 rfl hs7 (.pl rfl) (hx26) rfl) rfl ?_
        refine WL.q (Y.assign (.pl rfl)) rfl ?_
        refine WL.next hQ18 (.cons (i := 3) rfl (.cons (i := 12) rfl (.cons (i := 14) rfl (.cons (i := 29) rfl (.cons (i := 30) rfl (.cons (i := 31) rfl (.nil))))))) ?_
        -- region 8: sites.go:172
        refine W.reg ?_
        refine WL.q (Y.move (.pl rfl)) rfl ?_
        refine WL.q (Y.move (.pl rfl)) rfl ?_
        refine WL.q (Y.nilCheck (.pl rfl)) rfl ?_
        refine WL.q (Y.fieldAddr0 (off := 2) (ft := 92) Try.underlying95 rfl cells92 (.pl rfl)) rfl ?_
        refine WL.q (Y.loadB (v := .slice A21 (people23).length c22) Try.underlying92 rfl (.pl rfl) (i := 0) rfl (rfl)) rfl ?_
        refine WL.q (Y.move (.pl rfl)) rfl ?_
        refine WL.q (Y.build (cs := (Value.slice (hd6.getD v25.toNat (none, 0)).1 (x26).length (hd6.getD v25.toNat (none, 0)).2 :: (Value.bool false :: (Value.int .i64 0 :: (Value.bool false :: (Value.int .i64 0 :: ((encSitesTag (SitesTag.mk 0 0)) ++ (Value.int .i64 0 :: []))))))).toArray) shape99 (.cons (.pl rfl) (.nil)) (one_parts ⟨rfl, trivial⟩) rfl) rfl ?_
        refine WL.step (WO.bsliceN (enc := encNSitesProcess) (inn := (innNSitesProcess w)) (hs := ([(((hd6.getD v25.toNat (none, 0)).1, (hd6.getD v25.toNat (none, 0)).2) : Hd)] : List Hd)) (xs := ([(SitesProcess.mk x26 false 0 false 0 (SitesTag.mk 0 0) 0)] : List SitesProcess)) Try.underlying92 bz99 (.cons (.pl rfl) (.nil)) rfl rfl rfl rfl rfl lenNSitesProcess (by decide) (by decide) (.trans (.fact ((hs7.at (hx26)))) (.pick [0, 1, 2, 3] rfl)) rfl fun b27 => ?_)
        obtain ⟨hk30, hF11⟩ := ckh hF11
        refine WL.step (WO.appendN (enc := encNSitesProcess) (inn := (innNSitesProcess w)) (hs := hd24) Try.underlying92 ap99 lenNSitesProcess oneNSitesProcess (.pl rfl) rfl (.pl rfl) (i := 2) rfl (hk30) rfl fun A28 c29 => ?_)
        refine WL.q (Y.nilCheck (.pl rfl)) rfl ?_
        refine WL.q (Y.fieldAddr0 (off := 2) (ft := 92) Try.underlying95 rfl cells92 (.pl rfl)) rfl ?_
        refine WL.step (WO.storeB (cs' := (Value.bool fast2 :: (Value.slice (some ⟨b14, 0, none⟩) ((List.replicate sites1.toNat (Site.z : Site))).length sites1.toNat :: (Value.slice A28 ((people23 ++ ([(SitesProcess.mk x26 false 0 false 0 (SitesTag.mk 0 0) 0)] : List SitesProcess))).length c29 :: (Value.slice none 0 0 :: (Value.slice none 0 0 :: [])))))) cells92 (.pl rfl) (.pl rfl) rfl (i := 1) rfl (ltl (m := 5) (by decide) rfl) (rfl) ?_)
        refine WL.nil ?_
        refine W.go hK17 (.cons (i := 3) rfl (.cons (i := 12) rfl (.cons (i := 29) rfl (.cons (i := 30) rfl (.cons (i := 31) rfl (.nil)))))) ?_
        -- region 9: sites.go:171
        refine W.know (fun wz hwz => bor_of (h0 := ((none, 0) : Hd)) (q := fun h a => SlIn encAsk 3 w (.slice h.1 a.program.length h.2) a.program) hwz (i := 0) rfl (fun _ _ => .head _)) (fun hbor21 => ?_)
        refine W.reg ?_
        obtain ⟨hk31, hF11⟩ := ckh hF11
        refine WL.q (Y.add (.pl rfl) (.pl rfl) (ok64_lt (hk31))) rfl ?_
        refine WL.q (Y.move (.pl rfl)) rfl ?_
        refine WL.nil ?_
        obtain rfl := Option.some.inj hF11
        exact W.again5 hK12 (people23 ++ ([(SitesProcess.mk x26 false 0 false 0 (SitesTag.mk 0 0) 0)] : List SitesProcess)) (v25 + 1) A28 c29 (hd24 ++ ([(((hd6.getD v25.toNat (none, 0)).1, (hd6.getD v25.toNat (none, 0)).2) : Hd)] : List Hd)) k11 hN11 (Nat.lt_succ_self _) (.cons rfl (.nil)) (.cons (i := 3) rfl (.cons (i := 12) rfl (.cons (i := 29) rfl (.cons (i := 30) rfl (.nil))))) (fun wz hw => hw.pick [1, 2, 0] rfl)
      · replace hF11 := cneg hC16 hF11
        refine W.exit ?_
        obtain rfl := Option.some.inj hF11
        exact W.joinAt4 hK9 people23 A21 c22 hd24 (einr hN11) (.nil) (.cons (i := 3) rfl (.cons (i := 12) rfl (.nil))) (fun wz hw => hw.pick [0, 1, 2] rfl)
    · -- behind
      rintro people19 A17 c18 hd20 rfl
      obtain ⟨o22, hF22, hF⟩ := bnd hF
      refine W.join9 (Em := fun (sites32 : (List Site)) (people33 : (List SitesProcess)) (letters37 : (List SitesLetter)) (events40 : (List Event)) (hd34 : List Hd) (A35 : Option Addr) (c36 : Nat) (A38 : Option Addr) (c39 : Nat) => []) (M := fun sites32 people33 letters37 events40 hd34 A35 c36 A38 c39 => [cBx b16 95 (Value.bool fast2 :: (Value.slice (some ⟨b14, 0, none⟩) (sites32).length sites1.toNat :: (Value.slice A17 (people33).length c18 :: (Value.slice A35 (letters37).length c36 :: (Value.slice A38 (events40).length c39 :: []))))), cR encSite 4 (some ⟨b14, 0, none⟩) sites1.toNat 39 sites32, cN encNSitesProcess (innNSitesProcess w) 8 A17 c18 99 hd34 people33, cR encSitesLetter 9 A35 c36 172 letters37, cR encEvent 4 A38 c39 34 events40]) (I := fun sites32 people33 letters37 events40 hd34 A35 c36 A38 c39 => (sites32, people33, letters37, events40) = o22) (.cons (i := 12) rfl (.nil)) (fun K23 hK23 => ?_) ?_
      · -- up to
        -- region 10: sites.go:174
        refine W.know (fun wz hwz => bor_of (h0 := ((none, 0) : Hd)) (q := fun h a => SlIn encAsk 3 w (.slice h.1 a.program.length h.2) a.program) hwz (i := 2) rfl (fun _ _ => .head _)) (fun hbor25 => ?_)
        refine W.seqR fun Q24 hQ24 => ?_
        refine WL.q (Y.move (.pl rfl)) rfl ?_
        refine WL.q (Y.len Try.underlying23 (.pl rfl)) rfl ?_
        refine WL.q (Y.move (.pl rfl)) rfl ?_
        refine WL.next hQ24 (.cons (i := 12) rfl (.cons (i := 47) rfl (.cons (i := 48) rfl (.cons (i := 49) rfl (.nil))))) ?_
        refine W.block ?_
        refine W.loop10 (Em := fun (sites41 : (List Site)) (people42 : (List SitesProcess)) (letters46 : (List SitesLetter)) (events49 : (List Event)) (v50 : Int) (hd43 : List Hd) (A44 : Option Addr) (c45 : Nat) (A47 : Option Addr) (c48 : Nat) => [(49, .int .i64 v50)]) (M := fun sites41 people42 letters46 events49 v50 hd43 A44 c45 A47 c48 => [cBx b16 95 (Value.bool fast2 :: (Value.slice (some ⟨b14, 0, none⟩) (sites41).length sites1.toNat :: (Value.slice A17 (people42).length c18 :: (Value.slice A44 (letters46).length c45 :: (Value.slice A47 (events49).length c48 :: []))))), cR encSite 4 (some ⟨b14, 0, none⟩) sites1.toNat 39 sites41, cN encNSitesProcess (innNSitesProcess w) 8 A17 c18 99 hd43 people42, cR encSitesLetter 9 A44 c45 172 letters46, cR encEvent 4 A47 c48 34 events49]) (I := fun sites41 people42 letters46 events49 v50 hd43 A44 c45 A47 c48 k26 => iter (sites_Play_L7 N acts8 fast2) k26 (sites41, people42, letters46, events49, v50) = some o22) (List.replicate sites1.toNat (Site.z : Site)) people19 [] [] 0 hd20 none 0 none 0 N (hF22) (.cons rfl (.nil)) (.cons (i := 12) rfl (.cons (i := 47) rfl (.cons (i := 48) rfl (.nil)))) (fun wz hw => (St.nilR (St.nilR (hw.pick [0, 1, 2] rfl) encSitesLetter 9 172) encEvent 4 34).pick [2, 3, 4, 1, 0] rfl) (fun sites41 people42 letters46 events49 v50 hd43 A44 c45 A47 c48 k26 hI K27 hK27 => ?_)
        obtain ⟨k26, t26, rfl, hF26, hN26⟩ := iter_step hI
        -- region 11: sites.go:174
        refine W.know (fun wz hwz => bor_of (h0 := ((none, 0) : Hd)) (q := fun h a => SlIn encAsk 3 w (.slice h.1 a.program.length h.2) a.program) hwz (i := 2) rfl (fun _ _ => .head _)) (fun hbor29 => ?_)
        refine W.seqR fun Q28 hQ28 => ?_
        refine WL.q (Y.lss (.pl rfl) (.pl rfl)) rfl ?_
        refine WL.next hQ28 (.cons (i := 12) rfl (.cons (i := 47) rfl (.cons (i := 48) rfl (.cons (i := 49) rfl (.cons (i := 50) rfl (.nil)))))) ?_
        refine W.seq fun K30 hK30 => ?_
        refine W.cond (.pl rfl) (fun hC31 => ?_) (fun hC31 => ?_)
        · replace hF26 := cpos hC31 hF26
          refine W.skip ?_
          refine W.go hK30 (.cons (i := 12) rfl (.cons (i := 47) rfl (.cons (i := 48) rfl (.cons (i := 49) rfl (.nil))))) ?_
          refine W.seq fun K32 hK32 => ?_
          refine W.block ?_
          -- region 12: sites.go:174
          refine W.seqR fun Q33 hQ33 => ?_
          obtain ⟨x51, hx51, hF26⟩ := bnd hF26
          refine WL.q (Y.slEl Try.underlying23 cells25 hs11 (.pl rfl) (.pl rfl) (ix_lt (hx51))) rfl ?_
          refine WL.q (Y.loadSA (enc := encAct) (ds := (encAct x51)) (j := 0) Try.underlying25 rfl cells25 hs11 (.pl rfl) (hx51) rfl rfl subW) rfl ?_
          refine WL.step (WO.alloc (cs := (encAct (Act.mk 0 0)).toArray) zero25 rfl rfl fun b52 => ?_)
          refine WL.step (WO.storeBA (ds := (encAct x51)) (cs' := (encAct x51)) cells25 (.pl rfl) (.pl rfl) rfl (oneAct _) (i := 0) rfl (lel (o := 0) (l := 2) (m := 2) (by decide) rfl rfl) (putW rfl) ?_)
          refine WL.next hQ33 (.cons (i := 12) rfl (.cons (i := 16) rfl (.cons (i := 47) rfl (.cons (i := 48) rfl (.cons (i := 49) rfl (.nil)))))) ?_
          -- region 13: sites.go:175
          refine W.seqR fun Q34 hQ34 => ?_
          refine WL.q (Y.fieldAddr0 (off := 0) (ft := 3) Try.underlying25 rfl cells3 (.pl rfl)) rfl ?_
          refine WL.q (Y.loadB (v := .int .i64 x51.kind) Try.underlying3 rfl (.pl rfl) (i := 0) rfl (rfl)) rfl ?_
          refine WL.next hQ34 (.cons (i := 12) rfl (.cons (i := 16) rfl (.cons (i := 47) rfl (.cons (i := 48) rfl (.cons (i := 49) rfl (.cons (i := 54) rfl (.nil))))))) ?_
          refine W.block ?_
          -- region 15: sites.go:176
          refine W.seqR fun Q35 hQ35 => ?_
          refine WL.q (Y.eql (.pl rfl) (.pl rfl)) rfl ?_
          refine WL.q (Y.assign (.pl rfl)) rfl ?_
          refine WL.next hQ35 (.cons (i := 12) rfl (.cons (i := 16) rfl (.cons (i := 47) rfl (.cons (i := 48) rfl (.cons (i := 49) rfl (.cons (i := 54) rfl (.cons (i := 63) rfl (.nil)))))))) ?_
          refine W.cond (.pl rfl) (fun hC36 => ?_) (fun hC36 => ?_)
          · replace hF26 := cpos hC36 hF26
            -- region 16: sites.go:177
            refine W.reg ?_
            refine WL.q (Y.move (.pl rfl)) rfl ?_
            refine WL.q (Y.fieldAddr0 (off := 1) (ft := 3) Try.underlying25 rfl cells3 (.pl rfl)) rfl ?_
            refine WL.q (Y.loadB (v := .int .i64 x51.a) Try.underlying3 rfl (.pl rfl) (i := 0) rfl (rfl)) rfl ?_
            obtain ⟨r53, hr53, hF26⟩ := bnd hF26
            refine WL.step (WO.call (γ := (Option Addr × Nat × Option Addr × Nat)) (fun g => .tuple #[]) (fun g => [cBx b16 95 (Value.bool fast2 :: (Value.slice (some ⟨b14, 0, none⟩) (sites41).length sites1.toNat :: (Value.slice A17 (r53.1).length c18 :: (Value.slice g.1 (r53.2.1).length g.2.1 :: (Value.slice g.2.2.1 (r53.2.2).length g.2.2.2 :: []))))), cR encSite 4 (some ⟨b14, 0, none⟩) sites1.toNat 39 sites41, cN encNSitesProcess (innNSitesProcess w) 8 A17 c18 99 hd43 r53.1, cR encSitesLetter 9 g.1 g.2.1 172 r53.2.1, cR encEvent 4 g.2.2.1 g.2.2.2 34 r53.2.2, cBx b52 25 (encAct x51)]) (fun g => True) isGo52 (.cons (.pl rfl) (.cons (.pl rfl) (.nil))) rfl (fun wz hw => sites_net_call_ok (T := [cBx b52 25 (encAct x51)]) (hr53) (hw.pick [1, 2, 3, 4, 5, 0] rfl) ) ?_)
            rintro ⟨A54, c55, A56, c57⟩ -
            refine WL.nil ?_
            refine W.go hK32 (.cons (i := 12) rfl (.cons (i := 47) rfl (.cons (i := 48) rfl (.cons (i := 49) rfl (.nil))))) ?_
            -- region 21: sites.go:174
            refine W.know (fun wz hwz => bor_of (h0 := ((none, 0) : Hd)) (q := fun h a => SlIn encAsk 3 w (.slice h.1 a.program.length h.2) a.program) hwz (i := 2) rfl (fun _ _ => .head _)) (fun hbor39 => ?_)
            refine W.reg ?_
            obtain ⟨hk58, hF26⟩ := ckh hF26
            refine WL.q (Y.add (.pl rfl) (.pl rfl) (ok64_lt (hk58))) rfl ?_
            refine WL.q (Y.move (.pl rfl)) rfl ?_
            refine WL.nil ?_
            obtain rfl := Option.some.inj hF26
            exact W.again10 hK27 sites41 r53.1 r53.2.1 r53.2.2 (v50 + 1) hd43 A54 c55 A56 c57 k26 hN26 (Nat.lt_succ_self _) (.cons rfl (.nil)) (.cons (i := 12) rfl (.cons (i := 47) rfl (.cons (i := 48) rfl (.nil)))) (fun wz hw => hw.pick [0, 1, 2, 3, 4] rfl)
          · replace hF26 := cneg hC36 hF26
            -- region 17: sites.go:178
            refine W.seqR fun Q40 hQ40 => ?_
            refine WL.q (Y.eql (.pl rfl) (.pl rfl)) rfl ?_
            refine WL.q (Y.assign (.pl rfl)) rfl ?_
            refine WL.next hQ40 (.cons (i := 12) rfl (.cons (i := 16) rfl (.cons (i := 47) rfl (.cons (i := 48) rfl (.cons (i := 49) rfl (.cons (i := 54) rfl (.cons (i := 69) rfl (.nil)))))))) ?_
            refine W.cond (.pl rfl) (fun hC41 => ?_) (fun hC41 => ?_)
            · replace hF26 := cpos hC41 hF26
              -- region 18: sites.go:179
              refine W.reg ?_
              refine WL.q (Y.move (.pl rfl)) rfl ?_
              refine WL.q (Y.fieldAddr0 (off := 1) (ft := 3) Try.underlying25 rfl cells3 (.pl rfl)) rfl ?_
              refine WL.q (Y.loadB (v := .int .i64 x51.a) Try.underlying3 rfl (.pl rfl) (i := 0) rfl (rfl)) rfl ?_
              obtain ⟨r59, hr59, hF26⟩ := bnd hF26
              refine WL.step (WO.call (γ := Unit) (fun g => .tuple #[]) (fun g => [cBx b16 95 (Value.bool fast2 :: (Value.slice (some ⟨b14, 0, none⟩) (r59.1).length sites1.toNat :: (Value.slice A17 (people42).length c18 :: (Value.slice A44 (r59.2).length c45 :: (Value.slice A47 (events49).length c48 :: []))))), cR encSite 4 (some ⟨b14, 0, none⟩) sites1.toNat 39 r59.1, cN encNSitesProcess (innNSitesProcess w) 8 A17 c18 99 hd43 people42, cR encSitesLetter 9 A44 c45 172 r59.2, cR encEvent 4 A47 c48 34 events49, cBx b52 25 (encAct x51)]) (fun g => True) isGo53 (.cons (.pl rfl) (.cons (.pl rfl) (.nil))) rfl (fun wz hw => sites_net_hand_ok (T := [cBx b52 25 (encAct x51)]) (hr59) (hw.pick [1, 2, 3, 4, 5, 0] rfl) ) ?_)
              rintro _ -
              refine WL.nil ?_
              refine W.go hK32 (.cons (i := 12) rfl (.cons (i := 47) rfl (.cons (i := 48) rfl (.cons (i := 49) rfl (.nil))))) ?_
              -- region 21: sites.go:174
              refine W.reg ?_
              obtain ⟨hk60, hF26⟩ := ckh hF26
              refine WL.q (Y.add (.pl rfl) (.pl rfl) (ok64_lt (hk60))) rfl ?_
              refine WL.q (Y.move (.pl rfl)) rfl ?_
              refine WL.nil ?_
              obtain rfl := Option.some.inj hF26
              exact W.again10 hK27 r59.1 people42 r59.2 events49 (v50 + 1) hd43 A44 c45 A47 c48 k26 hN26 (Nat.lt_succ_self _) (.cons rfl (.nil)) (.cons (i := 12) rfl (.cons (i := 47) rfl (.cons (i := 48) rfl (.nil)))) (fun wz hw => hw.pick [0, 1, 2, 3, 4] rfl)
            · replace hF26 := cneg hC41 hF26
              -- region 19: sites.go:180
              refine W.seqR fun Q44 hQ44 => ?_
              refine WL.q (Y.eql (.pl rfl) (.pl rfl)) rfl ?_
              refine WL.q (Y.assign (.pl rfl)) rfl ?_
              refine WL.next hQ44 (.cons (i := 12) rfl (.cons (i := 16) rfl (.cons (i := 47) rfl (.cons (i := 48) rfl (.cons (i := 49) rfl (.cons (i := 75) rfl (.nil))))))) ?_
              refine W.cond (.pl rfl) (fun hC45 => ?_) (fun hC45 => ?_)
              · replace hF26 := cpos hC45 hF26
                -- region 20: sites.go:181
                refine W.reg ?_
                refine WL.q (Y.move (.pl rfl)) rfl ?_
                refine WL.q (Y.fieldAddr0 (off := 1) (ft := 3) Try.underlying25 rfl cells3 (.pl rfl)) rfl ?_
                refine WL.q (Y.loadB (v := .int .i64 x51.a) Try.underlying3 rfl (.pl rfl) (i := 0) rfl (rfl)) rfl ?_
                obtain ⟨r61, hr61, hF26⟩ := bnd hF26
                refine WL.step (WO.call (γ := (List Hd × Option Addr × Nat × Option Addr × Nat)) (fun g => .tuple #[]) (fun g => [cBx b16 95 (Value.bool fast2 :: (Value.slice (some ⟨b14, 0, none⟩) (sites41).length sites1.toNat :: (Value.slice A17 (r61.1).length c18 :: (Value.slice g.2.1 (r61.2.1).length g.2.2.1 :: (Value.slice g.2.2.2.1 (r61.2.2).length g.2.2.2.2 :: []))))), cR encSite 4 (some ⟨b14, 0, none⟩) sites1.toNat 39 sites41, cN encNSitesProcess (innNSitesProcess w) 8 A17 c18 99 g.1 r61.1, cR encSitesLetter 9 g.2.1 g.2.2.1 172 r61.2.1, cR encEvent 4 g.2.2.2.1 g.2.2.2.2 34 r61.2.2, cBx b52 25 (encAct x51)]) (fun g => True) isGo54 (.cons (.pl rfl) (.cons (.pl rfl) (.nil))) rfl (fun wz hw => sites_net_back_ok (T := [cBx b52 25 (encAct x51)]) (hr61) (hw.pick [1, 2, 3, 4, 5, 0] rfl) ) ?_)
                rintro ⟨hd62, A63, c64, A65, c66⟩ -
                refine WL.nil ?_
                refine W.go hK32 (.cons (i := 12) rfl (.cons (i := 47) rfl (.cons (i := 48) rfl (.cons (i := 49) rfl (.nil))))) ?_
                -- region 21: sites.go:174
                refine W.know (fun wz hwz => bor_of (h0 := ((none, 0) : Hd)) (q := fun h a => SlIn encAsk 3 w (.slice h.1 a.program.length h.2) a.program) hwz (i := 2) rfl (fun _ _ => .head _)) (fun hbor48 => ?_)
                refine W.reg ?_
                obtain ⟨hk67, hF26⟩ := ckh hF26
                refine WL.q (Y.add (.pl rfl) (.pl rfl) (ok64_lt (hk67))) rfl ?_
                refine WL.q (Y.move (.pl rfl)) rfl ?_
                refine WL.nil ?_
                obtain rfl := Option.some.inj hF26
                exact W.again10 hK27 sites41 r61.1 r61.2.1 r61.2.2 (v50 + 1) hd62 A63 c64 A65 c66 k26 hN26 (Nat.lt_succ_self _) (.cons rfl (.nil)) (.cons (i := 12) rfl (.cons (i := 47) rfl (.cons (i := 48) rfl (.nil)))) (fun wz hw => hw.pick [0, 1, 2, 3, 4] rfl)
              · replace hF26 := cneg hC45 hF26
                -- region 14: sites.go:183
                refine W.regT 8 (by kernel_rfl) (by kernel_rfl) ?_
                refine WS.q (Y.move (.pl rfl)) rfl ?_
                refine WS.q (Y.nilCheck (.pl rfl)) rfl ?_
                refine WS.q (Y.fieldAddr0 (off := 1) (ft := 27) Try.underlying95 rfl cells27 (.pl rfl)) rfl ?_
                refine WS.q (Y.loadB (v := .slice (some ⟨b14, 0, none⟩) (sites41).length sites1.toNat) Try.underlying27 rfl (.pl rfl) (i := 1) rfl (rfl)) rfl ?_
                refine WS.q (Y.fieldAddr0 (off := 1) (ft := 3) Try.underlying25 rfl cells3 (.pl rfl)) rfl ?_
                refine WS.q (Y.loadB (v := .int .i64 x51.a) Try.underlying3 rfl (.pl rfl) (i := 0) rfl (rfl)) rfl ?_
                obtain ⟨x68, hx68, hF26⟩ := bnd hF26
                refine WS.q (Y.litEl (xs := sites41) Try.underlying27 cells39 (.pl rfl) rfl (.pl rfl) (ix_lt (hx68))) rfl ?_
                refine WS.q (Y.rowField (off := 3) (ft := 4) Try.underlying39 rfl cells4 (i' := 2) rfl (ix_lt (hx68)) (.pl rfl)) rfl ?_
                refine WS.tail ?_
                refine WL.step (WO.storeS (enc := encSite) (a := x68) (a' := (Site.mk x68.stamp x68.who x68.value true)) (idx := x51.a) (j := 3) cells4 (.pl rfl) (.pl rfl) rfl lenSite (i := 2) rfl (ix_get (hx68)) rfl (by decide) rfl ?_)
                refine WL.nil ?_
                refine W.go hK32 (.cons (i := 12) rfl (.cons (i := 47) rfl (.cons (i := 48) rfl (.cons (i := 49) rfl (.nil))))) ?_
                -- region 21: sites.go:174
                refine W.reg ?_
                obtain ⟨hk69, hF26⟩ := ckh hF26
                refine WL.q (Y.add (.pl rfl) (.pl rfl) (ok64_lt (hk69))) rfl ?_
                refine WL.q (Y.move (.pl rfl)) rfl ?_
                refine WL.nil ?_
                obtain rfl := Option.some.inj hF26
                exact W.again10 hK27 (sites41.set x51.a.toNat (Site.mk x68.stamp x68.who x68.value true)) people42 letters46 events49 (v50 + 1) hd43 A44 c45 A47 c48 k26 hN26 (Nat.lt_succ_self _) (.cons rfl (.nil)) (.cons (i := 12) rfl (.cons (i := 47) rfl (.cons (i := 48) rfl (.nil)))) (fun wz hw => St.cong (L := [cBx b16 95 (Value.bool fast2 :: (Value.slice (some ⟨b14, 0, none⟩) (sites41).length sites1.toNat :: (Value.slice A17 (people42).length c18 :: (Value.slice A44 (letters46).length c45 :: (Value.slice A47 (events49).length c48 :: []))))), cR encSite 4 (some ⟨b14, 0, none⟩) sites1.toNat 39 (sites41.set x51.a.toNat (Site.mk x68.stamp x68.who x68.value true)), cN encNSitesProcess (innNSitesProcess w) 8 A17 c18 99 hd43 people42, cR encSitesLetter 9 A44 c45 172 letters46, cR encEvent 4 A47 c48 34 events49]) (hw.pick [1, 2, 3, 4, 5] rfl) (by simp only [List.length_set, List.nil_append, List.cons_append]))
        · replace hF26 := cneg hC31 hF26
          refine W.exit ?_
          obtain rfl := Option.some.inj hF26
          exact W.joinAt9 hK23 sites41 people42 letters46 events49 hd43 A44 c45 A47 c48 (einr hN26) (.nil) (.cons (i := 12) rfl (.nil)) (fun wz hw => hw.pick [0, 1, 2, 3, 4] rfl)
      · -- behind
        rintro sites32 people33 letters37 events40 hd34 A35 c36 A38 c39 rfl
        -- region 22: sites.go:186
        refine W.know (fun wz hwz => bor_of (h0 := ((none, 0) : Hd)) (q := fun h a => SlIn encAsk 3 w (.slice h.1 a.program.length h.2) a.program) hwz (i := 2) rfl (fun _ _ => .head _)) (fun hbor52 => ?_)
        refine W.seqD (by kernel_rfl) (by kernel_rfl) fun R51 hR51 => ?_
        refine WD.q (Y.move (.pl rfl)) rfl ?_
        refine WD.q (Y.nilCheck (.pl rfl)) rfl ?_
        refine WD.q (Y.fieldAddr0 (off := 4) (ft := 26) Try.underlying95 rfl cells26 (.pl rfl)) rfl ?_
        refine WD.q (Y.loadB (v := .slice A38 (events40).length c39) Try.underlying26 rfl (.pl rfl) (i := 0) rfl (rfl)) rfl ?_
        refine WD.q (Y.move (.pl rfl)) rfl ?_
        refine WD.q (Y.nilCheck (.pl rfl)) rfl ?_
        refine WD.q (Y.fieldAddr0 (off := 1) (ft := 27) Try.underlying95 rfl cells27 (.pl rfl)) rfl ?_
        refine WD.q (Y.loadB (v := .slice (some ⟨b14, 0, none⟩) (sites32).length sites1.toNat) Try.underlying27 rfl (.pl rfl) (i := 0) rfl (rfl)) rfl ?_
        refine WD.q (Y.assign (.pl rfl)) rfl ?_
        refine WD.q (Y.assign (.pl rfl)) rfl ?_
        refine WD.q (Y.assign (.pl rfl)) rfl ?_
        refine WD.next hR51 (.cons (i := 8) rfl (.cons (i := 9) rfl (.cons (i := 10) rfl (.nil)))) ?_
        obtain rfl := Option.some.inj hF
        refine W.retV (fn := Try.f20) (vs := [.slice A38 (events40).length c39, .slice (some ⟨b14, 0, none⟩) (sites32).length sites1.toNat, .int .i64 0]) Try.results20 ⟨.tmp rfl, ⟨.tmp rfl, ⟨.tmp rfl, trivial⟩⟩⟩ (fun _ _ h => h) (fun wz hw => ?_)
        exact hR _ _ ⟨(A38, c39, (some ⟨b14, 0, none⟩), sites1.toNat), trivial, rfl, (hw.pick [4, 1] rfl)⟩

end Go.Proofs.Yteklmleiiiodfaa
