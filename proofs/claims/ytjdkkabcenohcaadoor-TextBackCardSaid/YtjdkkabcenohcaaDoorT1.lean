/- Text: what Print computes, and the walks. -/
import Derived.Test.YtjdkkabcenohcaaDoorChecked
import Derived.Test.YtjdkkabcenohcaaDoorText
set_option linter.unusedVariables false
set_option linter.unusedSimpArgs false
set_option linter.unusedSectionVars false
set_option maxRecDepth 100000
namespace Go.Proofs.YtjdkkabcenohcaaDoor
open Go.RowKit
structure Event where
  who : Int
  thing : Int
  kind : Int
  value : Int
deriving DecidableEq
def Event.z : Event := ⟨0, 0, 0, 0⟩
def encEvent (x : Event) : List Value := (Value.int .i64 x.who :: (Value.int .i64 x.thing :: (Value.int .i64 x.kind :: (Value.int .i64 x.value :: []))))
theorem lenEvent (x : Event) : (encEvent x).length = 4 := rfl
theorem eqEvent (x y : Event) : eqCells [true, true, true, true] (encEvent x) (encEvent y) = some (decide (x = y)) := by
  cases x; cases y; simp [encEvent, eqCells, Event.mk.injEq, Bool.beq_eq_decide_eq]
theorem oneEvent : ∀ x, ∀ v ∈ encEvent x, v.oneCell' = true := fun x => (one_cons rfl (one_cons rfl (one_cons rfl (one_cons rfl one_nil))))
structure Call where
  who : Int
  thing : Int
  kind : Int
  arg : Int
  res : Int
  from_ : Int
  to_ : Int
deriving DecidableEq
def Call.z : Call := ⟨0, 0, 0, 0, 0, 0, 0⟩
def encCall (x : Call) : List Value := (Value.int .i64 x.who :: (Value.int .i64 x.thing :: (Value.int .i64 x.kind :: (Value.int .i64 x.arg :: (Value.int .i64 x.res :: (Value.int .i64 x.from_ :: (Value.int .i64 x.to_ :: [])))))))
theorem lenCall (x : Call) : (encCall x).length = 7 := rfl
theorem eqCall (x y : Call) : eqCells [true, true, true, true, true, true, true] (encCall x) (encCall y) = some (decide (x = y)) := by
  cases x; cases y; simp [encCall, eqCells, Call.mk.injEq, Bool.beq_eq_decide_eq]
theorem oneCall : ∀ x, ∀ v ∈ encCall x, v.oneCell' = true := fun x => (one_cons rfl (one_cons rfl (one_cons rfl (one_cons rfl (one_cons rfl (one_cons rfl (one_cons rfl one_nil)))))))
theorem cells3 : Tryd.prog.cellsOf 3 = 0 + 1 := by kernel_rfl
theorem cells5 : Tryd.prog.cellsOf 5 = 0 + 1 := by kernel_rfl
theorem cells9 : Tryd.prog.cellsOf 9 = 0 + 1 := by kernel_rfl
theorem cells22 : Tryd.prog.cellsOf 22 = 0 + 1 := by kernel_rfl
theorem cells32 : Tryd.prog.cellsOf 32 = 3 + 1 := by kernel_rfl
theorem cells41 : Tryd.prog.cellsOf 41 = 0 + 1 := by kernel_rfl
theorem cells44 : Tryd.prog.cellsOf 44 = 0 + 1 := by kernel_rfl
theorem cells45 : Tryd.prog.cellsOf 45 = 0 + 1 := by kernel_rfl
theorem cells68 : Tryd.prog.cellsOf 68 = 7 + 1 := by kernel_rfl
theorem cells81 : Tryd.prog.cellsOf 81 = 6 + 1 := by kernel_rfl
theorem isGo15 : IsGo Tryd.prog 15 := ⟨_, Tryd.func15, by kernel_rfl, rfl⟩
theorem isGo16 : IsGo Tryd.prog 16 := ⟨_, Tryd.func16, by kernel_rfl, rfl⟩
theorem isGo17 : IsGo Tryd.prog 17 := ⟨_, Tryd.func17, by kernel_rfl, rfl⟩
theorem isGo18 : IsGo Tryd.prog 18 := ⟨_, Tryd.func18, by kernel_rfl, rfl⟩
theorem isGo19 : IsGo Tryd.prog 19 := ⟨_, Tryd.func19, by kernel_rfl, rfl⟩
theorem isGo20 : IsGo Tryd.prog 20 := ⟨_, Tryd.func20, by kernel_rfl, rfl⟩
theorem isGo21 : IsGo Tryd.prog 21 := ⟨_, Tryd.func21, by kernel_rfl, rfl⟩
theorem isGo32 : IsGo Tryd.prog 32 := ⟨_, Tryd.func32, by kernel_rfl, rfl⟩
theorem isGo33 : IsGo Tryd.prog 33 := ⟨_, Tryd.func33, by kernel_rfl, rfl⟩
theorem isGo34 : IsGo Tryd.prog 34 := ⟨_, Tryd.func34, by kernel_rfl, rfl⟩
theorem isGo41 : IsGo Tryd.prog 41 := ⟨_, Tryd.func41, by kernel_rfl, rfl⟩
theorem isGo42 : IsGo Tryd.prog 42 := ⟨_, Tryd.func42, by kernel_rfl, rfl⟩
theorem isGo43 : IsGo Tryd.prog 43 := ⟨_, Tryd.func43, by kernel_rfl, rfl⟩
theorem isGo44 : IsGo Tryd.prog 44 := ⟨_, Tryd.func44, by kernel_rfl, rfl⟩
theorem isGo45 : IsGo Tryd.prog 45 := ⟨_, Tryd.func45, by kernel_rfl, rfl⟩
theorem isGo55 : IsGo Tryd.prog 55 := ⟨_, Tryd.func55, by kernel_rfl, rfl⟩
theorem isGo56 : IsGo Tryd.prog 56 := ⟨_, Tryd.func56, by kernel_rfl, rfl⟩
theorem zero32 : ∃ i, Tryd.prog.info? 32 = some i ∧ i.zero = some (Value.agg #[(Value.int .i64 0), (Value.int .i64 0), (Value.int .i64 0), (Value.int .i64 0)]) := ⟨_, rfl, by kernel_rfl⟩
theorem zero47 : ∃ i, Tryd.prog.info? 47 = some i ∧ i.zero = some (Value.agg #[(Value.pointer none), (Value.slice none 0 0)]) := ⟨_, rfl, by kernel_rfl⟩
theorem bz5 : ∃ i, Tryd.prog.info? 5 = some i ∧ i.zero = some (Value.int .u8 0) ∧ i.size = 1 := ⟨_, rfl, by kernel_rfl, by kernel_rfl⟩
theorem bz9 : ∃ i, Tryd.prog.info? 9 = some i ∧ i.zero = some (Value.string ⟨#[]⟩) ∧ i.size = 1 := ⟨_, rfl, by kernel_rfl, by kernel_rfl⟩
theorem bz81 : ∃ i, Tryd.prog.info? 81 = some i ∧ i.zero = some (Value.agg #[(Value.int .i64 0), (Value.int .i64 0), (Value.int .i64 0), (Value.int .i64 0), (Value.int .i64 0), (Value.int .i64 0), (Value.int .i64 0)]) ∧ i.size = 7 := ⟨_, rfl, by kernel_rfl, by kernel_rfl⟩
theorem ap81 : ∃ i z, Tryd.prog.info? 81 = some i ∧ i.zero = some z ∧ i.size = 7 ∧ i.bytes = 56 ∧ z.cells.size = 7 ∧ 0 < 7 := ⟨_, (Value.agg #[(Value.int .i64 0), (Value.int .i64 0), (Value.int .i64 0), (Value.int .i64 0), (Value.int .i64 0), (Value.int .i64 0), (Value.int .i64 0)]), rfl, by kernel_rfl, by kernel_rfl, by kernel_rfl, by kernel_rfl, by decide⟩
theorem shape70 : Shape Tryd.prog 70 [(0, 1), (1, 1), (2, 8)] #[(Value.slice none 0 0), (Value.slice none 0 0), (Value.int .i64 0), (Value.int .i64 0), (Value.int .i64 0), (Value.int .i64 0), (Value.int .i64 0), (Value.int .i64 0), (Value.int .i64 0), (Value.int .i64 0)] := ⟨_, _, Value.agg #[(Value.slice none 0 0), (Value.slice none 0 0), (Value.int .i64 0), (Value.int .i64 0), (Value.int .i64 0), (Value.int .i64 0), (Value.int .i64 0), (Value.int .i64 0), (Value.int .i64 0), (Value.int .i64 0)], Tryd.underlying70, rfl, by kernel_rfl, rfl, by kernel_rfl, by decide⟩
theorem shape81 : Shape Tryd.prog 81 [(0, 1), (1, 1), (2, 1), (3, 1), (4, 1), (5, 1), (6, 1)] #[(Value.int .i64 0), (Value.int .i64 0), (Value.int .i64 0), (Value.int .i64 0), (Value.int .i64 0), (Value.int .i64 0), (Value.int .i64 0)] := ⟨_, _, Value.agg #[(Value.int .i64 0), (Value.int .i64 0), (Value.int .i64 0), (Value.int .i64 0), (Value.int .i64 0), (Value.int .i64 0), (Value.int .i64 0)], Tryd.underlying81, rfl, by kernel_rfl, rfl, by kernel_rfl, by decide⟩
def shren : Go.Shelf.Ren := ⟨fun x => match x with | 129 => 67 | 171 => 18 | 243 => 35 | 246 => 47 | 283 => 57 | 284 => 58 | 285 => 59 | 286 => 60 | 317 => 66 | 318 => 68 | 319 => 69 | 320 => 70 | 337 => 76 | 338 => 77 | 172 => 48 | 205 => 80 | 244 => 61 | 245 => 62 | 247 => 71 | 279 => 72 | 280 => 73 | 281 => 74 | 282 => 75 | 287 => 78 | 316 => 79 | 321 => 81 | 322 => 82 | 138 => 11 | 143 => 28 | 146 => 13 | 195 => 26 | 197 => 53 | 217 => 49 | 218 => 27 | 219 => 38 | 221 => 30 | 224 => 51 | 225 => 50 | 260 => 65 | 266 => 63 | 267 => 52 | 268 => 39 | 314 => 64 | 100 => 12 | 207 => 29 | 156 => 14 | 165 => 31 | 166 => 16 | 169 => 21 | 240 => 34 | 241 => 40 | 276 => 46 | 277 => 54 | n => n, fun x => match x with | 37 => 45 | 46 => 87 | 51 => 99 | 53 => 93 | 171 => 92 | 173 => 96 | 212 => 103 | 213 => 104 | 232 => 123 | 233 => 124 | 75 => 49 | 76 => 50 | 80 => 55 | 85 => 107 | 127 => 72 | 143 => 126 | 145 => 128 | 167 => 106 | 168 => 109 | 175 => 117 | 210 => 121 | 31 => 38 | 105 => 88 | 119 => 112 | 138 => 114 | 139 => 115 | 146 => 100 | 70 => 44 | 72 => 47 | 164 => 83 | n => n, fun x => match x with | 17 => 1 | 18 => 6 | 19 => 7 | 15 => 4 | 16 => 5 | 1 => 0 | 3 => 2 | 4 => 3 | n => n⟩
abbrev GOkS (w : World) : Prop := GOk Tryd.prog 4 5 0 w

def history_Types_1 (N : Nat) (t1 : Int) : Option Unit :=
  some ()

theorem history_Types_1_ok {N : Nat} {t1 : Int} {res : Unit} (hF : history_Types_1 N t1 = some res) (w : World) :
    Pure Tryd.prog 41 [.int .i64 t1] w (.bool ((decide (t1 < 1)) || (decide (5 < t1)))) := by
  refine W.enter (n := 9) Tryd.func41 rfl rfl Sub.refl (by simp) (St.start w) fun R hR => ?_
  unfold history_Types_1 at hF
  refine W.seqR fun Q1 hQ1 => ?_
  refine WL.q (Y.assign (.pl rfl)) rfl ?_
  refine WL.next hQ1 (.cons (i := 0) rfl (.nil)) ?_
  refine W.seqR fun Q2 hQ2 => ?_
  refine WL.q (Y.move (.pl rfl)) rfl ?_
  refine WL.q (Y.lss (.pl rfl) (.pl rfl)) rfl ?_
  refine WL.q (Y.move (.pl rfl)) rfl ?_
  refine WL.g (.pl rfl rfl rfl) (fun hg => Y.move (.pl rfl)) rfl ?_
  refine WL.g (.pl rfl rfl rfl) (fun hg => Y.gtr (.gd (hg) rfl) (.pl rfl)) rfl ?_
  refine WL.q (Y.or (.pl rfl) (fun h2 => .gd (eqf h2) rfl)) rfl ?_
  refine WL.q (Y.assign (.pl rfl)) rfl ?_
  refine WL.next hQ2 (.cons (i := 2) rfl (.nil)) ?_
  obtain rfl := Option.some.inj hF
  refine W.retV (fn := Tryd.f41) (vs := [.bool ((decide (t1 < 1)) || (decide (5 < t1)))]) Tryd.results41 ⟨.tmp rfl, trivial⟩ (fun _ _ h => h) (fun wz hw => ?_)
  exact hR _ _ ⟨rfl, (hw.pick [] rfl)⟩

def slices_IndexFunc_int_int_L3 (N : Nat) (s1 : (List Int)) : Int → Option (Int ⊕ (Unit ⊕ Int))
  | v6 =>
    cond (decide (v6 < ((s1).length : Int)))
      (bd (ix s1 v6) fun (x7 : Int) =>
      bd (history_Types_1 N x7) fun (r8 : Unit) =>
      cond ((decide (x7 < 1)) || (decide (5 < x7)))
        (some (.inr (.inr v6)))
        (ck (ok64 (v6 + 1)) <|
        some (.inl (v6 + 1))))
      (some (.inr (.inl ())))

def slices_IndexFunc_int_int (N : Nat) (s1 : (List Int)) : Option Int :=
  bd (α := (Unit ⊕ Int)) (iter (slices_IndexFunc_int_int_L3 N s1) N 0) <|
  Sum.elim (fun _ => 
    some (-1)) (fun p => some p)

theorem slices_IndexFunc_int_int_ok {N : Nat} {s1 : (List Int)} {res : Int} (hF : slices_IndexFunc_int_int N s1 = some res) (w : World) {v5 : Value} (hs4 : SlIn (eI .i64) 1 w v5 s1) :
    Pure Tryd.prog 55 [v5, .func (.func 41) #[] #[]] w (.int .i64 res) := by
  obtain ⟨A2, c3, rfl, hcc3, hs4⟩ := hs4.form
  refine W.enter (n := 19) Tryd.func55 rfl rfl Sub.refl (by simp) (St.start w) fun R hR => ?_
  unfold slices_IndexFunc_int_int at hF
  refine W.seqR fun Q1 hQ1 => ?_
  refine WL.q (Y.assign (.pl rfl)) rfl ?_
  refine WL.next hQ1 (.cons (i := 0) rfl (.cons (i := 1) rfl (.nil))) ?_
  obtain ⟨o2, hF2, hF⟩ := bnd hF
  refine W.join0 (Em := []) (M := []) (I := (.inl ()) = o2) (.nil) (fun K3 hK3 => ?_) ?_
  · -- up to
    refine W.seqR fun Q4 hQ4 => ?_
    refine WL.q (Y.move (.pl rfl)) rfl ?_
    refine WL.q (Y.len Tryd.underlying22 (.pl rfl)) rfl ?_
    refine WL.q (Y.move (.pl rfl)) rfl ?_
    refine WL.next hQ4 (.cons (i := 0) rfl (.cons (i := 1) rfl (.cons (i := 7) rfl (.cons (i := 8) rfl (.nil))))) ?_
    refine W.block ?_
    refine W.loop1 (Em := fun (v6 : Int) => [(8, .int .i64 v6)]) (M := fun v6 => []) (I := fun v6 k5 => iter (slices_IndexFunc_int_int_L3 N s1) k5 v6 = some o2) 0 N (hF2) (.cons rfl (.nil)) (.cons (i := 0) rfl (.cons (i := 1) rfl (.cons (i := 7) rfl (.nil)))) (fun wz hw => hw.pick [] rfl) (fun v6 k5 hI K6 hK6 => ?_)
    obtain ⟨k5, t5, rfl, hF5, hN5⟩ := iter_step hI
    refine W.seqR fun Q7 hQ7 => ?_
    refine WL.q (Y.lss (.pl rfl) (.pl rfl)) rfl ?_
    refine WL.next hQ7 (.cons (i := 0) rfl (.cons (i := 1) rfl (.cons (i := 7) rfl (.cons (i := 8) rfl (.cons (i := 9) rfl (.nil)))))) ?_
    refine W.seq fun K8 hK8 => ?_
    refine W.cond (.pl rfl) (fun hC9 => ?_) (fun hC9 => ?_)
    · replace hF5 := cpos hC9 hF5
      refine W.skip ?_
      refine W.go hK8 (.cons (i := 0) rfl (.cons (i := 1) rfl (.cons (i := 7) rfl (.cons (i := 8) rfl (.nil))))) ?_
      refine W.seq fun K10 hK10 => ?_
      refine W.block ?_
      refine W.seqR fun Q11 hQ11 => ?_
      refine WL.q (Y.move (.pl rfl)) rfl ?_
      refine WL.q (Y.assign (.pl rfl)) rfl ?_
      refine WL.next hQ11 (.cons (i := 0) rfl (.cons (i := 1) rfl (.cons (i := 5) rfl (.cons (i := 7) rfl (.cons (i := 8) rfl (.nil)))))) ?_
      refine W.seqR fun Q12 hQ12 => ?_
      refine WL.q (Y.move (.pl rfl)) rfl ?_
      refine WL.q (Y.move (.pl rfl)) rfl ?_
      refine WL.q (Y.move (.pl rfl)) rfl ?_
      obtain ⟨x7, hx7, hF5⟩ := bnd hF5
      refine WL.q (Y.slEl Tryd.underlying22 cells3 hs4 (.pl rfl) (.pl rfl) (ix_lt (hx7))) rfl ?_
      refine WL.q (Y.loadS (enc := (eI .i64)) (v := .int .i64 x7) (j := 0) Tryd.underlying3 rfl hs4 (.pl rfl) (hx7) rfl rfl) rfl ?_
      obtain ⟨r8, hr8, hF5⟩ := bnd hF5
      refine WL.step (WO.callG (γ := Unit) (first := []) (cap := []) (fun g => .bool ((decide (x7 < 1)) || (decide (5 < x7)))) (fun g => []) (fun g => True) isGo41 (.pl rfl) (.cons (.pl rfl) (.nil)) rfl (fun wz hw => (history_Types_1_ok (hr8) wz ).calls hw) ?_)
      rintro _ -
      refine WL.next hQ12 (.cons (i := 0) rfl (.cons (i := 1) rfl (.cons (i := 5) rfl (.cons (i := 7) rfl (.cons (i := 8) rfl (.cons (i := 16) rfl (.nil))))))) ?_
      refine W.cond (.pl rfl) (fun hC13 => ?_) (fun hC13 => ?_)
      · replace hF5 := cpos hC13 hF5
        refine W.seqR fun Q14 hQ14 => ?_
        refine WL.q (Y.move (.pl rfl)) rfl ?_
        refine WL.q (Y.assign (.pl rfl)) rfl ?_
        refine WL.next hQ14 (.cons (i := 4) rfl (.nil)) ?_
        obtain rfl := Option.some.inj hF5
        obtain rfl := einr hN5
        obtain rfl := Option.some.inj hF
        refine W.retV (fn := Tryd.f55) (vs := [.int .i64 v6]) Tryd.results55 ⟨.tmp rfl, trivial⟩ (fun _ _ h => h) (fun wz hw => ?_)
        exact hR _ _ ⟨rfl, (hw.pick [] rfl)⟩
      · replace hF5 := cneg hC13 hF5
        refine W.skip ?_
        refine W.go hK10 (.cons (i := 0) rfl (.cons (i := 1) rfl (.cons (i := 7) rfl (.cons (i := 8) rfl (.nil))))) ?_
        refine W.reg ?_
        obtain ⟨hk9, hF5⟩ := ckh hF5
        refine WL.q (Y.add (.pl rfl) (.pl rfl) (ok64_lt (hk9))) rfl ?_
        refine WL.q (Y.move (.pl rfl)) rfl ?_
        refine WL.nil ?_
        obtain rfl := Option.some.inj hF5
        exact W.again1 hK6 (v6 + 1) k5 hN5 (Nat.lt_succ_self _) (.cons rfl (.nil)) (.cons (i := 0) rfl (.cons (i := 1) rfl (.cons (i := 7) rfl (.nil)))) (fun wz hw => hw.pick [] rfl)
    · replace hF5 := cneg hC9 hF5
      refine W.exit ?_
      obtain rfl := Option.some.inj hF5
      exact W.joinAt0 hK3  (einr hN5) (.nil) (.nil) (fun wz hw => hw.pick [] rfl)
  · -- behind
    rintro  rfl
    refine W.seqR fun Q16 hQ16 => ?_
    refine WL.q (Y.assign (.pl rfl)) rfl ?_
    refine WL.next hQ16 (.cons (i := 4) rfl (.nil)) ?_
    obtain rfl := Option.some.inj hF
    refine W.retV (fn := Tryd.f55) (vs := [.int .i64 (-1)]) Tryd.results55 ⟨.tmp rfl, trivial⟩ (fun _ _ h => h) (fun wz hw => ?_)
    exact hR _ _ ⟨rfl, (hw.pick [] rfl)⟩

def slices_ContainsFunc_int_int (N : Nat) (s1 : (List Int)) : Option Bool :=
  bd (slices_IndexFunc_int_int N s1) fun (r6 : Int) =>
  some (decide (0 ≤ r6))

theorem slices_ContainsFunc_int_int_ok {N : Nat} {s1 : (List Int)} {res : Bool} (hF : slices_ContainsFunc_int_int N s1 = some res) (w : World) {v5 : Value} (hs4 : SlIn (eI .i64) 1 w v5 s1) :
    Pure Tryd.prog 42 [v5, .func (.func 41) #[] #[]] w (.bool res) := by
  obtain ⟨A2, c3, rfl, hcc3, hs4⟩ := hs4.form
  refine W.enter (n := 9) Tryd.func42 rfl rfl Sub.refl (by simp) (St.start w) fun R hR => ?_
  unfold slices_ContainsFunc_int_int at hF
  refine W.seqR fun Q1 hQ1 => ?_
  refine WL.q (Y.assign (.pl rfl)) rfl ?_
  refine WL.next hQ1 (.cons (i := 0) rfl (.cons (i := 1) rfl (.nil))) ?_
  refine W.seqR fun Q2 hQ2 => ?_
  refine WL.q (Y.move (.pl rfl)) rfl ?_
  refine WL.q (Y.move (.pl rfl)) rfl ?_
  obtain ⟨r6, hr6, hF⟩ := bnd hF
  refine WL.step (WO.callP isGo55 (.cons (.pl rfl) (.cons (.pl rfl) (.nil))) rfl (fun wz hw => slices_IndexFunc_int_int_ok (hr6) wz (hs4.mono hw)) ?_)
  refine WL.q (Y.geq (.pl rfl) (.pl rfl)) rfl ?_
  refine WL.q (Y.assign (.pl rfl)) rfl ?_
  refine WL.next hQ2 (.cons (i := 4) rfl (.nil)) ?_
  obtain rfl := Option.some.inj hF
  refine W.retV (fn := Tryd.f42) (vs := [.bool (decide (0 ≤ r6))]) Tryd.results42 ⟨.tmp rfl, trivial⟩ (fun _ _ h => h) (fun wz hw => ?_)
  exact hR _ _ ⟨rfl, (hw.pick [] rfl)⟩

def history_Types (N : Nat) (types1 : (List Int)) : Option Int :=
  bd ((cond (((decide (((types1).length : Int) < 1)) || (decide (4 < ((types1).length : Int)))) == false) (slices_ContainsFunc_int_int N types1) (some false))) fun (r6 : Bool) =>
  cond (((decide (((types1).length : Int) < 1)) || (decide (4 < ((types1).length : Int)))) || r6)
    (some 1)
    (some 0)

theorem history_Types_ok {N : Nat} {types1 : (List Int)} {res : Int} (hF : history_Types N types1 = some res) (w : World) {v5 : Value} (hs4 : SlIn (eI .i64) 1 w v5 types1) :
    Pure Tryd.prog 32 [v5] w (.int .i64 res) := by
  obtain ⟨A2, c3, rfl, hcc3, hs4⟩ := hs4.form
  refine W.enter (n := 17) Tryd.func32 rfl rfl Sub.refl (by simp) (St.start w) fun R hR => ?_
  unfold history_Types at hF
  refine W.seqR fun Q1 hQ1 => ?_
  refine WL.q (Y.assign (.pl rfl)) rfl ?_
  refine WL.next hQ1 (.cons (i := 0) rfl (.nil)) ?_
  refine W.seqR fun Q2 hQ2 => ?_
  refine WL.q (Y.assign (.pl rfl)) rfl ?_
  refine WL.next hQ2 (.cons (i := 0) rfl (.cons (i := 3) rfl (.nil))) ?_
  refine W.seq fun K3 hK3 => ?_
  refine W.seqR fun Q4 hQ4 => ?_
  refine WL.q (Y.move (.pl rfl)) rfl ?_
  refine WL.q (Y.len Tryd.underlying22 (.pl rfl)) rfl ?_
  refine WL.q (Y.lss (.pl rfl) (.pl rfl)) rfl ?_
  refine WL.q (Y.move (.pl rfl)) rfl ?_
  refine WL.g (.pl rfl rfl rfl) (fun hg => Y.move (.pl rfl)) rfl ?_
  refine WL.g (.pl rfl rfl rfl) (fun hg => Y.len Tryd.underlying22 (.gd (hg) rfl)) rfl ?_
  refine WL.g (.pl rfl rfl rfl) (fun hg => Y.gtr (.gd (hg) rfl) (.pl rfl)) rfl ?_
  refine WL.q (Y.or (.pl rfl) (fun h2 => .gd (eqf h2) rfl)) rfl ?_
  refine WL.q (Y.move (.pl rfl)) rfl ?_
  refine WL.g (.pl rfl rfl rfl) (fun hg => Y.move (.pl rfl)) rfl ?_
  refine WL.g (.pl rfl rfl rfl) (fun hg => Y.move (.pl rfl)) rfl ?_
  obtain ⟨r6, hr6, hF⟩ := bnd hF
  refine WL.gP (.pl rfl rfl rfl) isGo42 (fun hg => (.cons (.gd (hg) rfl) (.cons (.gd (hg) rfl) (.nil)))) rfl (fun hg wz hw => slices_ContainsFunc_int_int_ok (gpos hg hr6) wz (hs4.mono hw)) ?_
  refine WL.q (Y.or (.pl rfl) (fun h2 => .gd (eqf h2) rfl)) rfl ?_
  refine WL.next hQ4 (.cons (i := 16) rfl (.nil)) ?_
  refine W.cond (.pl rfl) (fun hC5 => ?_) (fun hC5 => ?_)
  · replace hF := cpos hC5 hF
    refine W.seqR fun Q6 hQ6 => ?_
    refine WL.q (Y.assign (.pl rfl)) rfl ?_
    refine WL.next hQ6 (.cons (i := 2) rfl (.nil)) ?_
    obtain rfl := Option.some.inj hF
    refine W.retV (fn := Tryd.f32) (vs := [.int .i64 1]) Tryd.results32 ⟨.tmp rfl, trivial⟩ (fun _ _ h => h) (fun wz hw => ?_)
    exact hR _ _ ⟨rfl, (hw.pick [] rfl)⟩
  · replace hF := cneg hC5 hF
    refine W.skip ?_
    refine W.go hK3 (.nil) ?_
    refine W.seqR fun Q7 hQ7 => ?_
    refine WL.q (Y.assign (.pl rfl)) rfl ?_
    refine WL.next hQ7 (.cons (i := 2) rfl (.nil)) ?_
    obtain rfl := Option.some.inj hF
    refine W.retV (fn := Tryd.f32) (vs := [.int .i64 0]) Tryd.results32 ⟨.tmp rfl, trivial⟩ (fun _ _ h => h) (fun wz hw => ?_)
    exact hR _ _ ⟨rfl, (hw.pick [] rfl)⟩

def history_typeOf (N : Nat) (kind1 : Int) : Option Int :=
  bd (α := Bool) (cond (decide (kind1 = 1))
      (some (decide (kind1 = 1)))
      (some (decide (kind1 = 2)))) <|
  fun (v2 : Bool) => 
    cond v2
      (some 1)
      (bd (α := Bool) (cond (decide (kind1 = 3))
          (some (decide (kind1 = 3)))
          (some (decide (kind1 = 4)))) <|
      fun (v3 : Bool) => 
        cond v3
          (some 2)
          (bd (α := Bool) (cond (decide (kind1 = 5))
              (some (decide (kind1 = 5)))
              (some (decide (kind1 = 6)))) <|
          fun (v4 : Bool) => 
            cond v4
              (some 3)
              (bd (α := Bool) (cond (decide (kind1 = 7))
                  (some (decide (kind1 = 7)))
                  (cond (decide (kind1 = 8))
                    (some (decide (kind1 = 8)))
                    (some (decide (kind1 = 9))))) <|
              fun (v5 : Bool) => 
                cond v5
                  (some 4)
                  (cond (decide (kind1 = 10))
                    (some 5)
                    (some 0)))))

theorem history_typeOf_ok {N : Nat} {kind1 : Int} {res : Int} (hF : history_typeOf N kind1 = some res) (w : World) :
    Pure Tryd.prog 56 [.int .i64 kind1] w (.int .i64 res) := by
  refine W.enter (n := 19) Tryd.func56 rfl rfl Sub.refl (by simp) (St.start w) fun R hR => ?_
  unfold history_typeOf at hF
  refine W.seqR fun Q1 hQ1 => ?_
  refine WL.q (Y.assign (.pl rfl)) rfl ?_
  refine WL.next hQ1 (.cons (i := 0) rfl (.nil)) ?_
  refine W.seq fun K2 hK2 => ?_
  refine W.seqR fun Q3 hQ3 => ?_
  refine WL.q (Y.move (.pl rfl)) rfl ?_
  refine WL.next hQ3 (.cons (i := 3) rfl (.nil)) ?_
  refine W.block ?_
  obtain ⟨o4, hF4, hF⟩ := bnd hF
  refine W.join1 (Em := fun (v2 : Bool) => [(4, .bool v2)]) (M := fun v2 => []) (I := fun v2 => v2 = o4) (.cons (i := 3) rfl (.nil)) (fun K5 hK5 => ?_) ?_
  · -- up to
    refine W.seqR fun Q6 hQ6 => ?_
    refine WL.q (Y.eql (.pl rfl) (.pl rfl)) rfl ?_
    refine WL.q (Y.assign (.pl rfl)) rfl ?_
    refine WL.next hQ6 (.cons (i := 3) rfl (.cons (i := 4) rfl (.nil))) ?_
    refine W.cond (.pl rfl) (fun hC7 => ?_) (fun hC7 => ?_)
    · replace hF4 := cpos hC7 hF4
      refine W.skip ?_
      exact W.joinAt1 hK5 (decide (kind1 = 1)) (Option.some.inj hF4) (.cons rfl (.nil)) (.cons (i := 3) rfl (.nil)) (fun wz hw => hw.pick [] rfl)
    · replace hF4 := cneg hC7 hF4
      refine W.reg ?_
      refine WL.q (Y.eql (.pl rfl) (.pl rfl)) rfl ?_
      refine WL.q (Y.assign (.pl rfl)) rfl ?_
      refine WL.nil ?_
      exact W.joinAt1 hK5 (decide (kind1 = 2)) (Option.some.inj hF4) (.cons rfl (.nil)) (.cons (i := 3) rfl (.nil)) (fun wz hw => hw.pick [] rfl)
  · -- behind
    rintro v2 rfl
    refine W.cond (.pl rfl) (fun hC9 => ?_) (fun hC9 => ?_)
    · replace hF := cpos hC9 hF
      refine W.seqR fun Q10 hQ10 => ?_
      refine WL.q (Y.assign (.pl rfl)) rfl ?_
      refine WL.next hQ10 (.cons (i := 2) rfl (.nil)) ?_
      obtain rfl := Option.some.inj hF
      refine W.retV (fn := Tryd.f56) (vs := [.int .i64 1]) Tryd.results56 ⟨.tmp rfl, trivial⟩ (fun _ _ h => h) (fun wz hw => ?_)
      exact hR _ _ ⟨rfl, (hw.pick [] rfl)⟩
    · replace hF := cneg hC9 hF
      obtain ⟨o11, hF11, hF⟩ := bnd hF
      refine W.join1 (Em := fun (v3 : Bool) => [(7, .bool v3)]) (M := fun v3 => []) (I := fun v3 => v3 = o11) (.cons (i := 3) rfl (.nil)) (fun K12 hK12 => ?_) ?_
      · -- up to
        refine W.seqR fun Q13 hQ13 => ?_
        refine WL.q (Y.eql (.pl rfl) (.pl rfl)) rfl ?_
        refine WL.q (Y.assign (.pl rfl)) rfl ?_
        refine WL.next hQ13 (.cons (i := 3) rfl (.cons (i := 7) rfl (.nil))) ?_
        refine W.cond (.pl rfl) (fun hC14 => ?_) (fun hC14 => ?_)
        · replace hF11 := cpos hC14 hF11
          refine W.skip ?_
          exact W.joinAt1 hK12 (decide (kind1 = 3)) (Option.some.inj hF11) (.cons rfl (.nil)) (.cons (i := 3) rfl (.nil)) (fun wz hw => hw.pick [] rfl)
        · replace hF11 := cneg hC14 hF11
          refine W.reg ?_
          refine WL.q (Y.eql (.pl rfl) (.pl rfl)) rfl ?_
          refine WL.q (Y.assign (.pl rfl)) rfl ?_
          refine WL.nil ?_
          exact W.joinAt1 hK12 (decide (kind1 = 4)) (Option.some.inj hF11) (.cons rfl (.nil)) (.cons (i := 3) rfl (.nil)) (fun wz hw => hw.pick [] rfl)
      · -- behind
        rintro v3 rfl
        refine W.cond (.pl rfl) (fun hC16 => ?_) (fun hC16 => ?_)
        · replace hF := cpos hC16 hF
          refine W.seqR fun Q17 hQ17 => ?_
          refine WL.q (Y.assign (.pl rfl)) rfl ?_
          refine WL.next hQ17 (.cons (i := 2) rfl (.nil)) ?_
          obtain rfl := Option.some.inj hF
          refine W.retV (fn := Tryd.f56) (vs := [.int .i64 2]) Tryd.results56 ⟨.tmp rfl, trivial⟩ (fun _ _ h => h) (fun wz hw => ?_)
          exact hR _ _ ⟨rfl, (hw.pick [] rfl)⟩
        · replace hF := cneg hC16 hF
          obtain ⟨o18, hF18, hF⟩ := bnd hF
          refine W.join1 (Em := fun (v4 : Bool) => [(10, .bool v4)]) (M := fun v4 => []) (I := fun v4 => v4 = o18) (.cons (i := 3) rfl (.nil)) (fun K19 hK19 => ?_) ?_
          · -- up to
            refine W.seqR fun Q20 hQ20 => ?_
            refine WL.q (Y.eql (.pl rfl) (.pl rfl)) rfl ?_
            refine WL.q (Y.assign (.pl rfl)) rfl ?_
            refine WL.next hQ20 (.cons (i := 3) rfl (.cons (i := 10) rfl (.nil))) ?_
            refine W.cond (.pl rfl) (fun hC21 => ?_) (fun hC21 => ?_)
            · replace hF18 := cpos hC21 hF18
              refine W.skip ?_
              exact W.joinAt1 hK19 (decide (kind1 = 5)) (Option.some.inj hF18) (.cons rfl (.nil)) (.cons (i := 3) rfl (.nil)) (fun wz hw => hw.pick [] rfl)
            · replace hF18 := cneg hC21 hF18
              refine W.reg ?_
              refine WL.q (Y.eql (.pl rfl) (.pl rfl)) rfl ?_
              refine WL.q (Y.assign (.pl rfl)) rfl ?_
              refine WL.nil ?_
              exact W.joinAt1 hK19 (decide (kind1 = 6)) (Option.some.inj hF18) (.cons rfl (.nil)) (.cons (i := 3) rfl (.nil)) (fun wz hw => hw.pick [] rfl)
          · -- behind
            rintro v4 rfl
            refine W.cond (.pl rfl) (fun hC23 => ?_) (fun hC23 => ?_)
            · replace hF := cpos hC23 hF
              refine W.seqR fun Q24 hQ24 => ?_
              refine WL.q (Y.assign (.pl rfl)) rfl ?_
              refine WL.next hQ24 (.cons (i := 2) rfl (.nil)) ?_
              obtain rfl := Option.some.inj hF
              refine W.retV (fn := Tryd.f56) (vs := [.int .i64 3]) Tryd.results56 ⟨.tmp rfl, trivial⟩ (fun _ _ h => h) (fun wz hw => ?_)
              exact hR _ _ ⟨rfl, (hw.pick [] rfl)⟩
            · replace hF := cneg hC23 hF
              obtain ⟨o25, hF25, hF⟩ := bnd hF
              refine W.join1 (Em := fun (v5 : Bool) => [(13, .bool v5)]) (M := fun v5 => []) (I := fun v5 => v5 = o25) (.cons (i := 3) rfl (.nil)) (fun K26 hK26 => ?_) ?_
              · -- up to
                refine W.seqR fun Q27 hQ27 => ?_
                refine WL.q (Y.eql (.pl rfl) (.pl rfl)) rfl ?_
                refine WL.q (Y.assign (.pl rfl)) rfl ?_
                refine WL.next hQ27 (.cons (i := 3) rfl (.cons (i := 13) rfl (.nil))) ?_
                refine W.cond (.pl rfl) (fun hC28 => ?_) (fun hC28 => ?_)
                · replace hF25 := cpos hC28 hF25
                  refine W.skip ?_
                  exact W.joinAt1 hK26 (decide (kind1 = 7)) (Option.some.inj hF25) (.cons rfl (.nil)) (.cons (i := 3) rfl (.nil)) (fun wz hw => hw.pick [] rfl)
                · replace hF25 := cneg hC28 hF25
                  refine W.seqR fun Q29 hQ29 => ?_
                  refine WL.q (Y.eql (.pl rfl) (.pl rfl)) rfl ?_
                  refine WL.q (Y.assign (.pl rfl)) rfl ?_
                  refine WL.next hQ29 (.cons (i := 3) rfl (.cons (i := 13) rfl (.nil))) ?_
                  refine W.cond (.pl rfl) (fun hC30 => ?_) (fun hC30 => ?_)
                  · replace hF25 := cpos hC30 hF25
                    refine W.skip ?_
                    exact W.joinAt1 hK26 (decide (kind1 = 8)) (Option.some.inj hF25) (.cons rfl (.nil)) (.cons (i := 3) rfl (.nil)) (fun wz hw => hw.pick [] rfl)
                  · replace hF25 := cneg hC30 hF25
                    refine W.reg ?_
                    refine WL.q (Y.eql (.pl rfl) (.pl rfl)) rfl ?_
                    refine WL.q (Y.assign (.pl rfl)) rfl ?_
                    refine WL.nil ?_
                    exact W.joinAt1 hK26 (decide (kind1 = 9)) (Option.some.inj hF25) (.cons rfl (.nil)) (.cons (i := 3) rfl (.nil)) (fun wz hw => hw.pick [] rfl)
              · -- behind
                rintro v5 rfl
                refine W.cond (.pl rfl) (fun hC32 => ?_) (fun hC32 => ?_)
                · replace hF := cpos hC32 hF
                  refine W.seqR fun Q33 hQ33 => ?_
                  refine WL.q (Y.assign (.pl rfl)) rfl ?_
                  refine WL.next hQ33 (.cons (i := 2) rfl (.nil)) ?_
                  obtain rfl := Option.some.inj hF
                  refine W.retV (fn := Tryd.f56) (vs := [.int .i64 4]) Tryd.results56 ⟨.tmp rfl, trivial⟩ (fun _ _ h => h) (fun wz hw => ?_)
                  exact hR _ _ ⟨rfl, (hw.pick [] rfl)⟩
                · replace hF := cneg hC32 hF
                  refine W.seqR fun Q34 hQ34 => ?_
                  refine WL.q (Y.eql (.pl rfl) (.pl rfl)) rfl ?_
                  refine WL.q (Y.assign (.pl rfl)) rfl ?_
                  refine WL.next hQ34 (.cons (i := 17) rfl (.nil)) ?_
                  refine W.cond (.pl rfl) (fun hC35 => ?_) (fun hC35 => ?_)
                  · replace hF := cpos hC35 hF
                    refine W.seqR fun Q36 hQ36 => ?_
                    refine WL.q (Y.assign (.pl rfl)) rfl ?_
                    refine WL.next hQ36 (.cons (i := 2) rfl (.nil)) ?_
                    obtain rfl := Option.some.inj hF
                    refine W.retV (fn := Tryd.f56) (vs := [.int .i64 5]) Tryd.results56 ⟨.tmp rfl, trivial⟩ (fun _ _ h => h) (fun wz hw => ?_)
                    exact hR _ _ ⟨rfl, (hw.pick [] rfl)⟩
                  · replace hF := cneg hC35 hF
                    refine W.skip ?_
                    refine W.go hK2 (.nil) ?_
                    refine W.seqR fun Q37 hQ37 => ?_
                    refine WL.q (Y.assign (.pl rfl)) rfl ?_
                    refine WL.next hQ37 (.cons (i := 2) rfl (.nil)) ?_
                    obtain rfl := Option.some.inj hF
                    refine W.retV (fn := Tryd.f56) (vs := [.int .i64 0]) Tryd.results56 ⟨.tmp rfl, trivial⟩ (fun _ _ h => h) (fun wz hw => ?_)
                    exact hR _ _ ⟨rfl, (hw.pick [] rfl)⟩

def history_Fits (N : Nat) (typ1 : Int) (kind2 : Int) : Option Bool :=
  bd ((cond ((!(decide (typ1 = 0))) == true) (history_typeOf N kind2) (some 0))) fun (r3 : Int) =>
  some ((!(decide (typ1 = 0))) && (decide (r3 = typ1)))

theorem history_Fits_ok {N : Nat} {typ1 : Int} {kind2 : Int} {res : Bool} (hF : history_Fits N typ1 kind2 = some res) (w : World) :
    Pure Tryd.prog 43 [.int .i64 typ1, .int .i64 kind2] w (.bool res) := by
  refine W.enter (n := 13) Tryd.func43 rfl rfl Sub.refl (by simp) (St.start w) fun R hR => ?_
  unfold history_Fits at hF
  refine W.seqR fun Q1 hQ1 => ?_
  refine WL.q (Y.assign (.pl rfl)) rfl ?_
  refine WL.next hQ1 (.cons (i := 0) rfl (.cons (i := 1) rfl (.nil))) ?_
  refine W.seqR fun Q2 hQ2 => ?_
  refine WL.q (Y.move (.pl rfl)) rfl ?_
  refine WL.q (Y.neq (.pl rfl) (.pl rfl)) rfl ?_
  refine WL.q (Y.move (.pl rfl)) rfl ?_
  refine WL.g (.pl rfl rfl rfl) (fun hg => Y.move (.pl rfl)) rfl ?_
  obtain ⟨r3, hr3, hF⟩ := bnd hF
  refine WL.gP (.pl rfl rfl rfl) isGo56 (fun hg => (.cons (.gd (hg) rfl) (.nil))) rfl (fun hg wz hw => history_typeOf_ok (gpos hg hr3) wz ) ?_
  refine WL.g (.pl rfl rfl rfl) (fun hg => Y.move (.pl rfl)) rfl ?_
  refine WL.g (.pl rfl rfl rfl) (fun hg => Y.eql (.gd (hg) rfl) (.gd (hg) rfl)) rfl ?_
  refine WL.q (Y.and (.pl rfl) (fun h2 => .gd (eqt h2) rfl)) rfl ?_
  refine WL.q (Y.assign (.pl rfl)) rfl ?_
  refine WL.next hQ2 (.cons (i := 4) rfl (.nil)) ?_
  obtain rfl := Option.some.inj hF
  refine W.retV (fn := Tryd.f43) (vs := [.bool ((!(decide (typ1 = 0))) && (decide (r3 = typ1)))]) Tryd.results43 ⟨.tmp rfl, trivial⟩ (fun _ _ h => h) (fun wz hw => ?_)
  exact hR _ _ ⟨rfl, (hw.pick [] rfl)⟩

def history_Argument (N : Nat) (kind1 : Int) (n2 : Int) : Option Bool :=
  bd (α := (Unit ⊕ Bool)) (cond (decide (kind1 = 2))
      (cond (decide (kind1 = 2))
        (some (.inr (decide (n2 = 0))))
        (some (.inl ())))
      (cond (decide (kind1 = 4))
        (cond (decide (kind1 = 4))
          (some (.inr (decide (n2 = 0))))
          (some (.inl ())))
        (cond (decide (kind1 = 6))
          (cond (decide (kind1 = 6))
            (some (.inr (decide (n2 = 0))))
            (some (.inl ())))
          (cond (decide (kind1 = 10))
            (some (.inr (decide (n2 = 0))))
            (some (.inl ())))))) <|
  Sum.elim (fun _ => 
    some ((decide (1 ≤ n2)) && (decide (n2 ≤ 1000)))) (fun p => some p)

theorem history_Argument_ok {N : Nat} {kind1 : Int} {n2 : Int} {res : Bool} (hF : history_Argument N kind1 n2 = some res) (w : World) :
    Pure Tryd.prog 44 [.int .i64 kind1, .int .i64 n2] w (.bool res) := by
  refine W.enter (n := 19) Tryd.func44 rfl rfl Sub.refl (by simp) (St.start w) fun R hR => ?_
  unfold history_Argument at hF
  refine W.seqR fun Q1 hQ1 => ?_
  refine WL.q (Y.assign (.pl rfl)) rfl ?_
  refine WL.next hQ1 (.cons (i := 0) rfl (.cons (i := 1) rfl (.nil))) ?_
  obtain ⟨o2, hF2, hF⟩ := bnd hF
  refine W.join0 (Em := []) (M := []) (I := (.inl ()) = o2) (.cons (i := 1) rfl (.nil)) (fun K3 hK3 => ?_) ?_
  · -- up to
    refine W.seqR fun Q4 hQ4 => ?_
    refine WL.q (Y.move (.pl rfl)) rfl ?_
    refine WL.next hQ4 (.cons (i := 1) rfl (.cons (i := 5) rfl (.nil))) ?_
    refine W.block ?_
    refine W.seq fun K5 hK5 => ?_
    refine W.seqR fun Q6 hQ6 => ?_
    refine WL.q (Y.eql (.pl rfl) (.pl rfl)) rfl ?_
    refine WL.q (Y.assign (.pl rfl)) rfl ?_
    refine WL.next hQ6 (.cons (i := 1) rfl (.cons (i := 5) rfl (.cons (i := 6) rfl (.nil)))) ?_
    refine W.cond (.pl rfl) (fun hC7 => ?_) (fun hC7 => ?_)
    · replace hF2 := cpos hC7 hF2
      refine W.skip ?_
      refine W.go hK5 (.cons (i := 1) rfl (.cons (i := 6) rfl (.nil))) ?_
      refine W.cond (.pl rfl) (fun hC8 => ?_) (fun hC8 => ?_)
      · replace hF2 := cpos hC8 hF2
        refine W.seqR fun Q9 hQ9 => ?_
        refine WL.q (Y.move (.pl rfl)) rfl ?_
        refine WL.q (Y.eql (.pl rfl) (.pl rfl)) rfl ?_
        refine WL.q (Y.assign (.pl rfl)) rfl ?_
        refine WL.next hQ9 (.cons (i := 4) rfl (.nil)) ?_
        obtain rfl := Option.some.inj hF2
        obtain rfl := Option.some.inj hF
        refine W.retV (fn := Tryd.f44) (vs := [.bool (decide (n2 = 0))]) Tryd.results44 ⟨.tmp rfl, trivial⟩ (fun _ _ h => h) (fun wz hw => ?_)
        exact hR _ _ ⟨rfl, (hw.pick [] rfl)⟩
      · replace hF2 := cneg hC8 hF2
        refine W.skip ?_
        exact W.joinAt0 hK3  (Option.some.inj hF2) (.nil) (.cons (i := 1) rfl (.nil)) (fun wz hw => hw.pick [] rfl)
    · replace hF2 := cneg hC7 hF2
      refine W.seqR fun Q10 hQ10 => ?_
      refine WL.q (Y.eql (.pl rfl) (.pl rfl)) rfl ?_
      refine WL.q (Y.assign (.pl rfl)) rfl ?_
      refine WL.next hQ10 (.cons (i := 1) rfl (.cons (i := 5) rfl (.cons (i := 6) rfl (.nil)))) ?_
      refine W.cond (.pl rfl) (fun hC11 => ?_) (fun hC11 => ?_)
      · replace hF2 := cpos hC11 hF2
        refine W.skip ?_
        refine W.go hK5 (.cons (i := 1) rfl (.cons (i := 6) rfl (.nil))) ?_
        refine W.cond (.pl rfl) (fun hC12 => ?_) (fun hC12 => ?_)
        · replace hF2 := cpos hC12 hF2
          refine W.seqR fun Q13 hQ13 => ?_
          refine WL.q (Y.move (.pl rfl)) rfl ?_
          refine WL.q (Y.eql (.pl rfl) (.pl rfl)) rfl ?_
          refine WL.q (Y.assign (.pl rfl)) rfl ?_
          refine WL.next hQ13 (.cons (i := 4) rfl (.nil)) ?_
          obtain rfl := Option.some.inj hF2
          obtain rfl := Option.some.inj hF
          refine W.retV (fn := Tryd.f44) (vs := [.bool (decide (n2 = 0))]) Tryd.results44 ⟨.tmp rfl, trivial⟩ (fun _ _ h => h) (fun wz hw => ?_)
          exact hR _ _ ⟨rfl, (hw.pick [] rfl)⟩
        · replace hF2 := cneg hC12 hF2
          refine W.skip ?_
          exact W.joinAt0 hK3  (Option.some.inj hF2) (.nil) (.cons (i := 1) rfl (.nil)) (fun wz hw => hw.pick [] rfl)
      · replace hF2 := cneg hC11 hF2
        refine W.seqR fun Q14 hQ14 => ?_
        refine WL.q (Y.eql (.pl rfl) (.pl rfl)) rfl ?_
        refine WL.q (Y.assign (.pl rfl)) rfl ?_
        refine WL.next hQ14 (.cons (i := 1) rfl (.cons (i := 5) rfl (.cons (i := 6) rfl (.nil)))) ?_
        refine W.cond (.pl rfl) (fun hC15 => ?_) (fun hC15 => ?_)
        · replace hF2 := cpos hC15 hF2
          refine W.skip ?_
          refine W.go hK5 (.cons (i := 1) rfl (.cons (i := 6) rfl (.nil))) ?_
          refine W.cond (.pl rfl) (fun hC16 => ?_) (fun hC16 => ?_)
          · replace hF2 := cpos hC16 hF2
            refine W.seqR fun Q17 hQ17 => ?_
            refine WL.q (Y.move (.pl rfl)) rfl ?_
            refine WL.q (Y.eql (.pl rfl) (.pl rfl)) rfl ?_
            refine WL.q (Y.assign (.pl rfl)) rfl ?_
            refine WL.next hQ17 (.cons (i := 4) rfl (.nil)) ?_
            obtain rfl := Option.some.inj hF2
            obtain rfl := Option.some.inj hF
            refine W.retV (fn := Tryd.f44) (vs := [.bool (decide (n2 = 0))]) Tryd.results44 ⟨.tmp rfl, trivial⟩ (fun _ _ h => h) (fun wz hw => ?_)
            exact hR _ _ ⟨rfl, (hw.pick [] rfl)⟩
          · replace hF2 := cneg hC16 hF2
            refine W.skip ?_
            exact W.joinAt0 hK3  (Option.some.inj hF2) (.nil) (.cons (i := 1) rfl (.nil)) (fun wz hw => hw.pick [] rfl)
        · replace hF2 := cneg hC15 hF2
          refine W.reg ?_
          refine WL.q (Y.eql (.pl rfl) (.pl rfl)) rfl ?_
          refine WL.q (Y.assign (.pl rfl)) rfl ?_
          refine WL.nil ?_
          refine W.go hK5 (.cons (i := 1) rfl (.cons (i := 6) rfl (.nil))) ?_
          refine W.cond (.pl rfl) (fun hC19 => ?_) (fun hC19 => ?_)
          · replace hF2 := cpos hC19 hF2
            refine W.seqR fun Q20 hQ20 => ?_
            refine WL.q (Y.move (.pl rfl)) rfl ?_
            refine WL.q (Y.eql (.pl rfl) (.pl rfl)) rfl ?_
            refine WL.q (Y.assign (.pl rfl)) rfl ?_
            refine WL.next hQ20 (.cons (i := 4) rfl (.nil)) ?_
            obtain rfl := Option.some.inj hF2
            obtain rfl := Option.some.inj hF
            refine W.retV (fn := Tryd.f44) (vs := [.bool (decide (n2 = 0))]) Tryd.results44 ⟨.tmp rfl, trivial⟩ (fun _ _ h => h) (fun wz hw => ?_)
            exact hR _ _ ⟨rfl, (hw.pick [] rfl)⟩
          · replace hF2 := cneg hC19 hF2
            refine W.skip ?_
            exact W.joinAt0 hK3  (Option.some.inj hF2) (.nil) (.cons (i := 1) rfl (.nil)) (fun wz hw => hw.pick [] rfl)
  · -- behind
    rintro  rfl
    refine W.seqR fun Q21 hQ21 => ?_
    refine WL.q (Y.move (.pl rfl)) rfl ?_
    refine WL.q (Y.geq (.pl rfl) (.pl rfl)) rfl ?_
    refine WL.q (Y.move (.pl rfl)) rfl ?_
    refine WL.g (.pl rfl rfl rfl) (fun hg => Y.move (.pl rfl)) rfl ?_
    refine WL.g (.pl rfl rfl rfl) (fun hg => Y.leq (.gd (hg) rfl) (.pl rfl)) rfl ?_
    refine WL.q (Y.and (.pl rfl) (fun h2 => .gd (eqt h2) rfl)) rfl ?_
    refine WL.q (Y.assign (.pl rfl)) rfl ?_
    refine WL.next hQ21 (.cons (i := 4) rfl (.nil)) ?_
    obtain rfl := Option.some.inj hF
    refine W.retV (fn := Tryd.f44) (vs := [.bool ((decide (1 ≤ n2)) && (decide (n2 ≤ 1000)))]) Tryd.results44 ⟨.tmp rfl, trivial⟩ (fun _ _ h => h) (fun wz hw => ?_)
    exact hR _ _ ⟨rfl, (hw.pick [] rfl)⟩

def history_result (N : Nat) (kind1 : Int) (n2 : Int) : Option Bool :=
  bd (α := Bool) (cond (decide (kind1 = 2))
      (some (decide (kind1 = 2)))
      (some (decide (kind1 = 10)))) <|
  fun (v3 : Bool) => 
    cond v3
      (some ((decide (0 ≤ n2)) && (decide (n2 ≤ 1000))))
      (bd (α := Bool) (cond (decide (kind1 = 4))
          (some (decide (kind1 = 4)))
          (some (decide (kind1 = 6)))) <|
      fun (v4 : Bool) => 
        cond v4
          (some ((decide (n2 = (-1))) || ((decide (1 ≤ n2)) && (decide (n2 ≤ 1000)))))
          (bd (α := Bool) (cond (decide (kind1 = 7))
              (some (decide (kind1 = 7)))
              (cond (decide (kind1 = 8))
                (some (decide (kind1 = 8)))
                (some (decide (kind1 = 9))))) <|
          fun (v5 : Bool) => 
            cond v5
              (some ((decide (n2 = 0)) || (decide (n2 = 1))))
              (some (decide (n2 = 0)))))

theorem history_result_ok {N : Nat} {kind1 : Int} {n2 : Int} {res : Bool} (hF : history_result N kind1 n2 = some res) (w : World) :
    Pure Tryd.prog 45 [.int .i64 kind1, .int .i64 n2] w (.bool res) := by
  refine W.enter (n := 40) Tryd.func45 rfl rfl Sub.refl (by simp) (St.start w) fun R hR => ?_
  unfold history_result at hF
  refine W.seqR fun Q1 hQ1 => ?_
  refine WL.q (Y.assign (.pl rfl)) rfl ?_
  refine WL.next hQ1 (.cons (i := 0) rfl (.cons (i := 1) rfl (.nil))) ?_
  refine W.seq fun K2 hK2 => ?_
  refine W.seqR fun Q3 hQ3 => ?_
  refine WL.q (Y.move (.pl rfl)) rfl ?_
  refine WL.next hQ3 (.cons (i := 1) rfl (.cons (i := 5) rfl (.nil))) ?_
  refine W.block ?_
  obtain ⟨o4, hF4, hF⟩ := bnd hF
  refine W.join1 (Em := fun (v3 : Bool) => [(6, .bool v3)]) (M := fun v3 => []) (I := fun v3 => v3 = o4) (.cons (i := 1) rfl (.cons (i := 5) rfl (.nil))) (fun K5 hK5 => ?_) ?_
  · -- up to
    refine W.seqR fun Q6 hQ6 => ?_
    refine WL.q (Y.eql (.pl rfl) (.pl rfl)) rfl ?_
    refine WL.q (Y.assign (.pl rfl)) rfl ?_
    refine WL.next hQ6 (.cons (i := 1) rfl (.cons (i := 5) rfl (.cons (i := 6) rfl (.nil)))) ?_
    refine W.cond (.pl rfl) (fun hC7 => ?_) (fun hC7 => ?_)
    · replace hF4 := cpos hC7 hF4
      refine W.skip ?_
      exact W.joinAt1 hK5 (decide (kind1 = 2)) (Option.some.inj hF4) (.cons rfl (.nil)) (.cons (i := 1) rfl (.cons (i := 5) rfl (.nil))) (fun wz hw => hw.pick [] rfl)
    · replace hF4 := cneg hC7 hF4
      refine W.reg ?_
      refine WL.q (Y.eql (.pl rfl) (.pl rfl)) rfl ?_
      refine WL.q (Y.assign (.pl rfl)) rfl ?_
      refine WL.nil ?_
      exact W.joinAt1 hK5 (decide (kind1 = 10)) (Option.some.inj hF4) (.cons rfl (.nil)) (.cons (i := 1) rfl (.cons (i := 5) rfl (.nil))) (fun wz hw => hw.pick [] rfl)
  · -- behind
    rintro v3 rfl
    refine W.cond (.pl rfl) (fun hC9 => ?_) (fun hC9 => ?_)
    · replace hF := cpos hC9 hF
      refine W.seqR fun Q10 hQ10 => ?_
      refine WL.q (Y.move (.pl rfl)) rfl ?_
      refine WL.q (Y.geq (.pl rfl) (.pl rfl)) rfl ?_
      refine WL.q (Y.move (.pl rfl)) rfl ?_
      refine WL.g (.pl rfl rfl rfl) (fun hg => Y.move (.pl rfl)) rfl ?_
      refine WL.g (.pl rfl rfl rfl) (fun hg => Y.leq (.gd (hg) rfl) (.pl rfl)) rfl ?_
      refine WL.q (Y.and (.pl rfl) (fun h2 => .gd (eqt h2) rfl)) rfl ?_
      refine WL.q (Y.assign (.pl rfl)) rfl ?_
      refine WL.next hQ10 (.cons (i := 4) rfl (.nil)) ?_
      obtain rfl := Option.some.inj hF
      refine W.retV (fn := Tryd.f45) (vs := [.bool ((decide (0 ≤ n2)) && (decide (n2 ≤ 1000)))]) Tryd.results45 ⟨.tmp rfl, trivial⟩ (fun _ _ h => h) (fun wz hw => ?_)
      exact hR _ _ ⟨rfl, (hw.pick [] rfl)⟩
    · replace hF := cneg hC9 hF
      obtain ⟨o11, hF11, hF⟩ := bnd hF
      refine W.join1 (Em := fun (v4 : Bool) => [(15, .bool v4)]) (M := fun v4 => []) (I := fun v4 => v4 = o11) (.cons (i := 1) rfl (.cons (i := 5) rfl (.nil))) (fun K12 hK12 => ?_) ?_
      · -- up to
        refine W.seqR fun Q13 hQ13 => ?_
        refine WL.q (Y.eql (.pl rfl) (.pl rfl)) rfl ?_
        refine WL.q (Y.assign (.pl rfl)) rfl ?_
        refine WL.next hQ13 (.cons (i := 1) rfl (.cons (i := 5) rfl (.cons (i := 15) rfl (.nil)))) ?_
        refine W.cond (.pl rfl) (fun hC14 => ?_) (fun hC14 => ?_)
        · replace hF11 := cpos hC14 hF11
          refine W.skip ?_
          exact W.joinAt1 hK12 (decide (kind1 = 4)) (Option.some.inj hF11) (.cons rfl (.nil)) (.cons (i := 1) rfl (.cons (i := 5) rfl (.nil))) (fun wz hw => hw.pick [] rfl)
        · replace hF11 := cneg hC14 hF11
          refine W.reg ?_
          refine WL.q (Y.eql (.pl rfl) (.pl rfl)) rfl ?_
          refine WL.q (Y.assign (.pl rfl)) rfl ?_
          refine WL.nil ?_
          exact W.joinAt1 hK12 (decide (kind1 = 6)) (Option.some.inj hF11) (.cons rfl (.nil)) (.cons (i := 1) rfl (.cons (i := 5) rfl (.nil))) (fun wz hw => hw.pick [] rfl)
      · -- behind
        rintro v4 rfl
        refine W.cond (.pl rfl) (fun hC16 => ?_) (fun hC16 => ?_)
        · replace hF := cpos hC16 hF
          refine W.seqR fun Q17 hQ17 => ?_
          refine WL.q (Y.move (.pl rfl)) rfl ?_
          refine WL.q (Y.eql (.pl rfl) (.pl rfl)) rfl ?_
          refine WL.q (Y.move (.pl rfl)) rfl ?_
          refine WL.g (.pl rfl rfl rfl) (fun hg => Y.move (.pl rfl)) rfl ?_
          refine WL.g (.pl rfl rfl rfl) (fun hg => Y.geq (.gd (hg) rfl) (.pl rfl)) rfl ?_
          refine WL.g (.pl rfl rfl rfl) (fun hg => Y.move (.gd (hg) rfl)) rfl ?_
          refine WL.g (.gd rfl rfl rfl) (fun hg => Y.move (.pl rfl)) rfl ?_
          refine WL.g (.gd rfl rfl rfl) (fun hg => Y.leq (.gd (hg) rfl) (.pl rfl)) rfl ?_
          refine WL.g (.pl rfl rfl rfl) (fun hg => Y.and (.gd (hg) rfl) (fun h2 => .gd (band hg (eqt h2)) rfl)) rfl ?_
          refine WL.q (Y.or (.pl rfl) (fun h2 => .gd (eqf h2) rfl)) rfl ?_
          refine WL.q (Y.assign (.pl rfl)) rfl ?_
          refine WL.next hQ17 (.cons (i := 4) rfl (.nil)) ?_
          obtain rfl := Option.some.inj hF
          refine W.retV (fn := Tryd.f45) (vs := [.bool ((decide (n2 = (-1))) || ((decide (1 ≤ n2)) && (decide (n2 ≤ 1000))))]) Tryd.results45 ⟨.tmp rfl, trivial⟩ (fun _ _ h => h) (fun wz hw => ?_)
          exact hR _ _ ⟨rfl, (hw.pick [] rfl)⟩
        · replace hF := cneg hC16 hF
          obtain ⟨o18, hF18, hF⟩ := bnd hF
          refine W.join1 (Em := fun (v5 : Bool) => [(28, .bool v5)]) (M := fun v5 => []) (I := fun v5 => v5 = o18) (.cons (i := 1) rfl (.nil)) (fun K19 hK19 => ?_) ?_
          · -- up to
            refine W.seqR fun Q20 hQ20 => ?_
            refine WL.q (Y.eql (.pl rfl) (.pl rfl)) rfl ?_
            refine WL.q (Y.assign (.pl rfl)) rfl ?_
            refine WL.next hQ20 (.cons (i := 1) rfl (.cons (i := 5) rfl (.cons (i := 28) rfl (.nil)))) ?_
            refine W.cond (.pl rfl) (fun hC21 => ?_) (fun hC21 => ?_)
            · replace hF18 := cpos hC21 hF18
              refine W.skip ?_
              exact W.joinAt1 hK19 (decide (kind1 = 7)) (Option.some.inj hF18) (.cons rfl (.nil)) (.cons (i := 1) rfl (.nil)) (fun wz hw => hw.pick [] rfl)
            · replace hF18 := cneg hC21 hF18
              refine W.seqR fun Q22 hQ22 => ?_
              refine WL.q (Y.eql (.pl rfl) (.pl rfl)) rfl ?_
              refine WL.q (Y.assign (.pl rfl)) rfl ?_
              refine WL.next hQ22 (.cons (i := 1) rfl (.cons (i := 5) rfl (.cons (i := 28) rfl (.nil)))) ?_
              refine W.cond (.pl rfl) (fun hC23 => ?_) (fun hC23 => ?_)
              · replace hF18 := cpos hC23 hF18
                refine W.skip ?_
                exact W.joinAt1 hK19 (decide (kind1 = 8)) (Option.some.inj hF18) (.cons rfl (.nil)) (.cons (i := 1) rfl (.nil)) (fun wz hw => hw.pick [] rfl)
              · replace hF18 := cneg hC23 hF18
                refine W.reg ?_
                refine WL.q (Y.eql (.pl rfl) (.pl rfl)) rfl ?_
                refine WL.q (Y.assign (.pl rfl)) rfl ?_
                refine WL.nil ?_
                exact W.joinAt1 hK19 (decide (kind1 = 9)) (Option.some.inj hF18) (.cons rfl (.nil)) (.cons (i := 1) rfl (.nil)) (fun wz hw => hw.pick [] rfl)
          · -- behind
            rintro v5 rfl
            refine W.cond (.pl rfl) (fun hC25 => ?_) (fun hC25 => ?_)
            · replace hF := cpos hC25 hF
              refine W.seqR fun Q26 hQ26 => ?_
              refine WL.q (Y.move (.pl rfl)) rfl ?_
              refine WL.q (Y.eql (.pl rfl) (.pl rfl)) rfl ?_
              refine WL.q (Y.move (.pl rfl)) rfl ?_
              refine WL.g (.pl rfl rfl rfl) (fun hg => Y.move (.pl rfl)) rfl ?_
              refine WL.g (.pl rfl rfl rfl) (fun hg => Y.eql (.gd (hg) rfl) (.pl rfl)) rfl ?_
              refine WL.q (Y.or (.pl rfl) (fun h2 => .gd (eqf h2) rfl)) rfl ?_
              refine WL.q (Y.assign (.pl rfl)) rfl ?_
              refine WL.next hQ26 (.cons (i := 4) rfl (.nil)) ?_
              obtain rfl := Option.some.inj hF
              refine W.retV (fn := Tryd.f45) (vs := [.bool ((decide (n2 = 0)) || (decide (n2 = 1)))]) Tryd.results45 ⟨.tmp rfl, trivial⟩ (fun _ _ h => h) (fun wz hw => ?_)
              exact hR _ _ ⟨rfl, (hw.pick [] rfl)⟩
            · replace hF := cneg hC25 hF
              refine W.skip ?_
              refine W.go hK2 (.cons (i := 1) rfl (.nil)) ?_
              refine W.seqR fun Q27 hQ27 => ?_
              refine WL.q (Y.move (.pl rfl)) rfl ?_
              refine WL.q (Y.eql (.pl rfl) (.pl rfl)) rfl ?_
              refine WL.q (Y.assign (.pl rfl)) rfl ?_
              refine WL.next hQ27 (.cons (i := 4) rfl (.nil)) ?_
              obtain rfl := Option.some.inj hF
              refine W.retV (fn := Tryd.f45) (vs := [.bool (decide (n2 = 0))]) Tryd.results45 ⟨.tmp rfl, trivial⟩ (fun _ _ h => h) (fun wz hw => ?_)
              exact hR _ _ ⟨rfl, (hw.pick [] rfl)⟩

def history_reader_event (N : Nat) (types2 : (List Int)) (out8 : (List Call)) (open9 : (List Int)) (i10 : Int) (v11 : Event) : Option ((List Call) × (List Int) × Int) :=
  cond ((((decide (v11.who < 0)) || (decide (8 ≤ v11.who))) || (decide (v11.thing < 0))) || (decide (((types2).length : Int) ≤ v11.thing)))
    (some (out8, open9, 3))
    (bd (ax 8 0 open9 v11.who) fun (x13 : Int) =>
    cond (!(decide (v11.kind = 0)))
      (bd (ix types2 v11.thing) fun (x14 : Int) =>
      bd (history_Fits N x14 v11.kind) fun (r15 : Bool) =>
      bd ((cond ((!r15) == false) (history_Argument N v11.kind v11.value) (some false))) fun (r16 : Bool) =>
      cond ((!r15) || (!r16))
        (some (out8, open9, 3))
        (cond (decide (0 < x13))
          (some (out8, open9, 5))
          (ck (limB 56 ((out8).length + (([(Call.mk v11.who v11.thing v11.kind v11.value 0 i10 (-1))] : List Call)).length)) <|
          bd (ax 8 0 open9 v11.who) fun (x21 : Int) =>
          some ((out8 ++ ([(Call.mk v11.who v11.thing v11.kind v11.value 0 i10 (-1))] : List Call)), (setA 8 0 open9 v11.who (((out8 ++ ([(Call.mk v11.who v11.thing v11.kind v11.value 0 i10 (-1))] : List Call))).length : Int)), 0))))
      (cond (decide (x13 = 0))
        (some (out8, open9, 4))
        (ck (ok64 (x13 - 1)) <|
        bd (ix out8 (x13 - 1)) fun (x23 : Call) =>
        bd ((cond ((!(decide (x23.thing = v11.thing))) == false) (history_result N x23.kind v11.value) (some false))) fun (r24 : Bool) =>
        cond ((!(decide (x23.thing = v11.thing))) || (!r24))
          (some (out8, open9, 3))
          (bd (ax 8 0 open9 v11.who) fun (x25 : Int) =>
          some ((out8.set (x13 - 1).toNat (Call.mk x23.who x23.thing x23.kind x23.arg v11.value x23.from_ i10)), (setA 8 0 open9 v11.who 0), 0)))))

theorem history_reader_event_ok {N : Nat} {types2 : (List Int)} {out8 : (List Call)} {open9 : (List Int)} {i10 : Int} {v11 : Event} {b1 : Nat} {A3 : Option Addr} {c4 : Nat} {A6 : Option Addr} {c7 : Nat} {res : ((List Call) × (List Int) × Int)} (hF : history_reader_event N types2 out8 open9 i10 v11 = some res) {w0 w : World} {T : List Chunk} (hw : St w0.heap.size w0 ([cBx b1 70 (Value.slice A3 (types2).length c4 :: (Value.slice A6 (out8).length c7 :: (((encA 8 (eI .i64) 0) open9) ++ []))), cR encCall 7 A6 c7 81 out8] ++ T) w) (hs5 : SlIn (eI .i64) 1 w0 (.slice A3 (types2).length c4) types2) :
    Calls Tryd.prog 33 (List.toArray [.pointer (some ⟨b1, 0, none⟩), .int .i64 i10, .agg (encEvent v11).toArray]) w (fun e w' => ∃ g : (Option Addr × Nat), (True) ∧ e = .returned (.int .i64 res.2.2) ∧ St w0.heap.size w0 ([cBx b1 70 (Value.slice A3 (types2).length c4 :: (Value.slice g.1 (res.1).length g.2 :: (((encA 8 (eI .i64) 0) res.2.1) ++ []))), cR encCall 7 g.1 g.2 81 res.1] ++ T) w') := by
  refine W.enter (n := 137) Tryd.func33 rfl rfl Sub.refl (by simp) hw fun R hR => ?_
  unfold history_reader_event at hF
  refine W.seqR fun Q1 hQ1 => ?_
  refine WL.step (WO.boxA (.pl rfl) rfl fun b12 => ?_)
  refine WL.q (Y.assign (.pl rfl)) rfl ?_
  refine WL.next hQ1 (.cons (i := 0) rfl (.cons (i := 1) rfl (.cons (i := 5) rfl (.nil)))) ?_
  refine W.seq fun K2 hK2 => ?_
  refine W.seqD (by kernel_rfl) (by kernel_rfl) fun R3 hR3 => ?_
  refine WD.q (Y.fieldAddr0 (off := 0) (ft := 3) Tryd.underlying32 rfl cells3 (.pl rfl)) rfl ?_
  refine WD.q (Y.loadB (v := .int .i64 v11.who) Tryd.underlying3 rfl (.pl rfl) (i := 0) rfl (rfl)) rfl ?_
  refine WD.q (Y.lss (.pl rfl) (.pl rfl)) rfl ?_
  refine WD.q (Y.move (.pl rfl)) rfl ?_
  refine WD.g (.pl rfl rfl rfl) (fun hg => Y.fieldAddr0 (off := 0) (ft := 3) Tryd.underlying32 rfl cells3 (.pl rfl)) rfl ?_
  refine WD.g (.pl rfl rfl rfl) (fun hg => Y.loadB (v := .int .i64 v11.who) Tryd.underlying3 rfl (.gd (hg) rfl) (i := 0) rfl (rfl)) rfl ?_
  refine WD.g (.pl rfl rfl rfl) (fun hg => Y.geq (.gd (hg) rfl) (.pl rfl)) rfl ?_
  refine WD.q (Y.or (.pl rfl) (fun h2 => .gd (eqf h2) rfl)) rfl ?_
  refine WD.q (Y.move (.pl rfl)) rfl ?_
  refine WD.g (.pl rfl rfl rfl) (fun hg => Y.fieldAddr0 (off := 1) (ft := 3) Tryd.underlying32 rfl cells3 (.pl rfl)) rfl ?_
  refine WD.g (.pl rfl rfl rfl) (fun hg => Y.loadB (v := .int .i64 v11.thing) Tryd.underlying3 rfl (.gd (hg) rfl) (i := 0) rfl (rfl)) rfl ?_
  refine WD.g (.pl rfl rfl rfl) (fun hg => Y.lss (.gd (hg) rfl) (.pl rfl)) rfl ?_
  refine WD.q (Y.or (.pl rfl) (fun h2 => .gd (eqf h2) rfl)) rfl ?_
  refine WD.q (Y.move (.pl rfl)) rfl ?_
  refine WD.g (.pl rfl rfl rfl) (fun hg => Y.fieldAddr0 (off := 1) (ft := 3) Tryd.underlying32 rfl cells3 (.pl rfl)) rfl ?_
  refine WD.g (.pl rfl rfl rfl) (fun hg => Y.loadB (v := .int .i64 v11.thing) Tryd.underlying3 rfl (.gd (hg) rfl) (i := 0) rfl (rfl)) rfl ?_
  refine WD.g (.pl rfl rfl rfl) (fun hg => Y.move (.pl rfl)) rfl ?_
  refine WD.g (.pl rfl rfl rfl) (fun hg => Y.nilCheck (.gd (hg) rfl)) rfl ?_
  refine WD.g (.pl rfl rfl rfl) (fun hg => Y.fieldAddr0 (off := 0) (ft := 22) Tryd.underlying70 rfl cells22 (.gd (hg) rfl)) rfl ?_
  refine WD.g (.pl rfl rfl rfl) (fun hg => Y.loadB (v := .slice A3 (types2).length c4) Tryd.underlying22 rfl (.gd (hg) rfl) (i := 1) rfl (rfl)) rfl ?_
  refine WD.g (.pl rfl rfl rfl) (fun hg => Y.len Tryd.underlying22 (.gd (hg) rfl)) rfl ?_
  refine WD.g (.pl rfl rfl rfl) (fun hg => Y.geq (.gd (hg) rfl) (.gd (hg) rfl)) rfl ?_
  refine WD.q (Y.or (.pl rfl) (fun h2 => .gd (eqf h2) rfl)) rfl ?_
  refine WD.next hR3 (.cons (i := 0) rfl (.cons (i := 1) rfl (.cons (i := 5) rfl (.cons (i := 31) rfl (.nil))))) ?_
  refine W.cond (.pl rfl) (fun hC4 => ?_) (fun hC4 => ?_)
  · replace hF := cpos hC4 hF
    refine W.seqR fun Q5 hQ5 => ?_
    refine WL.q (Y.assign (.pl rfl)) rfl ?_
    refine WL.next hQ5 (.cons (i := 6) rfl (.nil)) ?_
    obtain rfl := Option.some.inj hF
    refine W.retV (fn := Tryd.f33) (vs := [.int .i64 3]) Tryd.results33 ⟨.tmp rfl, trivial⟩ (fun _ _ h => h) (fun wz hw => ?_)
    exact hR _ _ ⟨(A6, c7), trivial, rfl, (hw.pickK 3 [1, 2] rfl)⟩
  · replace hF := cneg hC4 hF
    refine W.skip ?_
    refine W.go hK2 (.cons (i := 0) rfl (.cons (i := 1) rfl (.cons (i := 5) rfl (.nil)))) ?_
    refine W.seqD (by kernel_rfl) (by kernel_rfl) fun R6 hR6 => ?_
    refine WD.q (Y.move (.pl rfl)) rfl ?_
    refine WD.q (Y.fieldAddr0 (off := 0) (ft := 3) Tryd.underlying32 rfl cells3 (.pl rfl)) rfl ?_
    refine WD.q (Y.loadB (v := .int .i64 v11.who) Tryd.underlying3 rfl (.pl rfl) (i := 0) rfl (rfl)) rfl ?_
    refine WD.q (Y.nilCheck (.pl rfl)) rfl ?_
    refine WD.q (Y.fieldAddr0 (off := 2) (ft := 68) Tryd.underlying70 rfl cells68 (.pl rfl)) rfl ?_
    obtain ⟨x13, hx13, hF⟩ := bnd hF
    refine WD.q (Y.arrZ Tryd.underlying68 cells3 (.pl rfl) (.pl rfl) (ax_lt (hx13))) rfl ?_
    refine WD.q (Y.loadB (v := .int .i64 x13) Tryd.underlying3 rfl (.pl rfl) (i := 1) rfl (cellsA (pre := (Value.slice A3 (types2).length c4 :: (Value.slice A6 (out8).length c7 :: []))) (off := 2) (post := []) (a := open9) (enc := (eI .i64)) (d := 0) (n := 8) (sz := 1) (j := 0) (fun _ => rfl) rfl (ax_nat (hx13)) (ax_get (hx13)) rfl)) rfl ?_
    refine WD.q (Y.assign (.pl rfl)) rfl ?_
    refine WD.next hR6 (.cons (i := 0) rfl (.cons (i := 1) rfl (.cons (i := 5) rfl (.cons (i := 7) rfl (.nil))))) ?_
    refine W.seq fun K7 hK7 => ?_
    refine W.seqR fun Q8 hQ8 => ?_
    refine WL.q (Y.fieldAddr0 (off := 2) (ft := 3) Tryd.underlying32 rfl cells3 (.pl rfl)) rfl ?_
    refine WL.q (Y.loadB (v := .int .i64 v11.kind) Tryd.underlying3 rfl (.pl rfl) (i := 0) rfl (rfl)) rfl ?_
    refine WL.q (Y.neq (.pl rfl) (.pl rfl)) rfl ?_
    refine WL.next hQ8 (.cons (i := 0) rfl (.cons (i := 1) rfl (.cons (i := 5) rfl (.cons (i := 7) rfl (.cons (i := 41) rfl (.nil)))))) ?_
    refine W.cond (.pl rfl) (fun hC9 => ?_) (fun hC9 => ?_)
    · replace hF := cpos hC9 hF
      refine W.seq fun K10 hK10 => ?_
      refine W.block ?_
      refine W.seqD (by kernel_rfl) (by kernel_rfl) fun R11 hR11 => ?_
      refine WD.q (Y.move (.pl rfl)) rfl ?_
      refine WD.q (Y.nilCheck (.pl rfl)) rfl ?_
      refine WD.q (Y.fieldAddr0 (off := 0) (ft := 22) Tryd.underlying70 rfl cells22 (.pl rfl)) rfl ?_
      refine WD.q (Y.loadB (v := .slice A3 (types2).length c4) Tryd.underlying22 rfl (.pl rfl) (i := 1) rfl (rfl)) rfl ?_
      refine WD.q (Y.fieldAddr0 (off := 1) (ft := 3) Tryd.underlying32 rfl cells3 (.pl rfl)) rfl ?_
      refine WD.q (Y.loadB (v := .int .i64 v11.thing) Tryd.underlying3 rfl (.pl rfl) (i := 0) rfl (rfl)) rfl ?_
      obtain ⟨x14, hx14, hF⟩ := bnd hF
      refine WD.q (Y.slEl Tryd.underlying22 cells3 hs5 (.pl rfl) (.pl rfl) (ix_lt (hx14))) rfl ?_
      refine WD.q (Y.loadS (enc := (eI .i64)) (v := .int .i64 x14) (j := 0) Tryd.underlying3 rfl hs5 (.pl rfl) (hx14) rfl rfl) rfl ?_
      refine WD.q (Y.fieldAddr0 (off := 2) (ft := 3) Tryd.underlying32 rfl cells3 (.pl rfl)) rfl ?_
      refine WD.q (Y.loadB (v := .int .i64 v11.kind) Tryd.underlying3 rfl (.pl rfl) (i := 0) rfl (rfl)) rfl ?_
      obtain ⟨r15, hr15, hF⟩ := bnd hF
      refine WD.callP isGo43 (.cons (.pl rfl) (.cons (.pl rfl) (.nil))) rfl (fun wz hw => history_Fits_ok (hr15) wz ) ?_
      refine WD.q (Y.not (.pl rfl)) rfl ?_
      refine WD.q (Y.move (.pl rfl)) rfl ?_
      refine WD.g (.pl rfl rfl rfl) (fun hg => Y.fieldAddr0 (off := 2) (ft := 3) Tryd.underlying32 rfl cells3 (.pl rfl)) rfl ?_
      refine WD.g (.pl rfl rfl rfl) (fun hg => Y.loadB (v := .int .i64 v11.kind) Tryd.underlying3 rfl (.gd (hg) rfl) (i := 0) rfl (rfl)) rfl ?_
      refine WD.g (.pl rfl rfl rfl) (fun hg => Y.fieldAddr0 (off := 3) (ft := 3) Tryd.underlying32 rfl cells3 (.pl rfl)) rfl ?_
      refine WD.g (.pl rfl rfl rfl) (fun hg => Y.loadB (v := .int .i64 v11.value) Tryd.underlying3 rfl (.gd (hg) rfl) (i := 0) rfl (rfl)) rfl ?_
      obtain ⟨r16, hr16, hF⟩ := bnd hF
      refine WD.gP (.pl rfl rfl rfl) isGo44 (fun hg => (.cons (.gd (hg) rfl) (.cons (.gd (hg) rfl) (.nil)))) rfl (fun hg wz hw => history_Argument_ok (gpos hg hr16) wz ) ?_
      refine WD.g (.pl rfl rfl rfl) (fun hg => Y.not (.gd (hg) rfl)) rfl ?_
      refine WD.q (Y.or (.pl rfl) (fun h2 => .gd (eqf h2) rfl)) rfl ?_
      refine WD.q (Y.assign (.pl rfl)) rfl ?_
      refine WD.next hR11 (.cons (i := 0) rfl (.cons (i := 1) rfl (.cons (i := 5) rfl (.cons (i := 7) rfl (.cons (i := 42) rfl (.nil)))))) ?_
      refine W.cond (.pl rfl) (fun hC12 => ?_) (fun hC12 => ?_)
      · replace hF := cpos hC12 hF
        refine W.seqR fun Q13 hQ13 => ?_
        refine WL.q (Y.assign (.pl rfl)) rfl ?_
        refine WL.next hQ13 (.cons (i := 6) rfl (.nil)) ?_
        obtain rfl := Option.some.inj hF
        refine W.retV (fn := Tryd.f33) (vs := [.int .i64 3]) Tryd.results33 ⟨.tmp rfl, trivial⟩ (fun _ _ h => h) (fun wz hw => ?_)
        exact hR _ _ ⟨(A6, c7), trivial, rfl, (hw.pickK 3 [1, 2] rfl)⟩
      · replace hF := cneg hC12 hF
        refine W.seqR fun Q14 hQ14 => ?_
        refine WL.q (Y.move (.pl rfl)) rfl ?_
        refine WL.q (Y.gtr (.pl rfl) (.pl rfl)) rfl ?_
        refine WL.q (Y.assign (.pl rfl)) rfl ?_
        refine WL.next hQ14 (.cons (i := 0) rfl (.cons (i := 1) rfl (.cons (i := 5) rfl (.cons (i := 63) rfl (.nil))))) ?_
        refine W.cond (.pl rfl) (fun hC15 => ?_) (fun hC15 => ?_)
        · replace hF := cpos hC15 hF
          refine W.seqR fun Q16 hQ16 => ?_
          refine WL.q (Y.assign (.pl rfl)) rfl ?_
          refine WL.next hQ16 (.cons (i := 6) rfl (.nil)) ?_
          obtain rfl := Option.some.inj hF
          refine W.retV (fn := Tryd.f33) (vs := [.int .i64 5]) Tryd.results33 ⟨.tmp rfl, trivial⟩ (fun _ _ h => h) (fun wz hw => ?_)
          exact hR _ _ ⟨(A6, c7), trivial, rfl, (hw.pickK 3 [1, 2] rfl)⟩
        · replace hF := cneg hC15 hF
          refine W.skip ?_
          refine W.go hK10 (.cons (i := 0) rfl (.cons (i := 1) rfl (.cons (i := 5) rfl (.nil)))) ?_
          refine W.seqX 16 (by kernel_rfl) fun K17 hK17 => ?_
          refine WX.pure 0 #[true, false, false, false, false, false, false, false, false, false, false, false, false, false, false, false, false, false, false, false] rfl (by kernel_rfl) (fun _ _ => Y.move (.pl rfl)) rfl ?_
          refine WX.pure 1 #[true, true, false, false, false, false, false, false, false, false, false, false, false, false, false, false, false, false, false, false] rfl (by kernel_rfl) (fun _ _ => Y.move (.pl rfl)) rfl ?_
          refine WX.pure 2 #[true, true, true, false, false, false, false, false, false, false, false, false, false, false, false, false, false, false, false, false] rfl (by kernel_rfl) (fun _ _ => Y.nilCheck (.pl rfl)) rfl ?_
          refine WX.pure 3 #[true, true, true, true, false, false, false, false, false, false, false, false, false, false, false, false, false, false, false, false] rfl (by kernel_rfl) (fun _ _ => Y.fieldAddr0 (off := 1) (ft := 41) Tryd.underlying70 rfl cells41 (.pl rfl)) rfl ?_
          refine WX.take 4 #[true, true, true, true, true, false, false, false, false, false, false, false, false, false, false, false, false, false, false, false] (fun wz hw => St.tail [] hw) rfl (by kernel_rfl) (Y.loadB (v := .slice A6 (out8).length c7) Tryd.underlying41 rfl (.pl rfl) (i := 1) rfl (rfl)) rfl ?_
          refine WX.pure 5 #[true, true, true, true, true, true, false, false, false, false, false, false, false, false, false, false, false, false, false, false] rfl (by kernel_rfl) (fun _ _ => Y.fieldAddr0 (off := 0) (ft := 3) Tryd.underlying32 rfl cells3 (.pl rfl)) rfl ?_
          refine WX.take 6 #[true, true, true, true, true, true, true, false, false, false, false, false, false, false, false, false, false, false, false, false] (fun wz hw => St.tail [] hw) rfl (by kernel_rfl) (Y.loadB (v := .int .i64 v11.who) Tryd.underlying3 rfl (.pl rfl) (i := 0) rfl (rfl)) rfl ?_
          refine WX.pure 7 #[true, true, true, true, true, true, true, true, false, false, false, false, false, false, false, false, false, false, false, false] rfl (by kernel_rfl) (fun _ _ => Y.fieldAddr0 (off := 1) (ft := 3) Tryd.underlying32 rfl cells3 (.pl rfl)) rfl ?_
          refine WX.take 8 #[true, true, true, true, true, true, true, true, true, false, false, false, false, false, false, false, false, false, false, false] (fun wz hw => St.tail [] hw) rfl (by kernel_rfl) (Y.loadB (v := .int .i64 v11.thing) Tryd.underlying3 rfl (.pl rfl) (i := 0) rfl (rfl)) rfl ?_
          refine WX.pure 9 #[true, true, true, true, true, true, true, true, true, true, false, false, false, false, false, false, false, false, false, false] rfl (by kernel_rfl) (fun _ _ => Y.fieldAddr0 (off := 2) (ft := 3) Tryd.underlying32 rfl cells3 (.pl rfl)) rfl ?_
          refine WX.take 10 #[true, true, true, true, true, true, true, true, true, true, true, false, false, false, false, false, false, false, false, false] (fun wz hw => St.tail [] hw) rfl (by kernel_rfl) (Y.loadB (v := .int .i64 v11.kind) Tryd.underlying3 rfl (.pl rfl) (i := 0) rfl (rfl)) rfl ?_
          refine WX.pure 11 #[true, true, true, true, true, true, true, true, true, true, true, true, false, false, false, false, false, false, false, false] rfl (by kernel_rfl) (fun _ _ => Y.fieldAddr0 (off := 3) (ft := 3) Tryd.underlying32 rfl cells3 (.pl rfl)) rfl ?_
          refine WX.take 12 #[true, true, true, true, true, true, true, true, true, true, true, true, true, false, false, false, false, false, false, false] (fun wz hw => St.tail [] hw) rfl (by kernel_rfl) (Y.loadB (v := .int .i64 v11.value) Tryd.underlying3 rfl (.pl rfl) (i := 0) rfl (rfl)) rfl ?_
          refine WX.pure 13 #[true, true, true, true, true, true, true, true, true, true, true, true, true, true, false, false, false, false, false, false] rfl (by kernel_rfl) (fun _ _ => Y.move (.pl rfl)) rfl ?_
          refine WX.pure 14 #[true, true, true, true, true, true, true, true, true, true, true, true, true, true, true, false, false, false, false, false] rfl (by kernel_rfl) (fun _ _ => Y.build (cs := (encCall (Call.mk v11.who v11.thing v11.kind v11.value 0 i10 (-1))).toArray) shape81 (.cons (.pl rfl) (.cons (.pl rfl) (.cons (.pl rfl) (.cons (.pl rfl) (.cons (.pl rfl) (.cons (.pl rfl) (.nil))))))) (one_parts ⟨rfl, ⟨rfl, ⟨rfl, ⟨rfl, ⟨rfl, ⟨rfl, trivial⟩⟩⟩⟩⟩⟩) rfl) rfl ?_
          refine WX.one 15 #[true, true, true, true, true, true, true, true, true, true, true, true, true, true, true, true, false, false, false, false] (fun wz hw => St.tail [] hw) rfl (by kernel_rfl) (WO.bsliceC (enc := encCall) (ys := ([(Call.mk v11.who v11.thing v11.kind v11.value 0 i10 (-1))] : List Call)) Tryd.underlying41 bz81 (.cons (.pl rfl) (.nil)) rfl lenCall rfl rfl (by decide) (by decide) rfl fun b17 => ?_)
          refine WX.now (fun wz hw => St.tail [_] hw) ?_
          obtain ⟨hk20, hF⟩ := ckh hF
          refine WX.stop #[true, true, true, true, true, true, true, true, true, true, true, true, true, true, true, true, true, false, false, false] (fun wz hw => St.tail [] hw) rfl (by kernel_rfl) (WO.appendC (enc := encCall) Tryd.underlying41 ap81 lenCall oneCall (.pl rfl) rfl (.pl rfl) (i := 3) rfl (m2 := 0) rfl (hk20) rfl fun A18 c19 => ?_)
          refine WA.take 17 #[true, true, true, true, true, true, true, true, true, true, true, true, true, true, true, true, true, true, false, false] rfl (by kernel_rfl) (fun _ _ => Y.nilCheck (.pl rfl)) rfl ?_
          refine WA.take 18 #[true, true, true, true, true, true, true, true, true, true, true, true, true, true, true, true, true, true, true, false] rfl (by kernel_rfl) (fun _ _ => Y.fieldAddr0 (off := 1) (ft := 41) Tryd.underlying70 rfl cells41 (.pl rfl)) rfl ?_
          refine WA.branch [19] (by kernel_rfl) ⟨?_, trivial⟩
          refine WI.step #[true, true, true, true, true, true, true, true, true, true, true, true, true, true, true, true, true, true, true, true] rfl rfl (WO.storeB (cs' := (Value.slice A3 (types2).length c4 :: (Value.slice A18 ((out8 ++ ([(Call.mk v11.who v11.thing v11.kind v11.value 0 i10 (-1))] : List Call))).length c19 :: (((encA 8 (eI .i64) 0) open9) ++ [])))) cells41 (.pl rfl) (.pl rfl) rfl (i := 2) rfl (ltl (m := 10) (by decide) rfl) (rfl) ?_)
          refine WA.done (by kernel_rfl) ?_
          refine KK.next hK17 (.cons (i := 0) rfl (.cons (i := 5) rfl (.nil))) ?_
          refine W.seqT 11 (by kernel_rfl) (by kernel_rfl) fun Q18 hQ18 => ?_
          refine WS.q (Y.move (.pl rfl)) rfl ?_
          refine WS.q (Y.fieldAddr0 (off := 0) (ft := 3) Tryd.underlying32 rfl cells3 (.pl rfl)) rfl ?_
          refine WS.q (Y.loadB (v := .int .i64 v11.who) Tryd.underlying3 rfl (.pl rfl) (i := 1) rfl (rfl)) rfl ?_
          refine WS.q (Y.move (.pl rfl)) rfl ?_
          refine WS.q (Y.nilCheck (.pl rfl)) rfl ?_
          refine WS.q (Y.fieldAddr0 (off := 1) (ft := 41) Tryd.underlying70 rfl cells41 (.pl rfl)) rfl ?_
          refine WS.q (Y.loadB (v := .slice A18 ((out8 ++ ([(Call.mk v11.who v11.thing v11.kind v11.value 0 i10 (-1))] : List Call))).length c19) Tryd.underlying41 rfl (.pl rfl) (i := 2) rfl (rfl)) rfl ?_
          refine WS.q (Y.len Tryd.underlying41 (.pl rfl)) rfl ?_
          refine WS.q (Y.nilCheck (.pl rfl)) rfl ?_
          refine WS.q (Y.fieldAddr0 (off := 2) (ft := 68) Tryd.underlying70 rfl cells68 (.pl rfl)) rfl ?_
          obtain ⟨x21, hx21, hF⟩ := bnd hF
          refine WS.q (Y.arrZ Tryd.underlying68 cells3 (.pl rfl) (.pl rfl) (ax_lt (hx21))) rfl ?_
          refine WS.tail ?_
          refine WL.step (WO.storeB (cs' := (Value.slice A3 (types2).length c4 :: (Value.slice A18 ((out8 ++ ([(Call.mk v11.who v11.thing v11.kind v11.value 0 i10 (-1))] : List Call))).length c19 :: (((encA 8 (eI .i64) 0) (setA 8 0 open9 v11.who (((out8 ++ ([(Call.mk v11.who v11.thing v11.kind v11.value 0 i10 (-1))] : List Call))).length : Int))) ++ [])))) cells3 (.pl rfl) (.pl rfl) rfl (i := 2) rfl (ltl (m := 10) (offlt (off := 2) (sz := 1) (j := 0) (ax_nat (hx21)) (by decide)) rfl) (cellsSet (pre := (Value.slice A3 (types2).length c4 :: (Value.slice A18 ((out8 ++ ([(Call.mk v11.who v11.thing v11.kind v11.value 0 i10 (-1))] : List Call))).length c19 :: []))) (off := 2) (post := []) (a := open9) (enc := (eI .i64)) (d := 0) (n := 8) (sz := 1) (j := 0) (x := x21) (x' := (((out8 ++ ([(Call.mk v11.who v11.thing v11.kind v11.value 0 i10 (-1))] : List Call))).length : Int)) (fun _ => rfl) rfl (ax_lt (hx21)) (ax_get (hx21)) (by decide) rfl rfl) ?_)
          refine WL.next hQ18 (.nil) ?_
          refine W.seqR fun Q19 hQ19 => ?_
          refine WL.q (Y.assign (.pl rfl)) rfl ?_
          refine WL.next hQ19 (.cons (i := 6) rfl (.nil)) ?_
          obtain rfl := Option.some.inj hF
          refine W.retV (fn := Tryd.f33) (vs := [.int .i64 0]) Tryd.results33 ⟨.tmp rfl, trivial⟩ (fun _ _ h => h) (fun wz hw => ?_)
          exact hR _ _ ⟨(A18, c19), trivial, rfl, (hw.pickK 4 [2, 3] rfl)⟩
    · replace hF := cneg hC9 hF
      refine W.skip ?_
      refine W.go hK7 (.cons (i := 0) rfl (.cons (i := 1) rfl (.cons (i := 5) rfl (.cons (i := 7) rfl (.nil))))) ?_
      refine W.seq fun K20 hK20 => ?_
      refine W.seqR fun Q21 hQ21 => ?_
      refine WL.q (Y.move (.pl rfl)) rfl ?_
      refine WL.q (Y.eql (.pl rfl) (.pl rfl)) rfl ?_
      refine WL.next hQ21 (.cons (i := 0) rfl (.cons (i := 1) rfl (.cons (i := 5) rfl (.cons (i := 7) rfl (.cons (i := 97) rfl (.nil)))))) ?_
      refine W.cond (.pl rfl) (fun hC22 => ?_) (fun hC22 => ?_)
      · replace hF := cpos hC22 hF
        refine W.seqR fun Q23 hQ23 => ?_
        refine WL.q (Y.assign (.pl rfl)) rfl ?_
        refine WL.next hQ23 (.cons (i := 6) rfl (.nil)) ?_
        obtain rfl := Option.some.inj hF
        refine W.retV (fn := Tryd.f33) (vs := [.int .i64 4]) Tryd.results33 ⟨.tmp rfl, trivial⟩ (fun _ _ h => h) (fun wz hw => ?_)
        exact hR _ _ ⟨(A6, c7), trivial, rfl, (hw.pickK 3 [1, 2] rfl)⟩
      · replace hF := cneg hC22 hF
        refine W.skip ?_
        refine W.go hK20 (.cons (i := 0) rfl (.cons (i := 1) rfl (.cons (i := 5) rfl (.cons (i := 7) rfl (.nil))))) ?_
        refine W.seqR fun Q24 hQ24 => ?_
        refine WL.q (Y.move (.pl rfl)) rfl ?_
        refine WL.q (Y.nilCheck (.pl rfl)) rfl ?_
        refine WL.q (Y.fieldAddr0 (off := 1) (ft := 41) Tryd.underlying70 rfl cells41 (.pl rfl)) rfl ?_
        refine WL.q (Y.loadB (v := .slice A6 (out8).length c7) Tryd.underlying41 rfl (.pl rfl) (i := 1) rfl (rfl)) rfl ?_
        refine WL.q (Y.move (.pl rfl)) rfl ?_
        obtain ⟨hk22, hF⟩ := ckh hF
        refine WL.q (Y.sub (.pl rfl) (.pl rfl) (ok64_lt (hk22))) rfl ?_
        obtain ⟨x23, hx23, hF⟩ := bnd hF
        refine WL.q (Y.rowEl Tryd.underlying41 cells81 (i := 2) rfl (.pl rfl) rfl (.pl rfl) (ix_lt (hx23))) rfl ?_
        refine WL.q (Y.assign (.pl rfl)) rfl ?_
        refine WL.next hQ24 (.cons (i := 0) rfl (.cons (i := 1) rfl (.cons (i := 5) rfl (.cons (i := 8) rfl (.nil))))) ?_
        refine W.seq fun K25 hK25 => ?_
        refine W.seqD (by kernel_rfl) (by kernel_rfl) fun R26 hR26 => ?_
        refine WD.q (Y.move (.pl rfl)) rfl ?_
        refine WD.q (Y.nilCheck (.pl rfl)) rfl ?_
        refine WD.q (Y.rowField (off := 1) (ft := 3) Tryd.underlying81 rfl cells3 (i' := 2) rfl (ix_lt (hx23)) (.pl rfl)) rfl ?_
        refine WD.q (Y.loadR (enc := encCall) (v := .int .i64 x23.thing) (a := x23) (idx := (x13 - 1)) (j := 1) Tryd.underlying3 rfl lenCall (i := 2) rfl (.pl rfl) (ix_get (hx23)) rfl rfl) rfl ?_
        refine WD.q (Y.fieldAddr0 (off := 1) (ft := 3) Tryd.underlying32 rfl cells3 (.pl rfl)) rfl ?_
        refine WD.q (Y.loadB (v := .int .i64 v11.thing) Tryd.underlying3 rfl (.pl rfl) (i := 0) rfl (rfl)) rfl ?_
        refine WD.q (Y.neq (.pl rfl) (.pl rfl)) rfl ?_
        refine WD.q (Y.move (.pl rfl)) rfl ?_
        refine WD.g (.pl rfl rfl rfl) (fun hg => Y.move (.pl rfl)) rfl ?_
        refine WD.g (.pl rfl rfl rfl) (fun hg => Y.nilCheck (.gd (hg) rfl)) rfl ?_
        refine WD.g (.pl rfl rfl rfl) (fun hg => Y.rowField (off := 2) (ft := 3) Tryd.underlying81 rfl cells3 (i' := 2) rfl (ix_lt (hx23)) (.gd (hg) rfl)) rfl ?_
        refine WD.g (.pl rfl rfl rfl) (fun hg => Y.loadR (enc := encCall) (v := .int .i64 x23.kind) (a := x23) (idx := (x13 - 1)) (j := 2) Tryd.underlying3 rfl lenCall (i := 2) rfl (.gd (hg) rfl) (ix_get (hx23)) rfl rfl) rfl ?_
        refine WD.g (.pl rfl rfl rfl) (fun hg => Y.fieldAddr0 (off := 3) (ft := 3) Tryd.underlying32 rfl cells3 (.pl rfl)) rfl ?_
        refine WD.g (.pl rfl rfl rfl) (fun hg => Y.loadB (v := .int .i64 v11.value) Tryd.underlying3 rfl (.gd (hg) rfl) (i := 0) rfl (rfl)) rfl ?_
        obtain ⟨r24, hr24, hF⟩ := bnd hF
        refine WD.gP (.pl rfl rfl rfl) isGo45 (fun hg => (.cons (.gd (hg) rfl) (.cons (.gd (hg) rfl) (.nil)))) rfl (fun hg wz hw => history_result_ok (gpos hg hr24) wz ) ?_
        refine WD.g (.pl rfl rfl rfl) (fun hg => Y.not (.gd (hg) rfl)) rfl ?_
        refine WD.q (Y.or (.pl rfl) (fun h2 => .gd (eqf h2) rfl)) rfl ?_
        refine WD.next hR26 (.cons (i := 0) rfl (.cons (i := 1) rfl (.cons (i := 5) rfl (.cons (i := 8) rfl (.cons (i := 121) rfl (.nil)))))) ?_
        refine W.cond (.pl rfl) (fun hC27 => ?_) (fun hC27 => ?_)
        · replace hF := cpos hC27 hF
          refine W.seqR fun Q28 hQ28 => ?_
          refine WL.q (Y.assign (.pl rfl)) rfl ?_
          refine WL.next hQ28 (.cons (i := 6) rfl (.nil)) ?_
          obtain rfl := Option.some.inj hF
          refine W.retV (fn := Tryd.f33) (vs := [.int .i64 3]) Tryd.results33 ⟨.tmp rfl, trivial⟩ (fun _ _ h => h) (fun wz hw => ?_)
          exact hR _ _ ⟨(A6, c7), trivial, rfl, (hw.pickK 3 [1, 2] rfl)⟩
        · replace hF := cneg hC27 hF
          refine W.skip ?_
          refine W.go hK25 (.cons (i := 0) rfl (.cons (i := 1) rfl (.cons (i := 5) rfl (.cons (i := 8) rfl (.nil))))) ?_
          refine W.seqR fun Q29 hQ29 => ?_
          refine WL.q (Y.move (.pl rfl)) rfl ?_
          refine WL.q (Y.move (.pl rfl)) rfl ?_
          refine WL.q (Y.fieldAddr0 (off := 3) (ft := 3) Tryd.underlying32 rfl cells3 (.pl rfl)) rfl ?_
          refine WL.q (Y.loadB (v := .int .i64 v11.value) Tryd.underlying3 rfl (.pl rfl) (i := 0) rfl (rfl)) rfl ?_
          refine WL.q (Y.move (.pl rfl)) rfl ?_
          refine WL.q (Y.nilCheck (.pl rfl)) rfl ?_
          refine WL.q (Y.rowField (off := 4) (ft := 3) Tryd.underlying81 rfl cells3 (i' := 2) rfl (ix_lt (hx23)) (.pl rfl)) rfl ?_
          refine WL.step (WO.storeS (enc := encCall) (a := x23) (a' := (Call.mk x23.who x23.thing x23.kind x23.arg v11.value x23.from_ x23.to_)) (idx := (x13 - 1)) (j := 4) cells3 (.pl rfl) (.pl rfl) rfl lenCall (i := 2) rfl (ix_get (hx23)) rfl (by decide) rfl ?_)
          refine WL.q (Y.nilCheck (.pl rfl)) rfl ?_
          refine WL.q (Y.rowField (off := 6) (ft := 3) Tryd.underlying81 rfl cells3 (i' := 2) rfl (⟨(ix_lt (hx23)).1, by simpa only [List.length_set] using (ix_lt (hx23)).2⟩) (.pl rfl)) rfl ?_
          refine WL.step (WO.storeFS (enc := encCall) (a := (Call.mk x23.who x23.thing x23.kind x23.arg v11.value x23.from_ x23.to_)) (a' := (Call.mk x23.who x23.thing x23.kind x23.arg v11.value x23.from_ i10)) (idx := (x13 - 1)) (j := 6) cells3 (.pl rfl) (.pl rfl) rfl lenCall (i := 2) rfl (ix_lt (hx23)) rfl (by decide) rfl ?_)
          refine WL.next hQ29 (.cons (i := 0) rfl (.cons (i := 5) rfl (.nil))) ?_
          refine W.seqT 6 (by kernel_rfl) (by kernel_rfl) fun Q30 hQ30 => ?_
          refine WS.q (Y.move (.pl rfl)) rfl ?_
          refine WS.q (Y.fieldAddr0 (off := 0) (ft := 3) Tryd.underlying32 rfl cells3 (.pl rfl)) rfl ?_
          refine WS.q (Y.loadB (v := .int .i64 v11.who) Tryd.underlying3 rfl (.pl rfl) (i := 0) rfl (rfl)) rfl ?_
          refine WS.q (Y.nilCheck (.pl rfl)) rfl ?_
          refine WS.q (Y.fieldAddr0 (off := 2) (ft := 68) Tryd.underlying70 rfl cells68 (.pl rfl)) rfl ?_
          obtain ⟨x25, hx25, hF⟩ := bnd hF
          refine WS.q (Y.arrZ Tryd.underlying68 cells3 (.pl rfl) (.pl rfl) (ax_lt (hx25))) rfl ?_
          refine WS.tail ?_
          refine WL.step (WO.storeB (cs' := (Value.slice A3 (types2).length c4 :: (Value.slice A6 (out8).length c7 :: (((encA 8 (eI .i64) 0) (setA 8 0 open9 v11.who 0)) ++ [])))) cells3 (.pl rfl) (.pl rfl) rfl (i := 1) rfl (ltl (m := 10) (offlt (off := 2) (sz := 1) (j := 0) (ax_nat (hx25)) (by decide)) rfl) (cellsSet (pre := (Value.slice A3 (types2).length c4 :: (Value.slice A6 (out8).length c7 :: []))) (off := 2) (post := []) (a := open9) (enc := (eI .i64)) (d := 0) (n := 8) (sz := 1) (j := 0) (x := x25) (x' := 0) (fun _ => rfl) rfl (ax_lt (hx25)) (ax_get (hx25)) (by decide) rfl rfl) ?_)
          refine WL.next hQ30 (.nil) ?_
          refine W.seqR fun Q31 hQ31 => ?_
          refine WL.q (Y.assign (.pl rfl)) rfl ?_
          refine WL.next hQ31 (.cons (i := 6) rfl (.nil)) ?_
          obtain rfl := Option.some.inj hF
          refine W.retV (fn := Tryd.f33) (vs := [.int .i64 0]) Tryd.results33 ⟨.tmp rfl, trivial⟩ (fun _ _ h => h) (fun wz hw => ?_)
          exact hR _ _ ⟨(A6, c7), trivial, rfl, (St.cong (L := ([cBx b1 70 (Value.slice A3 (types2).length c4 :: (Value.slice A6 (out8).length c7 :: (((encA 8 (eI .i64) 0) (setA 8 0 open9 v11.who 0)) ++ []))), cR encCall 7 A6 c7 81 (out8.set (x13 - 1).toNat (Call.mk x23.who x23.thing x23.kind x23.arg v11.value x23.from_ i10))] ++ T)) (hw.pickK 3 [1, 2] rfl) (by simp only [List.length_set, List.nil_append, List.cons_append]))⟩

def history_Calls_L3 (N : Nat) (l6 : (List Event)) (types1 : (List Int)) : ((List Call) × (List Int) × Int) → Option (((List Call) × (List Int) × Int) ⊕ (((List Call) × (List Int)) ⊕ ((List Call) × Int × Int)))
  | (out19, open20, v21) =>
    cond (decide (v21 < ((l6).length : Int)))
      (bd (ix l6 v21) fun (x22 : Event) =>
      bd (history_reader_event N types1 out19 open20 v21 x22) fun (r24 : ((List Call) × (List Int) × Int)) =>
      cond (!(decide (r24.2.2 = 0)))
        (some (.inr (.inr ([], v21, r24.2.2))))
        (ck (ok64 (v21 + 1)) <|
        some (.inl (r24.1, r24.2.1, (v21 + 1)))))
      (some (.inr (.inl (out19, open20))))

def history_Calls (N : Nat) (types1 : (List Int)) (l6 : (List Event)) : Option ((List Call) × Int × Int) :=
  bd (history_Types N types1) fun (r11 : Int) =>
  cond (!(decide (r11 = 0)))
    (some ([], 0, r11))
    (cond (decide (200 < ((l6).length : Int)))
      (some ([], 0, 2))
      (bd (α := (((List Call) × (List Int)) ⊕ ((List Call) × Int × Int))) (iter (history_Calls_L3 N l6 types1) N ([], [], 0)) <|
      Sum.elim (fun (out15, open16) => 
        some (out15, 0, 0)) (fun p => some p)))

theorem history_Calls_ok {N : Nat} {types1 : (List Int)} {l6 : (List Event)} {res : ((List Call) × Int × Int)} (hF : history_Calls N types1 l6 = some res) (w : World) {v5 : Value} (hs4 : SlIn (eI .i64) 1 w v5 types1) {v10 : Value} (hs9 : SlIn encEvent 4 w v10 l6) :
    Made Tryd.prog 15 [v5, v10] w (fun g : (Option Addr × Nat) => .tuple #[.slice g.1 (res.1).length g.2, .int .i64 res.2.1, .int .i64 res.2.2]) (fun g => [cR encCall 7 g.1 g.2 81 res.1]) (fun g => True) := by
  obtain ⟨A2, c3, rfl, hcc3, hs4⟩ := hs4.form
  obtain ⟨A7, c8, rfl, hcc8, hs9⟩ := hs9.form
  refine W.enter (n := 43) Tryd.func15 rfl rfl Sub.refl (by simp) (St.start w) fun R hR => ?_
  unfold history_Calls at hF
  refine W.seqR fun Q1 hQ1 => ?_
  refine WL.q (Y.assign (.pl rfl)) rfl ?_
  refine WL.q (Y.assign (.pl rfl)) rfl ?_
  refine WL.q (Y.assign (.pl rfl)) rfl ?_
  refine WL.next hQ1 (.cons (i := 0) rfl (.cons (i := 1) rfl (.nil))) ?_
  refine W.seq fun K2 hK2 => ?_
  refine W.seqR fun Q3 hQ3 => ?_
  refine WL.q (Y.move (.pl rfl)) rfl ?_
  obtain ⟨r11, hr11, hF⟩ := bnd hF
  refine WL.step (WO.callP isGo32 (.cons (.pl rfl) (.nil)) rfl (fun wz hw => history_Types_ok (hr11) wz (hs4.mono hw)) ?_)
  refine WL.q (Y.assign (.pl rfl)) rfl ?_
  refine WL.next hQ3 (.cons (i := 0) rfl (.cons (i := 1) rfl (.cons (i := 7) rfl (.nil)))) ?_
  refine W.seqR fun Q4 hQ4 => ?_
  refine WL.q (Y.move (.pl rfl)) rfl ?_
  refine WL.q (Y.neq (.pl rfl) (.pl rfl)) rfl ?_
  refine WL.next hQ4 (.cons (i := 0) rfl (.cons (i := 1) rfl (.cons (i := 7) rfl (.cons (i := 15) rfl (.nil))))) ?_
  refine W.cond (.pl rfl) (fun hC5 => ?_) (fun hC5 => ?_)
  · replace hF := cpos hC5 hF
    refine W.seqR fun Q6 hQ6 => ?_
    refine WL.q (Y.move (.pl rfl)) rfl ?_
    refine WL.q (Y.assign (.pl rfl)) rfl ?_
    refine WL.q (Y.assign (.pl rfl)) rfl ?_
    refine WL.q (Y.assign (.pl rfl)) rfl ?_
    refine WL.next hQ6 (.cons (i := 4) rfl (.cons (i := 5) rfl (.cons (i := 6) rfl (.nil)))) ?_
    obtain rfl := Option.some.inj hF
    refine W.retV (fn := Tryd.f15) (vs := [.slice none 0 0, .int .i64 0, .int .i64 r11]) Tryd.results15 ⟨.tmp rfl, ⟨.tmp rfl, ⟨.tmp rfl, trivial⟩⟩⟩ (fun _ _ h => h) (fun wz hw => ?_)
    exact hR _ _ ⟨(none, 0), trivial, rfl, ((St.nilR (hw.pick [] rfl) encCall 7 81).pick [0] rfl)⟩
  · replace hF := cneg hC5 hF
    refine W.skip ?_
    refine W.go hK2 (.cons (i := 0) rfl (.cons (i := 1) rfl (.nil))) ?_
    refine W.seq fun K7 hK7 => ?_
    refine W.seqR fun Q8 hQ8 => ?_
    refine WL.q (Y.move (.pl rfl)) rfl ?_
    refine WL.q (Y.len Tryd.underlying23 (.pl rfl)) rfl ?_
    refine WL.q (Y.gtr (.pl rfl) (.pl rfl)) rfl ?_
    refine WL.next hQ8 (.cons (i := 0) rfl (.cons (i := 1) rfl (.cons (i := 19) rfl (.nil)))) ?_
    refine W.cond (.pl rfl) (fun hC9 => ?_) (fun hC9 => ?_)
    · replace hF := cpos hC9 hF
      refine W.seqR fun Q10 hQ10 => ?_
      refine WL.q (Y.assign (.pl rfl)) rfl ?_
      refine WL.q (Y.assign (.pl rfl)) rfl ?_
      refine WL.q (Y.assign (.pl rfl)) rfl ?_
      refine WL.next hQ10 (.cons (i := 4) rfl (.cons (i := 5) rfl (.cons (i := 6) rfl (.nil)))) ?_
      obtain rfl := Option.some.inj hF
      refine W.retV (fn := Tryd.f15) (vs := [.slice none 0 0, .int .i64 0, .int .i64 2]) Tryd.results15 ⟨.tmp rfl, ⟨.tmp rfl, ⟨.tmp rfl, trivial⟩⟩⟩ (fun _ _ h => h) (fun wz hw => ?_)
      exact hR _ _ ⟨(none, 0), trivial, rfl, ((St.nilR (hw.pick [] rfl) encCall 7 81).pick [0] rfl)⟩
    · replace hF := cneg hC9 hF
      refine W.skip ?_
      refine W.go hK7 (.cons (i := 0) rfl (.cons (i := 1) rfl (.nil))) ?_
      refine W.seqR fun Q11 hQ11 => ?_
      refine WL.q (Y.move (.pl rfl)) rfl ?_
      refine WL.q (Y.build (cs := (Value.slice A2 (types1).length c3 :: (Value.slice none 0 0 :: (((encA 8 (eI .i64) 0) []) ++ []))).toArray) shape70 (.cons (.pl rfl) (.nil)) (one_parts ⟨rfl, trivial⟩) rfl) rfl ?_
      refine WL.step (WO.boxA (.pl rfl) rfl fun b12 => ?_)
      refine WL.q (Y.assign (.pl rfl)) rfl ?_
      refine WL.next hQ11 (.cons (i := 1) rfl (.cons (i := 8) rfl (.nil))) ?_
      obtain ⟨o12, hF12, hF⟩ := bnd hF
      refine W.join4 (Em := fun (out15 : (List Call)) (open16 : (List Int)) (A13 : Option Addr) (c14 : Nat) => []) (M := fun out15 open16 A13 c14 => [cBx b12 70 (Value.slice A2 (types1).length c3 :: (Value.slice A13 (out15).length c14 :: (((encA 8 (eI .i64) 0) open16) ++ []))), cR encCall 7 A13 c14 81 out15]) (I := fun out15 open16 A13 c14 => (.inl (out15, open16)) = o12) (.cons (i := 8) rfl (.nil)) (fun K13 hK13 => ?_) ?_
      · -- up to
        refine W.seqR fun Q14 hQ14 => ?_
        refine WL.q (Y.move (.pl rfl)) rfl ?_
        refine WL.q (Y.len Tryd.underlying23 (.pl rfl)) rfl ?_
        refine WL.q (Y.move (.pl rfl)) rfl ?_
        refine WL.next hQ14 (.cons (i := 8) rfl (.cons (i := 23) rfl (.cons (i := 24) rfl (.cons (i := 25) rfl (.nil))))) ?_
        refine W.block ?_
        refine W.loop5 (Em := fun (out19 : (List Call)) (open20 : (List Int)) (v21 : Int) (A17 : Option Addr) (c18 : Nat) => [(25, .int .i64 v21)]) (M := fun out19 open20 v21 A17 c18 => [cBx b12 70 (Value.slice A2 (types1).length c3 :: (Value.slice A17 (out19).length c18 :: (((encA 8 (eI .i64) 0) open20) ++ []))), cR encCall 7 A17 c18 81 out19]) (I := fun out19 open20 v21 A17 c18 k15 => iter (history_Calls_L3 N l6 types1) k15 (out19, open20, v21) = some o12) [] [] 0 none 0 N (hF12) (.cons rfl (.nil)) (.cons (i := 8) rfl (.cons (i := 23) rfl (.cons (i := 24) rfl (.nil)))) (fun wz hw => (St.nilR (hw.pick [0] rfl) encCall 7 81).pick [1, 0] rfl) (fun out19 open20 v21 A17 c18 k15 hI K16 hK16 => ?_)
        obtain ⟨k15, t15, rfl, hF15, hN15⟩ := iter_step hI
        refine W.seqR fun Q17 hQ17 => ?_
        refine WL.q (Y.lss (.pl rfl) (.pl rfl)) rfl ?_
        refine WL.next hQ17 (.cons (i := 8) rfl (.cons (i := 23) rfl (.cons (i := 24) rfl (.cons (i := 25) rfl (.cons (i := 26) rfl (.nil)))))) ?_
        refine W.seq fun K18 hK18 => ?_
        refine W.cond (.pl rfl) (fun hC19 => ?_) (fun hC19 => ?_)
        · replace hF15 := cpos hC19 hF15
          refine W.skip ?_
          refine W.go hK18 (.cons (i := 8) rfl (.cons (i := 23) rfl (.cons (i := 24) rfl (.cons (i := 25) rfl (.nil))))) ?_
          refine W.seq fun K20 hK20 => ?_
          refine W.block ?_
          refine W.seqR fun Q21 hQ21 => ?_
          refine WL.q (Y.move (.pl rfl)) rfl ?_
          obtain ⟨x22, hx22, hF15⟩ := bnd hF15
          refine WL.q (Y.slEl Tryd.underlying23 cells32 hs9 (.pl rfl) (.pl rfl) (ix_lt (hx22))) rfl ?_
          refine WL.q (Y.loadSA (enc := encEvent) (ds := (encEvent x22)) (j := 0) Tryd.underlying32 rfl cells32 hs9 (.pl rfl) (hx22) rfl rfl subW) rfl ?_
          refine WL.step (WO.alloc (cs := (encEvent (Event.mk 0 0 0 0)).toArray) zero32 rfl rfl fun b23 => ?_)
          refine WL.q (Y.assign (.pl rfl)) rfl ?_
          refine WL.step (WO.storeBA (ds := (encEvent x22)) (cs' := (encEvent x22)) cells32 (.pl rfl) (.pl rfl) rfl (oneEvent _) (i := 0) rfl (lel (o := 0) (l := 4) (m := 4) (by decide) rfl rfl) (putW rfl) ?_)
          refine WL.next hQ21 (.cons (i := 8) rfl (.cons (i := 9) rfl (.cons (i := 10) rfl (.cons (i := 23) rfl (.cons (i := 24) rfl (.cons (i := 25) rfl (.nil))))))) ?_
          refine W.seqR fun Q22 hQ22 => ?_
          refine WL.q (Y.move (.pl rfl)) rfl ?_
          refine WL.q (Y.move (.pl rfl)) rfl ?_
          refine WL.q (Y.loadBA (ds := (encEvent x22)) Tryd.underlying32 rfl cells32 (.pl rfl) (i := 0) rfl rfl subW) rfl ?_
          obtain ⟨r24, hr24, hF15⟩ := bnd hF15
          refine WL.step (WO.call (γ := (Option Addr × Nat)) (fun g => .int .i64 r24.2.2) (fun g => [cBx b12 70 (Value.slice A2 (types1).length c3 :: (Value.slice g.1 (r24.1).length g.2 :: (((encA 8 (eI .i64) 0) r24.2.1) ++ []))), cR encCall 7 g.1 g.2 81 r24.1, cBx b23 32 (encEvent x22)]) (fun g => True) isGo33 (.cons (.pl rfl) (.cons (.pl rfl) (.cons (.pl rfl) (.nil)))) rfl (fun wz hw => history_reader_event_ok (T := [cBx b23 32 (encEvent x22)]) (hr24) (hw.pick [1, 2, 0] rfl) hs4) ?_)
          rintro ⟨A25, c26⟩ -
          refine WL.q (Y.assign (.pl rfl)) rfl ?_
          refine WL.next hQ22 (.cons (i := 8) rfl (.cons (i := 9) rfl (.cons (i := 11) rfl (.cons (i := 23) rfl (.cons (i := 24) rfl (.cons (i := 25) rfl (.nil))))))) ?_
          refine W.seqR fun Q23 hQ23 => ?_
          refine WL.q (Y.move (.pl rfl)) rfl ?_
          refine WL.q (Y.neq (.pl rfl) (.pl rfl)) rfl ?_
          refine WL.next hQ23 (.cons (i := 8) rfl (.cons (i := 9) rfl (.cons (i := 11) rfl (.cons (i := 23) rfl (.cons (i := 24) rfl (.cons (i := 25) rfl (.cons (i := 35) rfl (.nil)))))))) ?_
          refine W.cond (.pl rfl) (fun hC24 => ?_) (fun hC24 => ?_)
          · replace hF15 := cpos hC24 hF15
            refine W.seqR fun Q25 hQ25 => ?_
            refine WL.q (Y.move (.pl rfl)) rfl ?_
            refine WL.q (Y.move (.pl rfl)) rfl ?_
            refine WL.q (Y.assign (.pl rfl)) rfl ?_
            refine WL.q (Y.assign (.pl rfl)) rfl ?_
            refine WL.q (Y.assign (.pl rfl)) rfl ?_
            refine WL.next hQ25 (.cons (i := 4) rfl (.cons (i := 5) rfl (.cons (i := 6) rfl (.nil)))) ?_
            obtain rfl := Option.some.inj hF15
            obtain rfl := einr hN15
            obtain rfl := Option.some.inj hF
            refine W.retV (fn := Tryd.f15) (vs := [.slice none 0 0, .int .i64 v21, .int .i64 r24.2.2]) Tryd.results15 ⟨.tmp rfl, ⟨.tmp rfl, ⟨.tmp rfl, trivial⟩⟩⟩ (fun _ _ h => h) (fun wz hw => ?_)
            exact hR _ _ ⟨(none, 0), trivial, rfl, ((St.nilR (hw.pick [] rfl) encCall 7 81).pick [0] rfl)⟩
          · replace hF15 := cneg hC24 hF15
            refine W.skip ?_
            refine W.go hK20 (.cons (i := 8) rfl (.cons (i := 23) rfl (.cons (i := 24) rfl (.cons (i := 25) rfl (.nil))))) ?_
            refine W.reg ?_
            obtain ⟨hk27, hF15⟩ := ckh hF15
            refine WL.q (Y.add (.pl rfl) (.pl rfl) (ok64_lt (hk27))) rfl ?_
            refine WL.q (Y.move (.pl rfl)) rfl ?_
            refine WL.nil ?_
            obtain rfl := Option.some.inj hF15
            exact W.again5 hK16 r24.1 r24.2.1 (v21 + 1) A25 c26 k15 hN15 (Nat.lt_succ_self _) (.cons rfl (.nil)) (.cons (i := 8) rfl (.cons (i := 23) rfl (.cons (i := 24) rfl (.nil)))) (fun wz hw => hw.pick [0, 1] rfl)
        · replace hF15 := cneg hC19 hF15
          refine W.exit ?_
          obtain rfl := Option.some.inj hF15
          exact W.joinAt4 hK13 out19 open20 A17 c18 (einr hN15) (.nil) (.cons (i := 8) rfl (.nil)) (fun wz hw => hw.pick [0, 1] rfl)
      · -- behind
        rintro out15 open16 A13 c14 rfl
        refine W.seqR fun Q27 hQ27 => ?_
        refine WL.q (Y.move (.pl rfl)) rfl ?_
        refine WL.q (Y.nilCheck (.pl rfl)) rfl ?_
        refine WL.q (Y.fieldAddr0 (off := 1) (ft := 41) Tryd.underlying70 rfl cells41 (.pl rfl)) rfl ?_
        refine WL.q (Y.loadB (v := .slice A13 (out15).length c14) Tryd.underlying41 rfl (.pl rfl) (i := 0) rfl (rfl)) rfl ?_
        refine WL.q (Y.assign (.pl rfl)) rfl ?_
        refine WL.q (Y.assign (.pl rfl)) rfl ?_
        refine WL.q (Y.assign (.pl rfl)) rfl ?_
        refine WL.next hQ27 (.cons (i := 4) rfl (.cons (i := 5) rfl (.cons (i := 6) rfl (.nil)))) ?_
        obtain rfl := Option.some.inj hF
        refine W.retV (fn := Tryd.f15) (vs := [.slice A13 (out15).length c14, .int .i64 0, .int .i64 0]) Tryd.results15 ⟨.tmp rfl, ⟨.tmp rfl, ⟨.tmp rfl, trivial⟩⟩⟩ (fun _ _ h => h) (fun wz hw => ?_)
        exact hR _ _ ⟨(A13, c14), trivial, rfl, (hw.pick [1] rfl)⟩

theorem lay_Lays_n240 : Lays.n240 Tryd.prog shren where
  mixed := by kernel_rfl
  f240 := Tryd.func34.trans (congrArg some (by kernel_rfl))
  f276 := Tryd.func46.trans (congrArg some (by kernel_rfl))
  t0 := Tryd.underlying0
  a0 := Tryd.isAgg0
  z0 := Tryd.sizeOf0
  v0 := Tryd.zeroValue0
  t4 := Tryd.underlying4
  a4 := Tryd.isAgg4
  z4 := Tryd.sizeOf4
  v4 := Tryd.zeroValue4
  t9 := Tryd.underlying9
  a9 := Tryd.isAgg9
  z9 := Tryd.sizeOf9
  v9 := Tryd.zeroValue9
  t20 := Tryd.underlying20
  a20 := Tryd.isAgg20
  z20 := Tryd.sizeOf20
  v20 := Tryd.zeroValue20
  t70 := Tryd.underlying44
  a70 := Tryd.isAgg44
  z70 := Tryd.sizeOf44
  v70 := Tryd.zeroValue44
  t72 := Tryd.underlying47
  a72 := Tryd.isAgg47
  z72 := Tryd.sizeOf47
  v72 := Tryd.zeroValue47
  t164 := Tryd.underlying83
  a164 := Tryd.isAgg83
  z164 := Tryd.sizeOf83
  v164 := Tryd.zeroValue83

theorem lay_Builder_Extra : Builder.Extra Tryd.prog shren where
  sizeBuilder := by kernel_rfl
  liesBuilder := by kernel_rfl
  t5 := Tryd.underlying5
  a5 := Tryd.isAgg5
  z5 := Tryd.sizeOf5
  v5 := Tryd.zeroValue5
  infoByte := by kernel_rfl
  cellsByte := by kernel_rfl
  sizeByte := by kernel_rfl
  neB5 := by decide

def sbw (N : Nat) (l s : ByteArray) : Option ByteArray := if l.size + s.size ≤ 140737488351232 then some (l ++ s) else none
theorem copyCheck_ok {b : Nat} {p v : Value} (hp : p = .pointer none ∨ p = .pointer (some ⟨b, 0, none⟩)) {w0 w : World} {T : List Chunk} (hw : St w0.heap.size w0 (cBx b 47 [p, v] :: T) w) : Calls Tryd.prog 34 (List.toArray [.pointer (some ⟨b, 0, none⟩)]) w (fun e w' => ∃ g : Unit, True ∧ e = .returned (.tuple #[]) ∧ St w0.heap.size w0 (cBx b 47 [.pointer (some ⟨b, 0, none⟩), v] :: T) w') := by
  have ho := hw.obj (i := 0) rfl
  have h0 : w.cell? ⟨b, 0, none⟩ = some p := cell_of_obj ho rfl
  rcases hp with rfl | rfl
  · refine (Any.Builder_copyCheck_fresh lay_Lays_n240 lay_Builder_Extra.toX72 b w h0 (by simp [World.shape?, ho]; rfl) (by simp [World.frozen?, ho])).mono fun e w' ⟨h1, h2⟩ => ⟨(), trivial, h1, ?_⟩
    subst h2
    exact (hw.store (i := 0) (k := 0) rfl (by simp) _).2.2
  · refine (Any.Builder_copyCheck_used lay_Lays_n240 lay_Builder_Extra.toX72 b w h0).mono fun e w' ⟨h1, h2⟩ => ⟨(), trivial, h1, ?_⟩
    subst h2; exact hw
theorem strings_Builder_WriteString_ok {N : Nat} {lI1 sI6 : ByteArray} {bI2 : Nat} {pI3 : Value} {AI4 : Option Addr} {cI5 : Nat} {res : ByteArray} (hF : sbw N lI1 sI6 = some res) {w0 w : World} {T : List Chunk} (hw : St w0.heap.size w0 ([cSB 47 5 bI2 pI3 AI4 cI5 lI1] ++ T) w) :
    Calls Tryd.prog 16 (List.toArray [.pointer (some ⟨bI2, 0, none⟩), .string sI6]) w (fun e w' => ∃ g : (Value × Option Addr × Nat), (True) ∧ e = .returned (.tuple #[.int .i64 ((sI6).size : Int), (ifV 0)]) ∧ St w0.heap.size w0 ([cSB 47 5 bI2 g.1 g.2.1 g.2.2 res] ++ T) w') := by
  obtain ⟨hp, hw⟩ := St.sbOpen hw
  unfold sbw at hF
  split at hF
  case isFalse => cases hF
  rename_i hl
  obtain rfl := Option.some.inj hF
  refine W.enter (n := 19) Tryd.func16 rfl rfl Sub.refl (by simp) hw fun R hR => ?_
  refine W.seqR fun Q1 hQ1 => ?_
  refine WL.q (Y.assign (.pl rfl)) rfl ?_
  refine WL.q (Y.assign (.pl rfl)) rfl ?_
  refine WL.next hQ1 (.cons (i := 0) rfl (.cons (i := 1) rfl (.nil))) ?_
  refine W.seqR fun Q2 hQ2 => ?_
  refine WL.q (Y.move (.pl rfl)) rfl ?_
  refine WL.step (WO.call (γ := Unit) (fun g => .tuple #[]) (fun g => cBx bI2 47 [(.pointer (some ⟨bI2, 0, none⟩)), .slice AI4 (lI1).size cI5] :: cRow AI4 cI5 5 1 lI1.size (Lib.strCells lI1) :: T) (fun g => True) isGo34 (.cons (.pl rfl) (.nil)) rfl (fun wz hw => copyCheck_ok hp hw) ?_)
  rintro ⟨⟩ -
  refine WL.next hQ2 (.cons (i := 0) rfl (.cons (i := 1) rfl (.nil))) ?_
  refine W.seqR fun Q3 hQ3 => ?_
  refine WL.q (Y.move (.pl rfl)) rfl ?_
  refine WL.q (Y.move (.pl rfl)) rfl ?_
  refine WL.q (Y.nilCheck (.pl rfl)) rfl ?_
  refine WL.q (Y.fieldAddr0 (off := 1) (ft := 45) Tryd.underlying47 rfl cells45 (.pl rfl)) rfl ?_
  refine WL.q (Y.loadB (v := .slice AI4 (lI1).size cI5) Tryd.underlying45 rfl (.pl rfl) (i := 0) rfl rfl) rfl ?_
  refine WL.q (Y.move (.pl rfl)) rfl ?_
  refine WL.step (WO.appendT Tryd.underlying45 Tryd.underlying9 ⟨_, rfl, by kernel_rfl, by kernel_rfl, by kernel_rfl⟩ (.pl rfl) (.pl rfl) (i := 1) rfl hl rfl fun A' c' => ?_)
  refine WL.q (Y.nilCheck (.pl rfl)) rfl ?_
  refine WL.q (Y.fieldAddr0 (off := 1) (ft := 45) Tryd.underlying47 rfl cells45 (.pl rfl)) rfl ?_
  refine WL.step (WO.storeB (cs' := [(.pointer (some ⟨bI2, 0, none⟩)), .slice A' (lI1.size + sI6.size) c']) cells45 (.pl rfl) (.pl rfl) rfl (i := 0) rfl (ltl (m := 2) (by decide) rfl) rfl ?_)
  refine WL.next hQ3 (.cons (i := 0) rfl (.cons (i := 1) rfl (.nil))) ?_
  refine W.seqR fun Q4 hQ4 => ?_
  refine WL.q (Y.move (.pl rfl)) rfl ?_
  refine WL.q (Y.lenT Tryd.underlying9 (.pl rfl)) rfl ?_
  refine WL.q (Y.assign (.pl rfl)) rfl ?_
  refine WL.q (Y.assign (.pl rfl)) rfl ?_
  refine WL.next hQ4 (.cons (i := 4) rfl (.cons (i := 5) rfl (.nil))) ?_
  refine W.retV (fn := Tryd.f16) (vs := [.int .i64 ((sI6).size : Int), .nilIface]) Tryd.results16 ⟨.tmp rfl, .tmp rfl, trivial⟩ (fun _ _ h => h) (fun wz hw => ?_)
  refine hR _ _ ⟨((.pointer (some ⟨bI2, 0, none⟩)), A', c'), trivial, rfl, ?_⟩
  refine St.sbClose (l := lI1 ++ sI6) ?_
  rw [ByteArray.size_append, strCells_app]
  exact hw

def text_typeWords (N : Nat) : Option Unit :=
  some ()

theorem text_typeWords_ok {N : Nat} {res : Unit} (hF : text_typeWords N = some res) (w : World) :
    Made Tryd.prog 17 [] w (fun g : Option Addr => .slice g (([(⟨#[]⟩ : ByteArray), (⟨#[114, 101, 103]⟩ : ByteArray), (⟨#[113, 117, 101, 117, 101]⟩ : ByteArray), (⟨#[115, 116, 97, 99, 107]⟩ : ByteArray), (⟨#[115, 101, 116]⟩ : ByteArray), (⟨#[116, 105, 99, 107, 101, 116]⟩ : ByteArray)] : List ByteArray)).length (([(⟨#[]⟩ : ByteArray), (⟨#[114, 101, 103]⟩ : ByteArray), (⟨#[113, 117, 101, 117, 101]⟩ : ByteArray), (⟨#[115, 116, 97, 99, 107]⟩ : ByteArray), (⟨#[115, 101, 116]⟩ : ByteArray), (⟨#[116, 105, 99, 107, 101, 116]⟩ : ByteArray)] : List ByteArray)).length) (fun g => [cR eS 1 g (([(⟨#[]⟩ : ByteArray), (⟨#[114, 101, 103]⟩ : ByteArray), (⟨#[113, 117, 101, 117, 101]⟩ : ByteArray), (⟨#[115, 116, 97, 99, 107]⟩ : ByteArray), (⟨#[115, 101, 116]⟩ : ByteArray), (⟨#[116, 105, 99, 107, 101, 116]⟩ : ByteArray)] : List ByteArray)).length 9 ([(⟨#[]⟩ : ByteArray), (⟨#[114, 101, 103]⟩ : ByteArray), (⟨#[113, 117, 101, 117, 101]⟩ : ByteArray), (⟨#[115, 116, 97, 99, 107]⟩ : ByteArray), (⟨#[115, 101, 116]⟩ : ByteArray), (⟨#[116, 105, 99, 107, 101, 116]⟩ : ByteArray)] : List ByteArray)]) (fun g => True) := by
  refine W.enter (n := 2) Tryd.func17 rfl rfl Sub.refl (by simp) (St.start w) fun R hR => ?_
  unfold text_typeWords at hF
  refine W.seqR fun Q1 hQ1 => ?_
  refine WL.q (Y.assign (.pl rfl)) rfl ?_
  refine WL.next hQ1 (.nil) ?_
  refine W.seqR fun Q2 hQ2 => ?_
  refine WL.step (WO.bsliceC (enc := eS) (ys := ([(⟨#[]⟩ : ByteArray), (⟨#[114, 101, 103]⟩ : ByteArray), (⟨#[113, 117, 101, 117, 101]⟩ : ByteArray), (⟨#[115, 116, 97, 99, 107]⟩ : ByteArray), (⟨#[115, 101, 116]⟩ : ByteArray), (⟨#[116, 105, 99, 107, 101, 116]⟩ : ByteArray)] : List ByteArray)) Tryd.underlying38 bz9 (.cons (.pl rfl) (.cons (.pl rfl) (.cons (.pl rfl) (.cons (.pl rfl) (.cons (.pl rfl) (.cons (.pl rfl) (.nil))))))) rfl (fun _ => rfl) rfl rfl (by decide) (by decide) rfl fun b1 => ?_)
  refine WL.q (Y.assign (.pl rfl)) rfl ?_
  refine WL.next hQ2 (.cons (i := 0) rfl (.nil)) ?_
  obtain rfl := Option.some.inj hF
  refine W.retV (fn := Tryd.f17) (vs := [.slice (some ⟨b1, 0, none⟩) (([(⟨#[]⟩ : ByteArray), (⟨#[114, 101, 103]⟩ : ByteArray), (⟨#[113, 117, 101, 117, 101]⟩ : ByteArray), (⟨#[115, 116, 97, 99, 107]⟩ : ByteArray), (⟨#[115, 101, 116]⟩ : ByteArray), (⟨#[116, 105, 99, 107, 101, 116]⟩ : ByteArray)] : List ByteArray)).length (([(⟨#[]⟩ : ByteArray), (⟨#[114, 101, 103]⟩ : ByteArray), (⟨#[113, 117, 101, 117, 101]⟩ : ByteArray), (⟨#[115, 116, 97, 99, 107]⟩ : ByteArray), (⟨#[115, 101, 116]⟩ : ByteArray), (⟨#[116, 105, 99, 107, 101, 116]⟩ : ByteArray)] : List ByteArray)).length]) Tryd.results17 ⟨.tmp rfl, trivial⟩ (fun _ _ h => h) (fun wz hw => ?_)
  exact hR _ _ ⟨(some ⟨b1, 0, none⟩), trivial, rfl, (hw.pick [0] rfl)⟩

theorem lay_LaysM_n171 : LaysM.n171 Tryd.prog shren where
  mixed := by kernel_rfl
  f129 := Tryd.func67.trans (congrArg some (by kernel_rfl))
  f171 := Tryd.func18.trans (congrArg some (by kernel_rfl))
  f243 := Tryd.func35.trans (congrArg some (by kernel_rfl))
  f246 := Tryd.func47.trans (congrArg some (by kernel_rfl))
  f283 := Tryd.func57.trans (congrArg some (by kernel_rfl))
  f284 := Tryd.func58.trans (congrArg some (by kernel_rfl))
  f285 := Tryd.func59.trans (congrArg some (by kernel_rfl))
  f286 := Tryd.func60.trans (congrArg some (by kernel_rfl))
  f317 := Tryd.func66.trans (congrArg some (by kernel_rfl))
  f318 := Tryd.func68.trans (congrArg some (by kernel_rfl))
  f319 := Tryd.func69.trans (congrArg some (by kernel_rfl))
  f320 := Tryd.func70.trans (congrArg some (by kernel_rfl))
  f337 := Tryd.func76.trans (congrArg some (by kernel_rfl))
  f338 := Tryd.func77.trans (congrArg some (by kernel_rfl))
  t0 := Tryd.underlying0
  a0 := Tryd.isAgg0
  z0 := Tryd.sizeOf0
  v0 := Tryd.zeroValue0
  t2 := Tryd.underlying2
  a2 := Tryd.isAgg2
  z2 := Tryd.sizeOf2
  v2 := Tryd.zeroValue2
  t3 := Tryd.underlying3
  a3 := Tryd.isAgg3
  z3 := Tryd.sizeOf3
  v3 := Tryd.zeroValue3
  t4 := Tryd.underlying4
  a4 := Tryd.isAgg4
  z4 := Tryd.sizeOf4
  v4 := Tryd.zeroValue4
  t5 := Tryd.underlying5
  a5 := Tryd.isAgg5
  z5 := Tryd.sizeOf5
  v5 := Tryd.zeroValue5
  t9 := Tryd.underlying9
  a9 := Tryd.isAgg9
  z9 := Tryd.sizeOf9
  v9 := Tryd.zeroValue9
  t20 := Tryd.underlying20
  a20 := Tryd.isAgg20
  z20 := Tryd.sizeOf20
  v20 := Tryd.zeroValue20
  t37 := Tryd.underlying45
  a37 := Tryd.isAgg45
  z37 := Tryd.sizeOf45
  v37 := Tryd.zeroValue45
  t46 := Tryd.underlying87
  a46 := Tryd.isAgg87
  z46 := Tryd.sizeOf87
  v46 := Tryd.zeroValue87
  t51 := Tryd.underlying99
  a51 := Tryd.isAgg99
  z51 := Tryd.sizeOf99
  v51 := Tryd.zeroValue99
  t53 := Tryd.underlying93
  a53 := Tryd.isAgg93
  z53 := Tryd.sizeOf93
  v53 := Tryd.zeroValue93
  t171 := Tryd.underlying92
  a171 := Tryd.isAgg92
  z171 := Tryd.sizeOf92
  v171 := Tryd.zeroValue92
  t173 := Tryd.underlying96
  a173 := Tryd.isAgg96
  z173 := Tryd.sizeOf96
  v173 := Tryd.zeroValue96
  t212 := Tryd.underlying103
  a212 := Tryd.isAgg103
  z212 := Tryd.sizeOf103
  v212 := Tryd.zeroValue103
  t213 := Tryd.underlying104
  a213 := Tryd.isAgg104
  z213 := Tryd.sizeOf104
  t232 := Tryd.underlying123
  a232 := Tryd.isAgg123
  z232 := Tryd.sizeOf123
  v232 := Tryd.zeroValue123
  t233 := Tryd.underlying124
  a233 := Tryd.isAgg124
  z233 := Tryd.sizeOf124
  v233 := Tryd.zeroValue124
  g17 := by kernel_rfl
  g18 := by kernel_rfl
  g19 := by kernel_rfl
  i0 := by kernel_rfl
  i2 := by kernel_rfl
  i3 := by kernel_rfl
  i4 := by kernel_rfl
  i5 := by kernel_rfl
  i9 := by kernel_rfl
  i20 := by kernel_rfl
  i37 := by kernel_rfl
  i46 := by kernel_rfl
  i51 := by kernel_rfl
  i53 := by kernel_rfl
  i171 := by kernel_rfl
  i173 := by kernel_rfl
  i212 := by kernel_rfl
  i232 := by kernel_rfl
  i233 := by kernel_rfl
  m17 := by kernel_rfl
  m18 := by kernel_rfl
  m19 := by kernel_rfl

theorem strconv_Itoa_ok {N : Nat} {nI1 : Int} {res : ByteArray} (hF : itoaO N nI1 = some res) (w : World) (hG : GOkS w) : Pure Tryd.prog 18 [.int .i64 nI1] w (.string res) := itoa_pure lay_LaysM_n171 hF w hG

def text_kindWords (N : Nat) : Option Unit :=
  some ()

theorem text_kindWords_ok {N : Nat} {res : Unit} (hF : text_kindWords N = some res) (w : World) :
    Made Tryd.prog 19 [] w (fun g : Option Addr => .slice g (([(⟨#[101, 110, 100]⟩ : ByteArray), (⟨#[119, 114, 105, 116, 101]⟩ : ByteArray), (⟨#[114, 101, 97, 100]⟩ : ByteArray), (⟨#[101, 110, 113]⟩ : ByteArray), (⟨#[100, 101, 113]⟩ : ByteArray), (⟨#[112, 117, 115, 104]⟩ : ByteArray), (⟨#[112, 111, 112]⟩ : ByteArray), (⟨#[97, 100, 100]⟩ : ByteArray), (⟨#[114, 101, 109, 111, 118, 101]⟩ : ByteArray), (⟨#[104, 97, 115]⟩ : ByteArray), (⟨#[116, 97, 107, 101]⟩ : ByteArray)] : List ByteArray)).length (([(⟨#[101, 110, 100]⟩ : ByteArray), (⟨#[119, 114, 105, 116, 101]⟩ : ByteArray), (⟨#[114, 101, 97, 100]⟩ : ByteArray), (⟨#[101, 110, 113]⟩ : ByteArray), (⟨#[100, 101, 113]⟩ : ByteArray), (⟨#[112, 117, 115, 104]⟩ : ByteArray), (⟨#[112, 111, 112]⟩ : ByteArray), (⟨#[97, 100, 100]⟩ : ByteArray), (⟨#[114, 101, 109, 111, 118, 101]⟩ : ByteArray), (⟨#[104, 97, 115]⟩ : ByteArray), (⟨#[116, 97, 107, 101]⟩ : ByteArray)] : List ByteArray)).length) (fun g => [cR eS 1 g (([(⟨#[101, 110, 100]⟩ : ByteArray), (⟨#[119, 114, 105, 116, 101]⟩ : ByteArray), (⟨#[114, 101, 97, 100]⟩ : ByteArray), (⟨#[101, 110, 113]⟩ : ByteArray), (⟨#[100, 101, 113]⟩ : ByteArray), (⟨#[112, 117, 115, 104]⟩ : ByteArray), (⟨#[112, 111, 112]⟩ : ByteArray), (⟨#[97, 100, 100]⟩ : ByteArray), (⟨#[114, 101, 109, 111, 118, 101]⟩ : ByteArray), (⟨#[104, 97, 115]⟩ : ByteArray), (⟨#[116, 97, 107, 101]⟩ : ByteArray)] : List ByteArray)).length 9 ([(⟨#[101, 110, 100]⟩ : ByteArray), (⟨#[119, 114, 105, 116, 101]⟩ : ByteArray), (⟨#[114, 101, 97, 100]⟩ : ByteArray), (⟨#[101, 110, 113]⟩ : ByteArray), (⟨#[100, 101, 113]⟩ : ByteArray), (⟨#[112, 117, 115, 104]⟩ : ByteArray), (⟨#[112, 111, 112]⟩ : ByteArray), (⟨#[97, 100, 100]⟩ : ByteArray), (⟨#[114, 101, 109, 111, 118, 101]⟩ : ByteArray), (⟨#[104, 97, 115]⟩ : ByteArray), (⟨#[116, 97, 107, 101]⟩ : ByteArray)] : List ByteArray)]) (fun g => True) := by
  refine W.enter (n := 2) Tryd.func19 rfl rfl Sub.refl (by simp) (St.start w) fun R hR => ?_
  unfold text_kindWords at hF
  refine W.seqR fun Q1 hQ1 => ?_
  refine WL.q (Y.assign (.pl rfl)) rfl ?_
  refine WL.next hQ1 (.nil) ?_
  refine W.seqR fun Q2 hQ2 => ?_
  refine WL.step (WO.bsliceC (enc := eS) (ys := ([(⟨#[101, 110, 100]⟩ : ByteArray), (⟨#[119, 114, 105, 116, 101]⟩ : ByteArray), (⟨#[114, 101, 97, 100]⟩ : ByteArray), (⟨#[101, 110, 113]⟩ : ByteArray), (⟨#[100, 101, 113]⟩ : ByteArray), (⟨#[112, 117, 115, 104]⟩ : ByteArray), (⟨#[112, 111, 112]⟩ : ByteArray), (⟨#[97, 100, 100]⟩ : ByteArray), (⟨#[114, 101, 109, 111, 118, 101]⟩ : ByteArray), (⟨#[104, 97, 115]⟩ : ByteArray), (⟨#[116, 97, 107, 101]⟩ : ByteArray)] : List ByteArray)) Tryd.underlying38 bz9 (.cons (.pl rfl) (.cons (.pl rfl) (.cons (.pl rfl) (.cons (.pl rfl) (.cons (.pl rfl) (.cons (.pl rfl) (.cons (.pl rfl) (.cons (.pl rfl) (.cons (.pl rfl) (.cons (.pl rfl) (.cons (.pl rfl) (.nil)))))))))))) rfl (fun _ => rfl) rfl rfl (by decide) (by decide) rfl fun b1 => ?_)
  refine WL.q (Y.assign (.pl rfl)) rfl ?_
  refine WL.next hQ2 (.cons (i := 0) rfl (.nil)) ?_
  obtain rfl := Option.some.inj hF
  refine W.retV (fn := Tryd.f19) (vs := [.slice (some ⟨b1, 0, none⟩) (([(⟨#[101, 110, 100]⟩ : ByteArray), (⟨#[119, 114, 105, 116, 101]⟩ : ByteArray), (⟨#[114, 101, 97, 100]⟩ : ByteArray), (⟨#[101, 110, 113]⟩ : ByteArray), (⟨#[100, 101, 113]⟩ : ByteArray), (⟨#[112, 117, 115, 104]⟩ : ByteArray), (⟨#[112, 111, 112]⟩ : ByteArray), (⟨#[97, 100, 100]⟩ : ByteArray), (⟨#[114, 101, 109, 111, 118, 101]⟩ : ByteArray), (⟨#[104, 97, 115]⟩ : ByteArray), (⟨#[116, 97, 107, 101]⟩ : ByteArray)] : List ByteArray)).length (([(⟨#[101, 110, 100]⟩ : ByteArray), (⟨#[119, 114, 105, 116, 101]⟩ : ByteArray), (⟨#[114, 101, 97, 100]⟩ : ByteArray), (⟨#[101, 110, 113]⟩ : ByteArray), (⟨#[100, 101, 113]⟩ : ByteArray), (⟨#[112, 117, 115, 104]⟩ : ByteArray), (⟨#[112, 111, 112]⟩ : ByteArray), (⟨#[97, 100, 100]⟩ : ByteArray), (⟨#[114, 101, 109, 111, 118, 101]⟩ : ByteArray), (⟨#[104, 97, 115]⟩ : ByteArray), (⟨#[116, 97, 107, 101]⟩ : ByteArray)] : List ByteArray)).length]) Tryd.results19 ⟨.tmp rfl, trivial⟩ (fun _ _ h => h) (fun wz hw => ?_)
  exact hR _ _ ⟨(some ⟨b1, 0, none⟩), trivial, rfl, (hw.pick [0] rfl)⟩

def text_bare (N : Nat) (kind1 : Int) : Option Unit :=
  some ()

theorem text_bare_ok {N : Nat} {kind1 : Int} {res : Unit} (hF : text_bare N kind1 = some res) (w : World) :
    Pure Tryd.prog 20 [.int .i64 kind1] w (.bool ((((decide (kind1 = 2)) || (decide (kind1 = 4))) || (decide (kind1 = 6))) || (decide (kind1 = 10)))) := by
  refine W.enter (n := 17) Tryd.func20 rfl rfl Sub.refl (by simp) (St.start w) fun R hR => ?_
  unfold text_bare at hF
  refine W.seqR fun Q1 hQ1 => ?_
  refine WL.q (Y.assign (.pl rfl)) rfl ?_
  refine WL.next hQ1 (.cons (i := 0) rfl (.nil)) ?_
  refine W.seqR fun Q2 hQ2 => ?_
  refine WL.q (Y.move (.pl rfl)) rfl ?_
  refine WL.q (Y.eql (.pl rfl) (.pl rfl)) rfl ?_
  refine WL.q (Y.move (.pl rfl)) rfl ?_
  refine WL.g (.pl rfl rfl rfl) (fun hg => Y.move (.pl rfl)) rfl ?_
  refine WL.g (.pl rfl rfl rfl) (fun hg => Y.eql (.gd (hg) rfl) (.pl rfl)) rfl ?_
  refine WL.q (Y.or (.pl rfl) (fun h2 => .gd (eqf h2) rfl)) rfl ?_
  refine WL.q (Y.move (.pl rfl)) rfl ?_
  refine WL.g (.pl rfl rfl rfl) (fun hg => Y.move (.pl rfl)) rfl ?_
  refine WL.g (.pl rfl rfl rfl) (fun hg => Y.eql (.gd (hg) rfl) (.pl rfl)) rfl ?_
  refine WL.q (Y.or (.pl rfl) (fun h2 => .gd (eqf h2) rfl)) rfl ?_
  refine WL.q (Y.move (.pl rfl)) rfl ?_
  refine WL.g (.pl rfl rfl rfl) (fun hg => Y.move (.pl rfl)) rfl ?_
  refine WL.g (.pl rfl rfl rfl) (fun hg => Y.eql (.gd (hg) rfl) (.pl rfl)) rfl ?_
  refine WL.q (Y.or (.pl rfl) (fun h2 => .gd (eqf h2) rfl)) rfl ?_
  refine WL.q (Y.assign (.pl rfl)) rfl ?_
  refine WL.next hQ2 (.cons (i := 2) rfl (.nil)) ?_
  obtain rfl := Option.some.inj hF
  refine W.retV (fn := Tryd.f20) (vs := [.bool ((((decide (kind1 = 2)) || (decide (kind1 = 4))) || (decide (kind1 = 6))) || (decide (kind1 = 10)))]) Tryd.results20 ⟨.tmp rfl, trivial⟩ (fun _ _ h => h) (fun wz hw => ?_)
  exact hR _ _ ⟨rfl, (hw.pick [] rfl)⟩

def sbs (N : Nat) (l : ByteArray) : Option ByteArray := if l.size = 0 then none else some l
theorem strings_Builder_String_ok {N : Nat} {lI1 : ByteArray} {bI2 : Nat} {pI3 : Value} {AI4 : Option Addr} {cI5 : Nat} {res : ByteArray} (hF : sbs N lI1 = some res) {w0 w : World} {T : List Chunk} (hw : St w0.heap.size w0 ([cSB 47 5 bI2 pI3 AI4 cI5 lI1] ++ T) w) :
    Calls Tryd.prog 21 (List.toArray [.pointer (some ⟨bI2, 0, none⟩)]) w (fun e w' => ∃ g : Unit, (True) ∧ e = .returned (.string res) ∧ St w0.heap.size w0 ([] ++ T) w') := by
  obtain ⟨hp, hw⟩ := St.sbOpen hw
  unfold sbs at hF
  split at hF
  · cases hF
  rename_i hl
  obtain rfl := Option.some.inj hF
  obtain ⟨g, hA, hcap⟩ : ∃ g, AI4 = some ⟨g, 0, none⟩ ∧ cI5 ≠ 0 := by
    obtain ⟨h1, h2⟩ := hw.sat _ (List.mem_of_getElem? (i := 1) rfl)
    rcases h2 with ⟨_, h3, _⟩ | ⟨g, cur, h3, _, h4, _⟩
    · exact absurd h3 hl
    · exact ⟨g, h3, by omega⟩
  subst hA
  refine W.enter (n := 14) Tryd.func21 rfl rfl Sub.refl (by simp) hw fun R hR => ?_
  refine W.seqR fun Q1 hQ1 => ?_
  refine WL.q (Y.assign (.pl rfl)) rfl ?_
  refine WL.next hQ1 (.cons (i := 0) rfl (.nil)) ?_
  refine W.seqT 10 (by kernel_rfl) (by kernel_rfl) fun Q2 hQ2 => ?_
  refine WS.q (Y.move (.pl rfl)) rfl ?_
  refine WS.q (Y.nilCheck (.pl rfl)) rfl ?_
  refine WS.q (Y.fieldAddr0 (off := 1) (ft := 45) Tryd.underlying47 rfl cells45 (.pl rfl)) rfl ?_
  refine WS.q (Y.loadB (v := .slice (some ⟨g, 0, none⟩) (lI1).size cI5) Tryd.underlying45 rfl (.pl rfl) (i := 0) rfl rfl) rfl ?_
  refine WS.q (Y.sliceData (.pl rfl) hcap) rfl ?_
  refine WS.q (Y.move (.pl rfl)) rfl ?_
  refine WS.q (Y.nilCheck (.pl rfl)) rfl ?_
  refine WS.q (Y.fieldAddr0 (off := 1) (ft := 45) Tryd.underlying47 rfl cells45 (.pl rfl)) rfl ?_
  refine WS.q (Y.loadB (v := .slice (some ⟨g, 0, none⟩) (lI1).size cI5) Tryd.underlying45 rfl (.pl rfl) (i := 0) rfl rfl) rfl ?_
  refine WS.q (Y.len Tryd.underlying45 (.pl rfl)) rfl ?_
  refine WS.tail ?_
  refine WL.step (WO.ustr (E := 5) Tryd.underlying72 cells5 hl (.pl rfl) (.pl rfl) (i := 1) rfl rfl ?_)
  refine WL.q (Y.assign (.pl rfl)) rfl ?_
  refine WL.next hQ2 (.cons (i := 2) rfl (.nil)) ?_
  refine W.retV (fn := Tryd.f21) (vs := [.string lI1]) Tryd.results21 ⟨.tmp rfl, trivial⟩ (fun _ _ h => h) (fun wz hw => ?_)
  exact hR _ _ ⟨(), trivial, rfl, (Ent.drop (M := [_, _])).at _ _ _ hw⟩

def text_Print_L5 (N : Nat) (types1 : (List Int)) : (ByteArray × Int) → Option ((ByteArray × Int) ⊕ ByteArray)
  | (out26, v27) =>
    cond (decide (v27 < ((types1).length : Int)))
      (bd (ix types1 v27) fun (x28 : Int) =>
      bd (text_typeWords N) fun (r29 : Unit) =>
      bd (ix ([(⟨#[]⟩ : ByteArray), (⟨#[114, 101, 103]⟩ : ByteArray), (⟨#[113, 117, 101, 117, 101]⟩ : ByteArray), (⟨#[115, 116, 97, 99, 107]⟩ : ByteArray), (⟨#[115, 101, 116]⟩ : ByteArray), (⟨#[116, 105, 99, 107, 101, 116]⟩ : ByteArray)] : List ByteArray) x28) fun (x31 : ByteArray) =>
      ck (catB (⟨#[32]⟩ : ByteArray) x31) <|
      bd (sbw N out26 ((⟨#[32]⟩ : ByteArray) ++ x31)) fun (r33 : ByteArray) =>
      ck (ok64 (v27 + 1)) <|
      some (.inl (r33, (v27 + 1))))
      (some (.inr out26))

def text_Print_L7 (N : Nat) (l6 : (List Event)) : (ByteArray × Int) → Option ((ByteArray × Int) ⊕ ByteArray)
  | (out49, v50) =>
    cond (decide (v50 < ((l6).length : Int)))
      (bd (ix l6 v50) fun (x51 : Event) =>
      bd (itoaO N x51.who) fun (r53 : ByteArray) =>
      ck (catB r53 (⟨#[32]⟩ : ByteArray)) <|
      bd (itoaO N x51.thing) fun (r55 : ByteArray) =>
      ck (catB (r53 ++ (⟨#[32]⟩ : ByteArray)) r55) <|
      ck (catB ((r53 ++ (⟨#[32]⟩ : ByteArray)) ++ r55) (⟨#[32]⟩ : ByteArray)) <|
      bd (text_kindWords N) fun (r58 : Unit) =>
      bd (ix ([(⟨#[101, 110, 100]⟩ : ByteArray), (⟨#[119, 114, 105, 116, 101]⟩ : ByteArray), (⟨#[114, 101, 97, 100]⟩ : ByteArray), (⟨#[101, 110, 113]⟩ : ByteArray), (⟨#[100, 101, 113]⟩ : ByteArray), (⟨#[112, 117, 115, 104]⟩ : ByteArray), (⟨#[112, 111, 112]⟩ : ByteArray), (⟨#[97, 100, 100]⟩ : ByteArray), (⟨#[114, 101, 109, 111, 118, 101]⟩ : ByteArray), (⟨#[104, 97, 115]⟩ : ByteArray), (⟨#[116, 97, 107, 101]⟩ : ByteArray)] : List ByteArray) x51.kind) fun (x60 : ByteArray) =>
      ck (catB (((r53 ++ (⟨#[32]⟩ : ByteArray)) ++ r55) ++ (⟨#[32]⟩ : ByteArray)) x60) <|
      bd (sbw N out49 ((((r53 ++ (⟨#[32]⟩ : ByteArray)) ++ r55) ++ (⟨#[32]⟩ : ByteArray)) ++ x60)) fun (r62 : ByteArray) =>
      bd (text_bare N x51.kind) fun (r66 : Unit) =>
      cond (!((((decide (x51.kind = 2)) || (decide (x51.kind = 4))) || (decide (x51.kind = 6))) || (decide (x51.kind = 10))))
        (bd (itoaO N x51.value) fun (r67 : ByteArray) =>
        ck (catB (⟨#[32]⟩ : ByteArray) r67) <|
        bd (sbw N r62 ((⟨#[32]⟩ : ByteArray) ++ r67)) fun (r69 : ByteArray) =>
        bd (sbw N r69 (⟨#[10]⟩ : ByteArray)) fun (r73 : ByteArray) =>
        ck (ok64 (v50 + 1)) <|
        some (.inl (r73, (v50 + 1))))
        (bd (sbw N r62 (⟨#[10]⟩ : ByteArray)) fun (r78 : ByteArray) =>
        ck (ok64 (v50 + 1)) <|
        some (.inl (r78, (v50 + 1)))))
      (some (.inr out49))

def text_Print (N : Nat) (types1 : (List Int)) (l6 : (List Event)) : Option (ByteArray × Int) :=
  bd (history_Calls N types1 l6) fun (r11 : ((List Call) × Int × Int)) =>
  cond (!(decide (r11.2.2 = 0)))
    (some ((⟨#[]⟩ : ByteArray), r11.2.2))
    (bd (sbw N ⟨#[]⟩ (⟨#[116, 104, 105, 110, 103, 115]⟩ : ByteArray)) fun (r15 : ByteArray) =>
    bd (α := ByteArray) (iter (text_Print_L5 N types1) N (r15, 0)) <|
    fun (out22 : ByteArray) => 
      bd (sbw N out22 (⟨#[10]⟩ : ByteArray)) fun (r38 : ByteArray) =>
      bd (α := ByteArray) (iter (text_Print_L7 N l6) N (r38, 0)) <|
      fun (out45 : ByteArray) => 
        bd (sbs N out45) fun (r83 : ByteArray) =>
        some (r83, 0))

theorem text_Print_ok {N : Nat} {types1 : (List Int)} {l6 : (List Event)} {res : (ByteArray × Int)} (hF : text_Print N types1 l6 = some res) (w : World) {v5 : Value} (hs4 : SlIn (eI .i64) 1 w v5 types1) {v10 : Value} (hs9 : SlIn encEvent 4 w v10 l6) (hG : GOkS w) :
    Pure Tryd.prog 6 [v5, v10] w (.tuple #[.string res.1, .int .i64 res.2]) := by
  obtain ⟨A2, c3, rfl, hcc3, hs4⟩ := hs4.form
  obtain ⟨A7, c8, rfl, hcc8, hs9⟩ := hs9.form
  refine W.enter (n := 73) Tryd.func6 rfl rfl Sub.refl (by simp) (St.start w) fun R hR => ?_
  unfold text_Print at hF
  refine W.seqR fun Q1 hQ1 => ?_
  refine WL.q (Y.assign (.pl rfl)) rfl ?_
  refine WL.q (Y.assign (.pl rfl)) rfl ?_
  refine WL.next hQ1 (.cons (i := 0) rfl (.cons (i := 1) rfl (.nil))) ?_
  refine W.seq fun K2 hK2 => ?_
  refine W.seqR fun Q3 hQ3 => ?_
  refine WL.q (Y.move (.pl rfl)) rfl ?_
  refine WL.q (Y.move (.pl rfl)) rfl ?_
  obtain ⟨r11, hr11, hF⟩ := bnd hF
  refine WL.step (WO.callM isGo15 (.cons (.pl rfl) (.cons (.pl rfl) (.nil))) rfl (fun wz hw => history_Calls_ok (hr11) wz (hs4.mono hw) (hs9.mono hw)) ?_)
  rintro ⟨A12, c13⟩ -
  refine WL.q (Y.move (.pl rfl)) rfl ?_
  refine WL.q (Y.extract (.pl rfl) rfl) rfl ?_
  refine WL.q (Y.extract (.pl rfl) rfl) rfl ?_
  refine WL.q (Y.extract (.pl rfl) rfl) rfl ?_
  refine WL.q (Y.assign (.pl rfl)) rfl ?_
  refine WL.q (Y.assign (.pl rfl)) rfl ?_
  refine WL.q (Y.assign (.pl rfl)) rfl ?_
  refine WL.next hQ3 (.cons (i := 0) rfl (.cons (i := 1) rfl (.cons (i := 8) rfl (.nil)))) ?_
  refine W.seqR fun Q4 hQ4 => ?_
  refine WL.q (Y.move (.pl rfl)) rfl ?_
  refine WL.q (Y.neq (.pl rfl) (.pl rfl)) rfl ?_
  refine WL.next hQ4 (.cons (i := 0) rfl (.cons (i := 1) rfl (.cons (i := 8) rfl (.cons (i := 22) rfl (.nil))))) ?_
  refine W.cond (.pl rfl) (fun hC5 => ?_) (fun hC5 => ?_)
  · replace hF := cpos hC5 hF
    refine W.seqR fun Q6 hQ6 => ?_
    refine WL.q (Y.move (.pl rfl)) rfl ?_
    refine WL.q (Y.assign (.pl rfl)) rfl ?_
    refine WL.q (Y.assign (.pl rfl)) rfl ?_
    refine WL.next hQ6 (.cons (i := 4) rfl (.cons (i := 5) rfl (.nil))) ?_
    obtain rfl := Option.some.inj hF
    refine W.retV (fn := Tryd.f6) (vs := [.string (⟨#[]⟩ : ByteArray), .int .i64 r11.2.2]) Tryd.results6 ⟨.tmp rfl, ⟨.tmp rfl, trivial⟩⟩ (fun _ _ h => h) (fun wz hw => ?_)
    exact hR _ _ ⟨rfl, (hw.pick [] rfl)⟩
  · replace hF := cneg hC5 hF
    refine W.skip ?_
    refine W.go hK2 (.cons (i := 0) rfl (.cons (i := 1) rfl (.nil))) ?_
    refine W.seqR fun Q7 hQ7 => ?_
    refine WL.step (WO.alloc (cs := #[.pointer none, .slice none 0 0]) zero47 rfl rfl fun b14 => ?_)
    refine WL.ent (.sb0 5) ?_
    refine WL.next hQ7 (.cons (i := 0) rfl (.cons (i := 1) rfl (.cons (i := 9) rfl (.nil)))) ?_
    refine W.seqR fun Q8 hQ8 => ?_
    obtain ⟨r15, hr15, hF⟩ := bnd hF
    refine WL.step (WO.call (γ := (Value × Option Addr × Nat)) (fun g => .tuple #[.int .i64 (((⟨#[116, 104, 105, 110, 103, 115]⟩ : ByteArray)).size : Int), (ifV 0)]) (fun g => [cSB 47 5 b14 g.1 g.2.1 g.2.2 r15, cR encCall 7 A12 c13 81 r11.1]) (fun g => True) isGo16 (.cons (.pl rfl) (.cons (.pl rfl) (.nil))) rfl (fun wz hw => strings_Builder_WriteString_ok (T := [cR encCall 7 A12 c13 81 r11.1]) (hr15) (hw.pick [0, 1] rfl) ) ?_)
    rintro ⟨pI16, AI17, cI18⟩ -
    refine WL.next hQ8 (.cons (i := 0) rfl (.cons (i := 1) rfl (.cons (i := 9) rfl (.nil)))) ?_
    obtain ⟨o9, hF9, hF⟩ := bnd hF
    refine W.join4 (Em := fun (out22 : ByteArray) (pv19 : Value) (A20 : Option Addr) (c21 : Nat) => []) (M := fun out22 pv19 A20 c21 => [cSB 47 5 b14 pv19 A20 c21 out22]) (I := fun out22 pv19 A20 c21 => out22 = o9) (.cons (i := 1) rfl (.cons (i := 9) rfl (.nil))) (fun K10 hK10 => ?_) ?_
    · -- up to
      refine W.seqR fun Q11 hQ11 => ?_
      refine WL.q (Y.move (.pl rfl)) rfl ?_
      refine WL.q (Y.len Tryd.underlying22 (.pl rfl)) rfl ?_
      refine WL.q (Y.move (.pl rfl)) rfl ?_
      refine WL.next hQ11 (.cons (i := 1) rfl (.cons (i := 9) rfl (.cons (i := 25) rfl (.cons (i := 26) rfl (.cons (i := 27) rfl (.nil)))))) ?_
      refine W.block ?_
      refine W.loop5 (Em := fun (out26 : ByteArray) (v27 : Int) (pv23 : Value) (A24 : Option Addr) (c25 : Nat) => [(27, .int .i64 v27)]) (M := fun out26 v27 pv23 A24 c25 => [cSB 47 5 b14 pv23 A24 c25 out26]) (I := fun out26 v27 pv23 A24 c25 k12 => iter (text_Print_L5 N types1) k12 (out26, v27) = some o9) r15 0 pI16 AI17 cI18 N (hF9) (.cons rfl (.nil)) (.cons (i := 1) rfl (.cons (i := 9) rfl (.cons (i := 25) rfl (.cons (i := 26) rfl (.nil))))) (fun wz hw => hw.pick [0] rfl) (fun out26 v27 pv23 A24 c25 k12 hI K13 hK13 => ?_)
      obtain ⟨k12, t12, rfl, hF12, hN12⟩ := iter_step hI
      refine W.seqR fun Q14 hQ14 => ?_
      refine WL.q (Y.lss (.pl rfl) (.pl rfl)) rfl ?_
      refine WL.next hQ14 (.cons (i := 1) rfl (.cons (i := 9) rfl (.cons (i := 25) rfl (.cons (i := 26) rfl (.cons (i := 27) rfl (.cons (i := 28) rfl (.nil))))))) ?_
      refine W.seq fun K15 hK15 => ?_
      refine W.cond (.pl rfl) (fun hC16 => ?_) (fun hC16 => ?_)
      · replace hF12 := cpos hC16 hF12
        refine W.skip ?_
        refine W.go hK15 (.cons (i := 1) rfl (.cons (i := 9) rfl (.cons (i := 25) rfl (.cons (i := 26) rfl (.cons (i := 27) rfl (.nil)))))) ?_
        refine W.seq fun K17 hK17 => ?_
        refine W.block ?_
        refine W.seqR fun Q18 hQ18 => ?_
        obtain ⟨x28, hx28, hF12⟩ := bnd hF12
        refine WL.q (Y.slEl Tryd.underlying22 cells3 hs4 (.pl rfl) (.pl rfl) (ix_lt (hx28))) rfl ?_
        refine WL.q (Y.loadS (enc := (eI .i64)) (v := .int .i64 x28) (j := 0) Tryd.underlying3 rfl hs4 (.pl rfl) (hx28) rfl rfl) rfl ?_
        refine WL.q (Y.assign (.pl rfl)) rfl ?_
        refine WL.next hQ18 (.cons (i := 1) rfl (.cons (i := 9) rfl (.cons (i := 11) rfl (.cons (i := 25) rfl (.cons (i := 26) rfl (.cons (i := 27) rfl (.nil))))))) ?_
        refine W.reg ?_
        obtain ⟨r29, hr29, hF12⟩ := bnd hF12
        refine WL.step (WO.callM isGo17 (.nil) rfl (fun wz hw => text_typeWords_ok (hr29) wz ) ?_)
        rintro A30 -
        refine WL.q (Y.move (.pl rfl)) rfl ?_
        obtain ⟨x31, hx31, hF12⟩ := bnd hF12
        refine WL.q (Y.rowEl Tryd.underlying38 cells9 (i := 0) rfl (.pl rfl) rfl (.pl rfl) (ix_lt (hx31))) rfl ?_
        refine WL.q (Y.loadR (enc := eS) (v := .string x31) (a := x31) (idx := x28) (j := 0) Tryd.underlying9 rfl (fun _ => rfl) (i := 0) rfl (.pl rfl) (ix_get (hx31)) rfl rfl) rfl ?_
        obtain ⟨hk32, hF12⟩ := ckh hF12
        refine WL.q (Y.catT (.pl rfl) (.pl rfl) (hk32)) rfl ?_
        obtain ⟨r33, hr33, hF12⟩ := bnd hF12
        refine WL.step (WO.call (γ := (Value × Option Addr × Nat)) (fun g => .tuple #[.int .i64 ((((⟨#[32]⟩ : ByteArray) ++ x31)).size : Int), (ifV 0)]) (fun g => [cSB 47 5 b14 g.1 g.2.1 g.2.2 r33, cR eS 1 A30 (([(⟨#[]⟩ : ByteArray), (⟨#[114, 101, 103]⟩ : ByteArray), (⟨#[113, 117, 101, 117, 101]⟩ : ByteArray), (⟨#[115, 116, 97, 99, 107]⟩ : ByteArray), (⟨#[115, 101, 116]⟩ : ByteArray), (⟨#[116, 105, 99, 107, 101, 116]⟩ : ByteArray)] : List ByteArray)).length 9 ([(⟨#[]⟩ : ByteArray), (⟨#[114, 101, 103]⟩ : ByteArray), (⟨#[113, 117, 101, 117, 101]⟩ : ByteArray), (⟨#[115, 116, 97, 99, 107]⟩ : ByteArray), (⟨#[115, 101, 116]⟩ : ByteArray), (⟨#[116, 105, 99, 107, 101, 116]⟩ : ByteArray)] : List ByteArray)]) (fun g => True) isGo16 (.cons (.pl rfl) (.cons (.pl rfl) (.nil))) rfl (fun wz hw => strings_Builder_WriteString_ok (T := [cR eS 1 A30 (([(⟨#[]⟩ : ByteArray), (⟨#[114, 101, 103]⟩ : ByteArray), (⟨#[113, 117, 101, 117, 101]⟩ : ByteArray), (⟨#[115, 116, 97, 99, 107]⟩ : ByteArray), (⟨#[115, 101, 116]⟩ : ByteArray), (⟨#[116, 105, 99, 107, 101, 116]⟩ : ByteArray)] : List ByteArray)).length 9 ([(⟨#[]⟩ : ByteArray), (⟨#[114, 101, 103]⟩ : ByteArray), (⟨#[113, 117, 101, 117, 101]⟩ : ByteArray), (⟨#[115, 116, 97, 99, 107]⟩ : ByteArray), (⟨#[115, 101, 116]⟩ : ByteArray), (⟨#[116, 105, 99, 107, 101, 116]⟩ : ByteArray)] : List ByteArray)]) (hr33) (hw.pick [1, 0] rfl) ) ?_)
        rintro ⟨pI34, AI35, cI36⟩ -
        refine WL.nil ?_
        refine W.go hK17 (.cons (i := 1) rfl (.cons (i := 9) rfl (.cons (i := 25) rfl (.cons (i := 26) rfl (.cons (i := 27) rfl (.nil)))))) ?_
        refine W.reg ?_
        obtain ⟨hk37, hF12⟩ := ckh hF12
        refine WL.q (Y.add (.pl rfl) (.pl rfl) (ok64_lt (hk37))) rfl ?_
        refine WL.q (Y.move (.pl rfl)) rfl ?_
        refine WL.nil ?_
        obtain rfl := Option.some.inj hF12
        exact W.again5 hK13 r33 (v27 + 1) pI34 AI35 cI36 k12 hN12 (Nat.lt_succ_self _) (.cons rfl (.nil)) (.cons (i := 1) rfl (.cons (i := 9) rfl (.cons (i := 25) rfl (.cons (i := 26) rfl (.nil))))) (fun wz hw => hw.pick [0] rfl)
      · replace hF12 := cneg hC16 hF12
        refine W.exit ?_
        obtain rfl := Option.some.inj hF12
        exact W.joinAt4 hK10 out26 pv23 A24 c25 (einr hN12) (.nil) (.cons (i := 1) rfl (.cons (i := 9) rfl (.nil))) (fun wz hw => hw.pick [0] rfl)
    · -- behind
      rintro out22 pv19 A20 c21 rfl
      refine W.seqR fun Q21 hQ21 => ?_
      obtain ⟨r38, hr38, hF⟩ := bnd hF
      refine WL.step (WO.call (γ := (Value × Option Addr × Nat)) (fun g => .tuple #[.int .i64 (((⟨#[10]⟩ : ByteArray)).size : Int), (ifV 0)]) (fun g => [cSB 47 5 b14 g.1 g.2.1 g.2.2 r38]) (fun g => True) isGo16 (.cons (.pl rfl) (.cons (.pl rfl) (.nil))) rfl (fun wz hw => strings_Builder_WriteString_ok (T := []) (hr38) (hw.pick [0] rfl) ) ?_)
      rintro ⟨pI39, AI40, cI41⟩ -
      refine WL.next hQ21 (.cons (i := 1) rfl (.cons (i := 9) rfl (.nil))) ?_
      obtain ⟨o22, hF22, hF⟩ := bnd hF
      refine W.join4 (Em := fun (out45 : ByteArray) (pv42 : Value) (A43 : Option Addr) (c44 : Nat) => []) (M := fun out45 pv42 A43 c44 => [cSB 47 5 b14 pv42 A43 c44 out45]) (I := fun out45 pv42 A43 c44 => out45 = o22) (.cons (i := 9) rfl (.nil)) (fun K23 hK23 => ?_) ?_
      · -- up to
        refine W.seqR fun Q24 hQ24 => ?_
        refine WL.q (Y.move (.pl rfl)) rfl ?_
        refine WL.q (Y.len Tryd.underlying23 (.pl rfl)) rfl ?_
        refine WL.q (Y.move (.pl rfl)) rfl ?_
        refine WL.next hQ24 (.cons (i := 9) rfl (.cons (i := 39) rfl (.cons (i := 40) rfl (.cons (i := 41) rfl (.nil))))) ?_
        refine W.block ?_
        refine W.loop5 (Em := fun (out49 : ByteArray) (v50 : Int) (pv46 : Value) (A47 : Option Addr) (c48 : Nat) => [(41, .int .i64 v50)]) (M := fun out49 v50 pv46 A47 c48 => [cSB 47 5 b14 pv46 A47 c48 out49]) (I := fun out49 v50 pv46 A47 c48 k25 => iter (text_Print_L7 N l6) k25 (out49, v50) = some o22) r38 0 pI39 AI40 cI41 N (hF22) (.cons rfl (.nil)) (.cons (i := 9) rfl (.cons (i := 39) rfl (.cons (i := 40) rfl (.nil)))) (fun wz hw => hw.pick [0] rfl) (fun out49 v50 pv46 A47 c48 k25 hI K26 hK26 => ?_)
        obtain ⟨k25, t25, rfl, hF25, hN25⟩ := iter_step hI
        refine W.seqR fun Q27 hQ27 => ?_
        refine WL.q (Y.lss (.pl rfl) (.pl rfl)) rfl ?_
        refine WL.next hQ27 (.cons (i := 9) rfl (.cons (i := 39) rfl (.cons (i := 40) rfl (.cons (i := 41) rfl (.cons (i := 42) rfl (.nil)))))) ?_
        refine W.seq fun K28 hK28 => ?_
        refine W.cond (.pl rfl) (fun hC29 => ?_) (fun hC29 => ?_)
        · replace hF25 := cpos hC29 hF25
          refine W.skip ?_
          refine W.go hK28 (.cons (i := 9) rfl (.cons (i := 39) rfl (.cons (i := 40) rfl (.cons (i := 41) rfl (.nil))))) ?_
          refine W.seq fun K30 hK30 => ?_
          refine W.block ?_
          refine W.seqR fun Q31 hQ31 => ?_
          obtain ⟨x51, hx51, hF25⟩ := bnd hF25
          refine WL.q (Y.slEl Tryd.underlying23 cells32 hs9 (.pl rfl) (.pl rfl) (ix_lt (hx51))) rfl ?_
          refine WL.q (Y.loadSA (enc := encEvent) (ds := (encEvent x51)) (j := 0) Tryd.underlying32 rfl cells32 hs9 (.pl rfl) (hx51) rfl rfl subW) rfl ?_
          refine WL.step (WO.alloc (cs := (encEvent (Event.mk 0 0 0 0)).toArray) zero32 rfl rfl fun b52 => ?_)
          refine WL.step (WO.storeBA (ds := (encEvent x51)) (cs' := (encEvent x51)) cells32 (.pl rfl) (.pl rfl) rfl (oneEvent _) (i := 0) rfl (lel (o := 0) (l := 4) (m := 4) (by decide) rfl rfl) (putW rfl) ?_)
          refine WL.next hQ31 (.cons (i := 9) rfl (.cons (i := 13) rfl (.cons (i := 39) rfl (.cons (i := 40) rfl (.cons (i := 41) rfl (.nil)))))) ?_
          refine W.seqX 15 (by kernel_rfl) fun K32 hK32 => ?_
          refine WX.pure 0 #[true, false, false, false, false, false, false, false, false, false, false, false, false, false, false, false] rfl (by kernel_rfl) (fun _ _ => Y.fieldAddr0 (off := 0) (ft := 3) Tryd.underlying32 rfl cells3 (.pl rfl)) rfl ?_
          refine WX.take 1 #[true, true, false, false, false, false, false, false, false, false, false, false, false, false, false, false] (fun wz hw => St.tail [] hw) rfl (by kernel_rfl) (Y.loadB (v := .int .i64 x51.who) Tryd.underlying3 rfl (.pl rfl) (i := 0) rfl (rfl)) rfl ?_
          refine WX.pure 4 #[true, true, false, false, true, false, false, false, false, false, false, false, false, false, false, false] rfl (by kernel_rfl) (fun _ _ => Y.fieldAddr0 (off := 1) (ft := 3) Tryd.underlying32 rfl cells3 (.pl rfl)) rfl ?_
          refine WX.take 5 #[true, true, false, false, true, true, false, false, false, false, false, false, false, false, false, false] (fun wz hw => St.tail [] hw) rfl (by kernel_rfl) (Y.loadB (v := .int .i64 x51.thing) Tryd.underlying3 rfl (.pl rfl) (i := 0) rfl (rfl)) rfl ?_
          refine WX.pure 10 #[true, true, false, false, true, true, false, false, false, false, true, false, false, false, false, false] rfl (by kernel_rfl) (fun _ _ => Y.fieldAddr0 (off := 2) (ft := 3) Tryd.underlying32 rfl cells3 (.pl rfl)) rfl ?_
          refine WX.take 11 #[true, true, false, false, true, true, false, false, false, false, true, true, false, false, false, false] (fun wz hw => St.tail [] hw) rfl (by kernel_rfl) (Y.loadB (v := .int .i64 x51.kind) Tryd.underlying3 rfl (.pl rfl) (i := 0) rfl (rfl)) rfl ?_
          obtain ⟨r53, hr53, hF25⟩ := bnd hF25
          refine WX.one 2 #[true, true, true, false, true, true, false, false, false, false, true, true, false, false, false, false] (fun wz hw => St.tail [] hw) rfl (by kernel_rfl) (WO.callP isGo18 (.cons (.pl rfl) (.nil)) rfl (fun wz hw => strconv_Itoa_ok (hr53) wz (hG.mono hw)) ?_)
          obtain ⟨hk54, hF25⟩ := ckh hF25
          refine WX.pure 3 #[true, true, true, true, true, true, false, false, false, false, true, true, false, false, false, false] rfl (by kernel_rfl) (fun _ _ => Y.catT (.pl rfl) (.pl rfl) (hk54)) rfl ?_
          obtain ⟨r55, hr55, hF25⟩ := bnd hF25
          refine WX.one 6 #[true, true, true, true, true, true, true, false, false, false, true, true, false, false, false, false] (fun wz hw => St.tail [] hw) rfl (by kernel_rfl) (WO.callP isGo18 (.cons (.pl rfl) (.nil)) rfl (fun wz hw => strconv_Itoa_ok (hr55) wz (hG.mono hw)) ?_)
          obtain ⟨hk56, hF25⟩ := ckh hF25
          refine WX.pure 7 #[true, true, true, true, true, true, true, true, false, false, true, true, false, false, false, false] rfl (by kernel_rfl) (fun _ _ => Y.catT (.pl rfl) (.pl rfl) (hk56)) rfl ?_
          obtain ⟨hk57, hF25⟩ := ckh hF25
          refine WX.pure 8 #[true, true, true, true, true, true, true, true, true, false, true, true, false, false, false, false] rfl (by kernel_rfl) (fun _ _ => Y.catT (.pl rfl) (.pl rfl) (hk57)) rfl ?_
          obtain ⟨r58, hr58, hF25⟩ := bnd hF25
          refine WX.one 9 #[true, true, true, true, true, true, true, true, true, true, true, true, false, false, false, false] (fun wz hw => St.tail [] hw) rfl (by kernel_rfl) (WO.callM isGo19 (.nil) rfl (fun wz hw => text_kindWords_ok (hr58) wz ) ?_)
          rintro A59 -
          refine WX.now (fun wz hw => St.tail [_] hw) ?_
          obtain ⟨x60, hx60, hF25⟩ := bnd hF25
          refine WX.take 12 #[true, true, true, true, true, true, true, true, true, true, true, true, true, false, false, false] (fun wz hw => St.tail [] hw) rfl (by kernel_rfl) (Y.rowEl Tryd.underlying38 cells9 (i := 0) rfl (.pl rfl) rfl (.pl rfl) (ix_lt (hx60))) rfl ?_
          refine WX.take 13 #[true, true, true, true, true, true, true, true, true, true, true, true, true, true, false, false] (fun wz hw => St.tail [] hw) rfl (by kernel_rfl) (Y.loadR (enc := eS) (v := .string x60) (a := x60) (idx := x51.kind) (j := 0) Tryd.underlying9 rfl (fun _ => rfl) (i := 0) rfl (.pl rfl) (ix_get (hx60)) rfl rfl) rfl ?_
          obtain ⟨hk61, hF25⟩ := ckh hF25
          refine WX.pure 14 #[true, true, true, true, true, true, true, true, true, true, true, true, true, true, true, false] rfl (by kernel_rfl) (fun _ _ => Y.catT (.pl rfl) (.pl rfl) (hk61)) rfl ?_
          obtain ⟨r62, hr62, hF25⟩ := bnd hF25
          refine WX.stop #[true, true, true, true, true, true, true, true, true, true, true, true, true, true, true, true] (fun wz hw => St.tail [] hw) rfl (by kernel_rfl) (WO.call (γ := (Value × Option Addr × Nat)) (fun g => .tuple #[.int .i64 ((((((r53 ++ (⟨#[32]⟩ : ByteArray)) ++ r55) ++ (⟨#[32]⟩ : ByteArray)) ++ x60)).size : Int), (ifV 0)]) (fun g => [cSB 47 5 b14 g.1 g.2.1 g.2.2 r62, cR eS 1 A59 (([(⟨#[101, 110, 100]⟩ : ByteArray), (⟨#[119, 114, 105, 116, 101]⟩ : ByteArray), (⟨#[114, 101, 97, 100]⟩ : ByteArray), (⟨#[101, 110, 113]⟩ : ByteArray), (⟨#[100, 101, 113]⟩ : ByteArray), (⟨#[112, 117, 115, 104]⟩ : ByteArray), (⟨#[112, 111, 112]⟩ : ByteArray), (⟨#[97, 100, 100]⟩ : ByteArray), (⟨#[114, 101, 109, 111, 118, 101]⟩ : ByteArray), (⟨#[104, 97, 115]⟩ : ByteArray), (⟨#[116, 97, 107, 101]⟩ : ByteArray)] : List ByteArray)).length 9 ([(⟨#[101, 110, 100]⟩ : ByteArray), (⟨#[119, 114, 105, 116, 101]⟩ : ByteArray), (⟨#[114, 101, 97, 100]⟩ : ByteArray), (⟨#[101, 110, 113]⟩ : ByteArray), (⟨#[100, 101, 113]⟩ : ByteArray), (⟨#[112, 117, 115, 104]⟩ : ByteArray), (⟨#[112, 111, 112]⟩ : ByteArray), (⟨#[97, 100, 100]⟩ : ByteArray), (⟨#[114, 101, 109, 111, 118, 101]⟩ : ByteArray), (⟨#[104, 97, 115]⟩ : ByteArray), (⟨#[116, 97, 107, 101]⟩ : ByteArray)] : List ByteArray), cBx b52 32 (encEvent x51)]) (fun g => True) isGo16 (.cons (.pl rfl) (.cons (.pl rfl) (.nil))) rfl (fun wz hw => strings_Builder_WriteString_ok (T := [cR eS 1 A59 (([(⟨#[101, 110, 100]⟩ : ByteArray), (⟨#[119, 114, 105, 116, 101]⟩ : ByteArray), (⟨#[114, 101, 97, 100]⟩ : ByteArray), (⟨#[101, 110, 113]⟩ : ByteArray), (⟨#[100, 101, 113]⟩ : ByteArray), (⟨#[112, 117, 115, 104]⟩ : ByteArray), (⟨#[112, 111, 112]⟩ : ByteArray), (⟨#[97, 100, 100]⟩ : ByteArray), (⟨#[114, 101, 109, 111, 118, 101]⟩ : ByteArray), (⟨#[104, 97, 115]⟩ : ByteArray), (⟨#[116, 97, 107, 101]⟩ : ByteArray)] : List ByteArray)).length 9 ([(⟨#[101, 110, 100]⟩ : ByteArray), (⟨#[119, 114, 105, 116, 101]⟩ : ByteArray), (⟨#[114, 101, 97, 100]⟩ : ByteArray), (⟨#[101, 110, 113]⟩ : ByteArray), (⟨#[100, 101, 113]⟩ : ByteArray), (⟨#[112, 117, 115, 104]⟩ : ByteArray), (⟨#[112, 111, 112]⟩ : ByteArray), (⟨#[97, 100, 100]⟩ : ByteArray), (⟨#[114, 101, 109, 111, 118, 101]⟩ : ByteArray), (⟨#[104, 97, 115]⟩ : ByteArray), (⟨#[116, 97, 107, 101]⟩ : ByteArray)] : List ByteArray), cBx b52 32 (encEvent x51)]) (hr62) (hw.pick [2, 0, 1] rfl) ) ?_)
          rintro ⟨pI63, AI64, cI65⟩ -
          refine WA.done (by kernel_rfl) ?_
          refine KK.next hK32 (.cons (i := 9) rfl (.cons (i := 13) rfl (.cons (i := 39) rfl (.cons (i := 40) rfl (.cons (i := 41) rfl (.nil)))))) ?_
          refine W.seq fun K33 hK33 => ?_
          refine W.seqR fun Q34 hQ34 => ?_
          refine WL.q (Y.fieldAddr0 (off := 2) (ft := 3) Tryd.underlying32 rfl cells3 (.pl rfl)) rfl ?_
          refine WL.q (Y.loadB (v := .int .i64 x51.kind) Tryd.underlying3 rfl (.pl rfl) (i := 2) rfl (rfl)) rfl ?_
          obtain ⟨r66, hr66, hF25⟩ := bnd hF25
          refine WL.step (WO.callP isGo20 (.cons (.pl rfl) (.nil)) rfl (fun wz hw => text_bare_ok (hr66) wz ) ?_)
          refine WL.q (Y.not (.pl rfl)) rfl ?_
          refine WL.next hQ34 (.cons (i := 9) rfl (.cons (i := 13) rfl (.cons (i := 39) rfl (.cons (i := 40) rfl (.cons (i := 41) rfl (.cons (i := 64) rfl (.nil))))))) ?_
          refine W.cond (.pl rfl) (fun hC35 => ?_) (fun hC35 => ?_)
          · replace hF25 := cpos hC35 hF25
            refine W.reg ?_
            refine WL.q (Y.fieldAddr0 (off := 3) (ft := 3) Tryd.underlying32 rfl cells3 (.pl rfl)) rfl ?_
            refine WL.q (Y.loadB (v := .int .i64 x51.value) Tryd.underlying3 rfl (.pl rfl) (i := 2) rfl (rfl)) rfl ?_
            obtain ⟨r67, hr67, hF25⟩ := bnd hF25
            refine WL.step (WO.callP isGo18 (.cons (.pl rfl) (.nil)) rfl (fun wz hw => strconv_Itoa_ok (hr67) wz (hG.mono hw)) ?_)
            obtain ⟨hk68, hF25⟩ := ckh hF25
            refine WL.q (Y.catT (.pl rfl) (.pl rfl) (hk68)) rfl ?_
            obtain ⟨r69, hr69, hF25⟩ := bnd hF25
            refine WL.step (WO.call (γ := (Value × Option Addr × Nat)) (fun g => .tuple #[.int .i64 ((((⟨#[32]⟩ : ByteArray) ++ r67)).size : Int), (ifV 0)]) (fun g => [cSB 47 5 b14 g.1 g.2.1 g.2.2 r69, cR eS 1 A59 (([(⟨#[101, 110, 100]⟩ : ByteArray), (⟨#[119, 114, 105, 116, 101]⟩ : ByteArray), (⟨#[114, 101, 97, 100]⟩ : ByteArray), (⟨#[101, 110, 113]⟩ : ByteArray), (⟨#[100, 101, 113]⟩ : ByteArray), (⟨#[112, 117, 115, 104]⟩ : ByteArray), (⟨#[112, 111, 112]⟩ : ByteArray), (⟨#[97, 100, 100]⟩ : ByteArray), (⟨#[114, 101, 109, 111, 118, 101]⟩ : ByteArray), (⟨#[104, 97, 115]⟩ : ByteArray), (⟨#[116, 97, 107, 101]⟩ : ByteArray)] : List ByteArray)).length 9 ([(⟨#[101, 110, 100]⟩ : ByteArray), (⟨#[119, 114, 105, 116, 101]⟩ : ByteArray), (⟨#[114, 101, 97, 100]⟩ : ByteArray), (⟨#[101, 110, 113]⟩ : ByteArray), (⟨#[100, 101, 113]⟩ : ByteArray), (⟨#[112, 117, 115, 104]⟩ : ByteArray), (⟨#[112, 111, 112]⟩ : ByteArray), (⟨#[97, 100, 100]⟩ : ByteArray), (⟨#[114, 101, 109, 111, 118, 101]⟩ : ByteArray), (⟨#[104, 97, 115]⟩ : ByteArray), (⟨#[116, 97, 107, 101]⟩ : ByteArray)] : List ByteArray), cBx b52 32 (encEvent x51)]) (fun g => True) isGo16 (.cons (.pl rfl) (.cons (.pl rfl) (.nil))) rfl (fun wz hw => strings_Builder_WriteString_ok (T := [cR eS 1 A59 (([(⟨#[101, 110, 100]⟩ : ByteArray), (⟨#[119, 114, 105, 116, 101]⟩ : ByteArray), (⟨#[114, 101, 97, 100]⟩ : ByteArray), (⟨#[101, 110, 113]⟩ : ByteArray), (⟨#[100, 101, 113]⟩ : ByteArray), (⟨#[112, 117, 115, 104]⟩ : ByteArray), (⟨#[112, 111, 112]⟩ : ByteArray), (⟨#[97, 100, 100]⟩ : ByteArray), (⟨#[114, 101, 109, 111, 118, 101]⟩ : ByteArray), (⟨#[104, 97, 115]⟩ : ByteArray), (⟨#[116, 97, 107, 101]⟩ : ByteArray)] : List ByteArray)).length 9 ([(⟨#[101, 110, 100]⟩ : ByteArray), (⟨#[119, 114, 105, 116, 101]⟩ : ByteArray), (⟨#[114, 101, 97, 100]⟩ : ByteArray), (⟨#[101, 110, 113]⟩ : ByteArray), (⟨#[100, 101, 113]⟩ : ByteArray), (⟨#[112, 117, 115, 104]⟩ : ByteArray), (⟨#[112, 111, 112]⟩ : ByteArray), (⟨#[97, 100, 100]⟩ : ByteArray), (⟨#[114, 101, 109, 111, 118, 101]⟩ : ByteArray), (⟨#[104, 97, 115]⟩ : ByteArray), (⟨#[116, 97, 107, 101]⟩ : ByteArray)] : List ByteArray), cBx b52 32 (encEvent x51)]) (hr69) (hw.pick [0, 1, 2] rfl) ) ?_)
            rintro ⟨pI70, AI71, cI72⟩ -
            refine WL.nil ?_
            refine W.go hK33 (.cons (i := 9) rfl (.cons (i := 39) rfl (.cons (i := 40) rfl (.cons (i := 41) rfl (.nil))))) ?_
            refine W.reg ?_
            obtain ⟨r73, hr73, hF25⟩ := bnd hF25
            refine WL.step (WO.call (γ := (Value × Option Addr × Nat)) (fun g => .tuple #[.int .i64 (((⟨#[10]⟩ : ByteArray)).size : Int), (ifV 0)]) (fun g => [cSB 47 5 b14 g.1 g.2.1 g.2.2 r73, cR eS 1 A59 (([(⟨#[101, 110, 100]⟩ : ByteArray), (⟨#[119, 114, 105, 116, 101]⟩ : ByteArray), (⟨#[114, 101, 97, 100]⟩ : ByteArray), (⟨#[101, 110, 113]⟩ : ByteArray), (⟨#[100, 101, 113]⟩ : ByteArray), (⟨#[112, 117, 115, 104]⟩ : ByteArray), (⟨#[112, 111, 112]⟩ : ByteArray), (⟨#[97, 100, 100]⟩ : ByteArray), (⟨#[114, 101, 109, 111, 118, 101]⟩ : ByteArray), (⟨#[104, 97, 115]⟩ : ByteArray), (⟨#[116, 97, 107, 101]⟩ : ByteArray)] : List ByteArray)).length 9 ([(⟨#[101, 110, 100]⟩ : ByteArray), (⟨#[119, 114, 105, 116, 101]⟩ : ByteArray), (⟨#[114, 101, 97, 100]⟩ : ByteArray), (⟨#[101, 110, 113]⟩ : ByteArray), (⟨#[100, 101, 113]⟩ : ByteArray), (⟨#[112, 117, 115, 104]⟩ : ByteArray), (⟨#[112, 111, 112]⟩ : ByteArray), (⟨#[97, 100, 100]⟩ : ByteArray), (⟨#[114, 101, 109, 111, 118, 101]⟩ : ByteArray), (⟨#[104, 97, 115]⟩ : ByteArray), (⟨#[116, 97, 107, 101]⟩ : ByteArray)] : List ByteArray), cBx b52 32 (encEvent x51)]) (fun g => True) isGo16 (.cons (.pl rfl) (.cons (.pl rfl) (.nil))) rfl (fun wz hw => strings_Builder_WriteString_ok (T := [cR eS 1 A59 (([(⟨#[101, 110, 100]⟩ : ByteArray), (⟨#[119, 114, 105, 116, 101]⟩ : ByteArray), (⟨#[114, 101, 97, 100]⟩ : ByteArray), (⟨#[101, 110, 113]⟩ : ByteArray), (⟨#[100, 101, 113]⟩ : ByteArray), (⟨#[112, 117, 115, 104]⟩ : ByteArray), (⟨#[112, 111, 112]⟩ : ByteArray), (⟨#[97, 100, 100]⟩ : ByteArray), (⟨#[114, 101, 109, 111, 118, 101]⟩ : ByteArray), (⟨#[104, 97, 115]⟩ : ByteArray), (⟨#[116, 97, 107, 101]⟩ : ByteArray)] : List ByteArray)).length 9 ([(⟨#[101, 110, 100]⟩ : ByteArray), (⟨#[119, 114, 105, 116, 101]⟩ : ByteArray), (⟨#[114, 101, 97, 100]⟩ : ByteArray), (⟨#[101, 110, 113]⟩ : ByteArray), (⟨#[100, 101, 113]⟩ : ByteArray), (⟨#[112, 117, 115, 104]⟩ : ByteArray), (⟨#[112, 111, 112]⟩ : ByteArray), (⟨#[97, 100, 100]⟩ : ByteArray), (⟨#[114, 101, 109, 111, 118, 101]⟩ : ByteArray), (⟨#[104, 97, 115]⟩ : ByteArray), (⟨#[116, 97, 107, 101]⟩ : ByteArray)] : List ByteArray), cBx b52 32 (encEvent x51)]) (hr73) (hw.pick [0, 1, 2] rfl) ) ?_)
            rintro ⟨pI74, AI75, cI76⟩ -
            refine WL.nil ?_
            refine W.go hK30 (.cons (i := 9) rfl (.cons (i := 39) rfl (.cons (i := 40) rfl (.cons (i := 41) rfl (.nil))))) ?_
            refine W.reg ?_
            obtain ⟨hk77, hF25⟩ := ckh hF25
            refine WL.q (Y.add (.pl rfl) (.pl rfl) (ok64_lt (hk77))) rfl ?_
            refine WL.q (Y.move (.pl rfl)) rfl ?_
            refine WL.nil ?_
            obtain rfl := Option.some.inj hF25
            exact W.again5 hK26 r73 (v50 + 1) pI74 AI75 cI76 k25 hN25 (Nat.lt_succ_self _) (.cons rfl (.nil)) (.cons (i := 9) rfl (.cons (i := 39) rfl (.cons (i := 40) rfl (.nil)))) (fun wz hw => hw.pick [0] rfl)
          · replace hF25 := cneg hC35 hF25
            refine W.skip ?_
            refine W.go hK33 (.cons (i := 9) rfl (.cons (i := 39) rfl (.cons (i := 40) rfl (.cons (i := 41) rfl (.nil))))) ?_
            refine W.reg ?_
            obtain ⟨r78, hr78, hF25⟩ := bnd hF25
            refine WL.step (WO.call (γ := (Value × Option Addr × Nat)) (fun g => .tuple #[.int .i64 (((⟨#[10]⟩ : ByteArray)).size : Int), (ifV 0)]) (fun g => [cSB 47 5 b14 g.1 g.2.1 g.2.2 r78, cR eS 1 A59 (([(⟨#[101, 110, 100]⟩ : ByteArray), (⟨#[119, 114, 105, 116, 101]⟩ : ByteArray), (⟨#[114, 101, 97, 100]⟩ : ByteArray), (⟨#[101, 110, 113]⟩ : ByteArray), (⟨#[100, 101, 113]⟩ : ByteArray), (⟨#[112, 117, 115, 104]⟩ : ByteArray), (⟨#[112, 111, 112]⟩ : ByteArray), (⟨#[97, 100, 100]⟩ : ByteArray), (⟨#[114, 101, 109, 111, 118, 101]⟩ : ByteArray), (⟨#[104, 97, 115]⟩ : ByteArray), (⟨#[116, 97, 107, 101]⟩ : ByteArray)] : List ByteArray)).length 9 ([(⟨#[101, 110, 100]⟩ : ByteArray), (⟨#[119, 114, 105, 116, 101]⟩ : ByteArray), (⟨#[114, 101, 97, 100]⟩ : ByteArray), (⟨#[101, 110, 113]⟩ : ByteArray), (⟨#[100, 101, 113]⟩ : ByteArray), (⟨#[112, 117, 115, 104]⟩ : ByteArray), (⟨#[112, 111, 112]⟩ : ByteArray), (⟨#[97, 100, 100]⟩ : ByteArray), (⟨#[114, 101, 109, 111, 118, 101]⟩ : ByteArray), (⟨#[104, 97, 115]⟩ : ByteArray), (⟨#[116, 97, 107, 101]⟩ : ByteArray)] : List ByteArray), cBx b52 32 (encEvent x51)]) (fun g => True) isGo16 (.cons (.pl rfl) (.cons (.pl rfl) (.nil))) rfl (fun wz hw => strings_Builder_WriteString_ok (T := [cR eS 1 A59 (([(⟨#[101, 110, 100]⟩ : ByteArray), (⟨#[119, 114, 105, 116, 101]⟩ : ByteArray), (⟨#[114, 101, 97, 100]⟩ : ByteArray), (⟨#[101, 110, 113]⟩ : ByteArray), (⟨#[100, 101, 113]⟩ : ByteArray), (⟨#[112, 117, 115, 104]⟩ : ByteArray), (⟨#[112, 111, 112]⟩ : ByteArray), (⟨#[97, 100, 100]⟩ : ByteArray), (⟨#[114, 101, 109, 111, 118, 101]⟩ : ByteArray), (⟨#[104, 97, 115]⟩ : ByteArray), (⟨#[116, 97, 107, 101]⟩ : ByteArray)] : List ByteArray)).length 9 ([(⟨#[101, 110, 100]⟩ : ByteArray), (⟨#[119, 114, 105, 116, 101]⟩ : ByteArray), (⟨#[114, 101, 97, 100]⟩ : ByteArray), (⟨#[101, 110, 113]⟩ : ByteArray), (⟨#[100, 101, 113]⟩ : ByteArray), (⟨#[112, 117, 115, 104]⟩ : ByteArray), (⟨#[112, 111, 112]⟩ : ByteArray), (⟨#[97, 100, 100]⟩ : ByteArray), (⟨#[114, 101, 109, 111, 118, 101]⟩ : ByteArray), (⟨#[104, 97, 115]⟩ : ByteArray), (⟨#[116, 97, 107, 101]⟩ : ByteArray)] : List ByteArray), cBx b52 32 (encEvent x51)]) (hr78) (hw.pick [0, 1, 2] rfl) ) ?_)
            rintro ⟨pI79, AI80, cI81⟩ -
            refine WL.nil ?_
            refine W.go hK30 (.cons (i := 9) rfl (.cons (i := 39) rfl (.cons (i := 40) rfl (.cons (i := 41) rfl (.nil))))) ?_
            refine W.reg ?_
            obtain ⟨hk82, hF25⟩ := ckh hF25
            refine WL.q (Y.add (.pl rfl) (.pl rfl) (ok64_lt (hk82))) rfl ?_
            refine WL.q (Y.move (.pl rfl)) rfl ?_
            refine WL.nil ?_
            obtain rfl := Option.some.inj hF25
            exact W.again5 hK26 r78 (v50 + 1) pI79 AI80 cI81 k25 hN25 (Nat.lt_succ_self _) (.cons rfl (.nil)) (.cons (i := 9) rfl (.cons (i := 39) rfl (.cons (i := 40) rfl (.nil)))) (fun wz hw => hw.pick [0] rfl)
        · replace hF25 := cneg hC29 hF25
          refine W.exit ?_
          obtain rfl := Option.some.inj hF25
          exact W.joinAt4 hK23 out49 pv46 A47 c48 (einr hN25) (.nil) (.cons (i := 9) rfl (.nil)) (fun wz hw => hw.pick [0] rfl)
      · -- behind
        rintro out45 pv42 A43 c44 rfl
        refine W.seqR fun Q41 hQ41 => ?_
        obtain ⟨r83, hr83, hF⟩ := bnd hF
        refine WL.step (WO.call (γ := Unit) (fun g => .string r83) (fun g => []) (fun g => True) isGo21 (.cons (.pl rfl) (.nil)) rfl (fun wz hw => strings_Builder_String_ok (T := []) (hr83) (hw.pick [0] rfl) ) ?_)
        rintro _ -
        refine WL.q (Y.assign (.pl rfl)) rfl ?_
        refine WL.q (Y.assign (.pl rfl)) rfl ?_
        refine WL.next hQ41 (.cons (i := 4) rfl (.cons (i := 5) rfl (.nil))) ?_
        obtain rfl := Option.some.inj hF
        refine W.retV (fn := Tryd.f6) (vs := [.string r83, .int .i64 0]) Tryd.results6 ⟨.tmp rfl, ⟨.tmp rfl, trivial⟩⟩ (fun _ _ h => h) (fun wz hw => ?_)
        exact hR _ _ ⟨rfl, (hw.pick [] rfl)⟩

end Go.Proofs.YtjdkkabcenohcaaDoor
