/- rowsLives: what the code computes, and the walk. -/
import Derived.Test.YtgmodmacchdkiaaRA3
set_option linter.unusedVariables false
set_option linter.unusedSimpArgs false
set_option linter.unusedSectionVars false
set_option maxRecDepth 100000
namespace Go.Proofs.Ytgmodmacchdkiaa
open Go.RowKit
structure Do where
  kind : Int
  arg : Int
  res : Int
deriving DecidableEq
def Do.z : Do := ⟨0, 0, 0⟩
def encDo (x : Do) : List Value := (Value.int .i64 x.kind :: (Value.int .i64 x.arg :: (Value.int .i64 x.res :: [])))
theorem lenDo (x : Do) : (encDo x).length = 3 := rfl
theorem eqDo (x y : Do) : eqCells [true, true, true] (encDo x) (encDo y) = some (decide (x = y)) := by
  cases x; cases y; simp [encDo, eqCells, Do.mk.injEq, Bool.beq_eq_decide_eq]
theorem oneDo : ∀ x, ∀ v ∈ encDo x, v.oneCell' = true := fun x => (one_cons rfl (one_cons rfl (one_cons rfl one_nil)))
theorem cells25 : Try.prog.cellsOf 25 = 0 + 1 := by kernel_rfl
theorem cells158 : Try.prog.cellsOf 158 = 2 + 1 := by kernel_rfl
theorem isGo23 : IsGo Try.prog 23 := ⟨_, Try.func23, by kernel_rfl, rfl⟩
theorem isGo26 : IsGo Try.prog 26 := ⟨_, Try.func26, by kernel_rfl, rfl⟩
theorem isGo54 : IsGo Try.prog 54 := ⟨_, Try.func54, by kernel_rfl, rfl⟩
theorem isGo55 : IsGo Try.prog 55 := ⟨_, Try.func55, by kernel_rfl, rfl⟩
theorem isGo56 : IsGo Try.prog 56 := ⟨_, Try.func56, by kernel_rfl, rfl⟩
theorem zero158 : ∃ i, Try.prog.info? 158 = some i ∧ i.zero = some (Value.agg #[(Value.int .i64 0), (Value.int .i64 0), (Value.int .i64 0)]) := ⟨_, rfl, by kernel_rfl⟩
theorem bz25 : ∃ i, Try.prog.info? 25 = some i ∧ i.zero = some (Value.int .i64 0) ∧ i.size = 1 := ⟨_, rfl, by kernel_rfl, by kernel_rfl⟩
theorem bz31 : ∃ i, Try.prog.info? 31 = some i ∧ i.zero = some (Value.agg #[(Value.int .i64 0), (Value.int .i64 0), (Value.int .i64 0), (Value.int .i64 0)]) ∧ i.size = 4 := ⟨_, rfl, by kernel_rfl, by kernel_rfl⟩
theorem bz158 : ∃ i, Try.prog.info? 158 = some i ∧ i.zero = some (Value.agg #[(Value.int .i64 0), (Value.int .i64 0), (Value.int .i64 0)]) ∧ i.size = 3 := ⟨_, rfl, by kernel_rfl, by kernel_rfl⟩
theorem eqs58 : EqShape Try.prog 58 [true, true, true] := ⟨_, Try.underlying58, by kernel_rfl, by kernel_rfl, by kernel_rfl⟩
theorem eqs118 : EqShape Try.prog 118 [true, true] := ⟨_, Try.underlying118, by kernel_rfl, by kernel_rfl, by kernel_rfl⟩
theorem ap31 : ∃ i z, Try.prog.info? 31 = some i ∧ i.zero = some z ∧ i.size = 4 ∧ i.bytes = 32 ∧ z.cells.size = 4 ∧ 0 < 4 := ⟨_, (Value.agg #[(Value.int .i64 0), (Value.int .i64 0), (Value.int .i64 0), (Value.int .i64 0)]), rfl, by kernel_rfl, by kernel_rfl, by kernel_rfl, by kernel_rfl, by decide⟩
theorem shape31 : Shape Try.prog 31 [(0, 1), (1, 1), (2, 1), (3, 1)] #[(Value.int .i64 0), (Value.int .i64 0), (Value.int .i64 0), (Value.int .i64 0)] := ⟨_, _, Value.agg #[(Value.int .i64 0), (Value.int .i64 0), (Value.int .i64 0), (Value.int .i64 0)], Try.underlying31, rfl, by kernel_rfl, rfl, by kernel_rfl, by decide⟩
theorem shape158 : Shape Try.prog 158 [(0, 1), (1, 1), (2, 1)] #[(Value.int .i64 0), (Value.int .i64 0), (Value.int .i64 0)] := ⟨_, _, Value.agg #[(Value.int .i64 0), (Value.int .i64 0), (Value.int .i64 0)], Try.underlying158, rfl, by kernel_rfl, rfl, by kernel_rfl, by decide⟩
def alibkeep_ok_L3 (N : Nat) (l1 : (List Int)) : Int → Option (Int ⊕ (Unit ⊕ Bool))
  | v6 =>
    cond (decide (v6 < ((l1).length : Int)))
      (bd (ix l1 v6) fun (x7 : Int) =>
      cond (!(decide (x7 = 0)))
        (some (.inr (.inr false)))
        (ck (ok64 (v6 + 1)) <|
        some (.inl (v6 + 1))))
      (some (.inr (.inl ())))

def alibkeep_ok (N : Nat) (l1 : (List Int)) : Option Bool :=
  bd (α := (Unit ⊕ Bool)) (iter (alibkeep_ok_L3 N l1) N 0) <|
  Sum.elim (fun _ => 
    some true) (fun p => some p)

theorem alibkeep_ok_ok {N : Nat} {l1 : (List Int)} {res : Bool} (hF : alibkeep_ok N l1 = some res) (w : World) {v5 : Value} (hs4 : SlIn (eI .i64) 1 w v5 l1) :
    Pure Try.prog 23 [v5] w (.bool res) := by
  obtain ⟨A2, c3, rfl, hcc3, hs4⟩ := hs4.form
  refine W.enter (n := 14) Try.func23 rfl rfl Sub.refl (by simp) (St.start w) fun R hR => ?_
  unfold alibkeep_ok at hF
  refine W.seqR fun Q1 hQ1 => ?_
  refine WL.q (Y.assign (.pl rfl)) rfl ?_
  refine WL.next hQ1 (.cons (i := 0) rfl (.nil)) ?_
  obtain ⟨o2, hF2, hF⟩ := bnd hF
  refine W.join0 (Em := []) (M := []) (I := (.inl ()) = o2) (.nil) (fun K3 hK3 => ?_) ?_
  · -- up to
    refine W.seqR fun Q4 hQ4 => ?_
    refine WL.q (Y.move (.pl rfl)) rfl ?_
    refine WL.q (Y.len Try.underlying105 (.pl rfl)) rfl ?_
    refine WL.q (Y.move (.pl rfl)) rfl ?_
    refine WL.next hQ4 (.cons (i := 5) rfl (.cons (i := 6) rfl (.cons (i := 7) rfl (.nil)))) ?_
    refine W.block ?_
    refine W.loop1 (Em := fun (v6 : Int) => [(7, .int .i64 v6)]) (M := fun v6 => []) (I := fun v6 k5 => iter (alibkeep_ok_L3 N l1) k5 v6 = some o2) 0 N (hF2) (.cons rfl (.nil)) (.cons (i := 5) rfl (.cons (i := 6) rfl (.nil))) (fun wz hw => hw.pick [] rfl) (fun v6 k5 hI K6 hK6 => ?_)
    obtain ⟨k5, t5, rfl, hF5, hN5⟩ := iter_step hI
    refine W.seqR fun Q7 hQ7 => ?_
    refine WL.q (Y.lss (.pl rfl) (.pl rfl)) rfl ?_
    refine WL.next hQ7 (.cons (i := 5) rfl (.cons (i := 6) rfl (.cons (i := 7) rfl (.cons (i := 8) rfl (.nil))))) ?_
    refine W.seq fun K8 hK8 => ?_
    refine W.cond (.pl rfl) (fun hC9 => ?_) (fun hC9 => ?_)
    · replace hF5 := cpos hC9 hF5
      refine W.skip ?_
      refine W.go hK8 (.cons (i := 5) rfl (.cons (i := 6) rfl (.cons (i := 7) rfl (.nil)))) ?_
      refine W.seq fun K10 hK10 => ?_
      refine W.block ?_
      refine W.seqR fun Q11 hQ11 => ?_
      obtain ⟨x7, hx7, hF5⟩ := bnd hF5
      refine WL.q (Y.slEl Try.underlying105 cells25 hs4 (.pl rfl) (.pl rfl) (ix_lt (hx7))) rfl ?_
      refine WL.q (Y.loadS (enc := (eI .i64)) (v := .int .i64 x7) (j := 0) Try.underlying25 rfl hs4 (.pl rfl) (hx7) rfl rfl) rfl ?_
      refine WL.q (Y.assign (.pl rfl)) rfl ?_
      refine WL.next hQ11 (.cons (i := 4) rfl (.cons (i := 5) rfl (.cons (i := 6) rfl (.cons (i := 7) rfl (.nil))))) ?_
      refine W.seqR fun Q12 hQ12 => ?_
      refine WL.q (Y.move (.pl rfl)) rfl ?_
      refine WL.q (Y.neq (.pl rfl) (.pl rfl)) rfl ?_
      refine WL.next hQ12 (.cons (i := 5) rfl (.cons (i := 6) rfl (.cons (i := 7) rfl (.cons (i := 12) rfl (.nil))))) ?_
      refine W.cond (.pl rfl) (fun hC13 => ?_) (fun hC13 => ?_)
      · replace hF5 := cpos hC13 hF5
        refine W.seqR fun Q14 hQ14 => ?_
        refine WL.q (Y.assign (.pl rfl)) rfl ?_
        refine WL.next hQ14 (.cons (i := 2) rfl (.nil)) ?_
        obtain rfl := Option.some.inj hF5
        obtain rfl := einr hN5
        obtain rfl := Option.some.inj hF
        refine W.retV (fn := Try.f23) (vs := [.bool false]) Try.results23 ⟨.tmp rfl, trivial⟩ (fun _ _ h => h) (fun wz hw => ?_)
        exact hR _ _ ⟨rfl, (hw.pick [] rfl)⟩
      · replace hF5 := cneg hC13 hF5
        refine W.skip ?_
        refine W.go hK10 (.cons (i := 5) rfl (.cons (i := 6) rfl (.cons (i := 7) rfl (.nil)))) ?_
        refine W.reg ?_
        obtain ⟨hk8, hF5⟩ := ckh hF5
        refine WL.q (Y.add (.pl rfl) (.pl rfl) (ok64_lt (hk8))) rfl ?_
        refine WL.q (Y.move (.pl rfl)) rfl ?_
        refine WL.nil ?_
        obtain rfl := Option.some.inj hF5
        exact W.again1 hK6 (v6 + 1) k5 hN5 (Nat.lt_succ_self _) (.cons rfl (.nil)) (.cons (i := 5) rfl (.cons (i := 6) rfl (.nil))) (fun wz hw => hw.pick [] rfl)
    · replace hF5 := cneg hC9 hF5
      refine W.exit ?_
      obtain rfl := Option.some.inj hF5
      exact W.joinAt0 hK3  (einr hN5) (.nil) (.nil) (fun wz hw => hw.pick [] rfl)
  · -- behind
    rintro  rfl
    refine W.seqR fun Q16 hQ16 => ?_
    refine WL.q (Y.assign (.pl rfl)) rfl ?_
    refine WL.next hQ16 (.cons (i := 2) rfl (.nil)) ?_
    obtain rfl := Option.some.inj hF
    refine W.retV (fn := Try.f23) (vs := [.bool true]) Try.results23 ⟨.tmp rfl, trivial⟩ (fun _ _ h => h) (fun wz hw => ?_)
    exact hR _ _ ⟨rfl, (hw.pick [] rfl)⟩

def alibkeep_swapped_L3 (N : Nat) : ((List Event) × Int) → Option (((List Event) × Int) ⊕ (List Event))
  | (l7, v8) =>
    cond (decide (v8 < ((([(Do.mk 3 1 0), (Do.mk 3 2 0), (Do.mk 4 0 2), (Do.mk 4 0 1)] : List Do)).length : Int)))
      (bd (ix ([(Do.mk 3 1 0), (Do.mk 3 2 0), (Do.mk 4 0 2), (Do.mk 4 0 1)] : List Do) v8) fun (x9 : Do) =>
      ck (limB 32 ((l7).length + (([(Event.mk 0 0 x9.kind x9.arg), (Event.mk 0 0 0 x9.res)] : List Event)).length)) <|
      ck (ok64 (v8 + 1)) <|
      some (.inl ((l7 ++ ([(Event.mk 0 0 x9.kind x9.arg), (Event.mk 0 0 0 x9.res)] : List Event)), (v8 + 1))))
      (some (.inr l7))

def alibkeep_swapped (N : Nat) : Option (List Event) :=
  bd (α := (List Event)) (iter (alibkeep_swapped_L3 N) N ([], 0)) <|
  fun (l3 : (List Event)) => 
    some l3

theorem alibkeep_swapped_ok {N : Nat} {res : (List Event)} (hF : alibkeep_swapped N = some res) (w : World) :
    Made Try.prog 54 [] w (fun g : (Option Addr × Nat) => .slice g.1 (res).length g.2) (fun g => [cR encEvent 4 g.1 g.2 31 res]) (fun g => True) := by
  refine W.enter (n := 27) Try.func54 rfl rfl Sub.refl (by simp) (St.start w) fun R hR => ?_
  unfold alibkeep_swapped at hF
  refine W.seqR fun Q1 hQ1 => ?_
  refine WL.q (Y.assign (.pl rfl)) rfl ?_
  refine WL.next hQ1 (.nil) ?_
  refine W.seqR fun Q2 hQ2 => ?_
  refine WL.q (Y.assign (.pl rfl)) rfl ?_
  refine WL.next hQ2 (.cons (i := 1) rfl (.nil)) ?_
  obtain ⟨o3, hF3, hF⟩ := bnd hF
  refine W.join3 (Em := fun (l3 : (List Event)) (A1 : Option Addr) (c2 : Nat) => [(1, .slice A1 (l3).length c2)]) (M := fun l3 A1 c2 => [cR encEvent 4 A1 c2 31 l3]) (I := fun l3 A1 c2 => l3 = o3) (.nil) (fun K4 hK4 => ?_) ?_
  · -- up to
    refine W.seqR fun Q5 hQ5 => ?_
    refine WL.q (Y.build (cs := (encDo (Do.mk 3 1 0)).toArray) shape158 (.cons (.pl rfl) (.cons (.pl rfl) (.nil))) (one_parts ⟨rfl, ⟨rfl, trivial⟩⟩) rfl) rfl ?_
    refine WL.q (Y.build (cs := (encDo (Do.mk 3 2 0)).toArray) shape158 (.cons (.pl rfl) (.cons (.pl rfl) (.nil))) (one_parts ⟨rfl, ⟨rfl, trivial⟩⟩) rfl) rfl ?_
    refine WL.q (Y.build (cs := (encDo (Do.mk 4 0 2)).toArray) shape158 (.cons (.pl rfl) (.cons (.pl rfl) (.nil))) (one_parts ⟨rfl, ⟨rfl, trivial⟩⟩) rfl) rfl ?_
    refine WL.q (Y.build (cs := (encDo (Do.mk 4 0 1)).toArray) shape158 (.cons (.pl rfl) (.cons (.pl rfl) (.nil))) (one_parts ⟨rfl, ⟨rfl, trivial⟩⟩) rfl) rfl ?_
    refine WL.step (WO.bsliceC (enc := encDo) (ys := ([(Do.mk 3 1 0), (Do.mk 3 2 0), (Do.mk 4 0 2), (Do.mk 4 0 1)] : List Do)) Try.underlying159 bz158 (.cons (.pl rfl) (.cons (.pl rfl) (.cons (.pl rfl) (.cons (.pl rfl) (.nil))))) rfl lenDo rfl rfl (by decide) (by decide) rfl fun b4 => ?_)
    refine WL.q (Y.len Try.underlying159 (.pl rfl)) rfl ?_
    refine WL.q (Y.move (.pl rfl)) rfl ?_
    refine WL.next hQ5 (.cons (i := 1) rfl (.cons (i := 8) rfl (.cons (i := 9) rfl (.cons (i := 10) rfl (.nil))))) ?_
    refine W.block ?_
    refine W.loop4 (Em := fun (l7 : (List Event)) (v8 : Int) (A5 : Option Addr) (c6 : Nat) => [(1, .slice A5 (l7).length c6), (10, .int .i64 v8)]) (M := fun l7 v8 A5 c6 => [cR encEvent 4 A5 c6 31 l7, cR encDo 3 (some ⟨b4, 0, none⟩) (([(Do.mk 3 1 0), (Do.mk 3 2 0), (Do.mk 4 0 2), (Do.mk 4 0 1)] : List Do)).length 158 ([(Do.mk 3 1 0), (Do.mk 3 2 0), (Do.mk 4 0 2), (Do.mk 4 0 1)] : List Do)]) (I := fun l7 v8 A5 c6 k6 => iter (alibkeep_swapped_L3 N) k6 (l7, v8) = some o3) [] 0 none 0 N (hF3) (.cons rfl (.cons rfl (.nil))) (.cons (i := 8) rfl (.cons (i := 9) rfl (.nil))) (fun wz hw => (St.nilR (hw.pick [0] rfl) encEvent 4 31).pick [0, 1] rfl) (fun l7 v8 A5 c6 k6 hI K7 hK7 => ?_)
    obtain ⟨k6, t6, rfl, hF6, hN6⟩ := iter_step hI
    refine W.seqR fun Q8 hQ8 => ?_
    refine WL.q (Y.lss (.pl rfl) (.pl rfl)) rfl ?_
    refine WL.next hQ8 (.cons (i := 1) rfl (.cons (i := 8) rfl (.cons (i := 9) rfl (.cons (i := 10) rfl (.cons (i := 11) rfl (.nil)))))) ?_
    refine W.seq fun K9 hK9 => ?_
    refine W.cond (.pl rfl) (fun hC10 => ?_) (fun hC10 => ?_)
    · replace hF6 := cpos hC10 hF6
      refine W.skip ?_
      refine W.go hK9 (.cons (i := 1) rfl (.cons (i := 8) rfl (.cons (i := 9) rfl (.cons (i := 10) rfl (.nil))))) ?_
      refine W.seq fun K11 hK11 => ?_
      refine W.block ?_
      refine W.seqR fun Q12 hQ12 => ?_
      obtain ⟨x9, hx9, hF6⟩ := bnd hF6
      refine WL.q (Y.litEl (xs := ([(Do.mk 3 1 0), (Do.mk 3 2 0), (Do.mk 4 0 2), (Do.mk 4 0 1)] : List Do)) Try.underlying159 cells158 (.pl rfl) rfl (.pl rfl) (ix_lt (hx9))) rfl ?_
      refine WL.q (Y.loadRA (enc := encDo) (ds := (encDo x9)) (a := x9) (idx := v8) (j := 0) Try.underlying158 rfl cells158 lenDo (i := 1) rfl (.pl rfl) (ix_get (hx9)) rfl rfl subW) rfl ?_
      refine WL.step (WO.alloc (cs := (encDo (Do.mk 0 0 0)).toArray) zero158 rfl rfl fun b10 => ?_)
      refine WL.step (WO.storeBA (ds := (encDo x9)) (cs' := (encDo x9)) cells158 (.pl rfl) (.pl rfl) rfl (oneDo _) (i := 0) rfl (lel (o := 0) (l := 3) (m := 3) (by decide) rfl rfl) (putW rfl) ?_)
      refine WL.next hQ12 (.cons (i := 1) rfl (.cons (i := 3) rfl (.cons (i := 8) rfl (.cons (i := 9) rfl (.cons (i := 10) rfl (.nil)))))) ?_
      refine W.reg ?_
      refine WL.q (Y.move (.pl rfl)) rfl ?_
      refine WL.q (Y.fieldAddr0 (off := 0) (ft := 3) Try.underlying158 rfl cells3 (.pl rfl)) rfl ?_
      refine WL.q (Y.loadB (v := .int .i64 x9.kind) Try.underlying3 rfl (.pl rfl) (i := 0) rfl (rfl)) rfl ?_
      refine WL.q (Y.fieldAddr0 (off := 1) (ft := 3) Try.underlying158 rfl cells3 (.pl rfl)) rfl ?_
      refine WL.q (Y.loadB (v := .int .i64 x9.arg) Try.underlying3 rfl (.pl rfl) (i := 0) rfl (rfl)) rfl ?_
      refine WL.q (Y.build (cs := (encEvent (Event.mk 0 0 x9.kind x9.arg)).toArray) shape31 (.cons (.pl rfl) (.cons (.pl rfl) (.nil))) (one_parts ⟨rfl, ⟨rfl, trivial⟩⟩) rfl) rfl ?_
      refine WL.q (Y.fieldAddr0 (off := 2) (ft := 3) Try.underlying158 rfl cells3 (.pl rfl)) rfl ?_
      refine WL.q (Y.loadB (v := .int .i64 x9.res) Try.underlying3 rfl (.pl rfl) (i := 0) rfl (rfl)) rfl ?_
      refine WL.q (Y.build (cs := (encEvent (Event.mk 0 0 0 x9.res)).toArray) shape31 (.cons (.pl rfl) (.nil)) (one_parts ⟨rfl, trivial⟩) rfl) rfl ?_
      refine WL.step (WO.bsliceC (enc := encEvent) (ys := ([(Event.mk 0 0 x9.kind x9.arg), (Event.mk 0 0 0 x9.res)] : List Event)) Try.underlying24 bz31 (.cons (.pl rfl) (.cons (.pl rfl) (.nil))) rfl lenEvent rfl rfl (by decide) (by decide) rfl fun b11 => ?_)
      obtain ⟨hk14, hF6⟩ := ckh hF6
      refine WL.step (WO.appendC (enc := encEvent) Try.underlying24 ap31 lenEvent oneEvent (.pl rfl) rfl (.pl rfl) (i := 2) rfl (m2 := 0) rfl (hk14) rfl fun A12 c13 => ?_)
      refine WL.q (Y.assign (.pl rfl)) rfl ?_
      refine WL.nil ?_
      refine W.go hK11 (.cons (i := 1) rfl (.cons (i := 8) rfl (.cons (i := 9) rfl (.cons (i := 10) rfl (.nil))))) ?_
      refine W.reg ?_
      obtain ⟨hk15, hF6⟩ := ckh hF6
      refine WL.q (Y.add (.pl rfl) (.pl rfl) (ok64_lt (hk15))) rfl ?_
      refine WL.q (Y.move (.pl rfl)) rfl ?_
      refine WL.nil ?_
      obtain rfl := Option.some.inj hF6
      exact W.again4 hK7 (l7 ++ ([(Event.mk 0 0 x9.kind x9.arg), (Event.mk 0 0 0 x9.res)] : List Event)) (v8 + 1) A12 c13 k6 hN6 (Nat.lt_succ_self _) (.cons rfl (.cons rfl (.nil))) (.cons (i := 8) rfl (.cons (i := 9) rfl (.nil))) (fun wz hw => hw.pick [2, 3] rfl)
    · replace hF6 := cneg hC10 hF6
      refine W.exit ?_
      obtain rfl := Option.some.inj hF6
      exact W.joinAt3 hK4 l7 A5 c6 (einr hN6) (.cons rfl (.nil)) (.nil) (fun wz hw => hw.pick [0] rfl)
  · -- behind
    rintro l3 A1 c2 rfl
    refine W.seqR fun Q15 hQ15 => ?_
    refine WL.q (Y.move (.pl rfl)) rfl ?_
    refine WL.q (Y.assign (.pl rfl)) rfl ?_
    refine WL.next hQ15 (.cons (i := 0) rfl (.nil)) ?_
    obtain rfl := Option.some.inj hF
    refine W.retV (fn := Try.f54) (vs := [.slice A1 (l3).length c2]) Try.results54 ⟨.tmp rfl, trivial⟩ (fun _ _ h => h) (fun wz hw => ?_)
    exact hR _ _ ⟨(A1, c2), trivial, rfl, (hw.pick [0] rfl)⟩

def rows_Stays (N : Nat) (l1 : (List Event)) : Option ((List Span) × Int) :=
  bd (rows_read_2 N l1) fun (r6 : (Bool × (List Call) × (List RowsValue) × Int)) =>
  cond (!(decide (r6.2.2.2 = 0)))
    (some ([], r6.2.2.2))
    (ck (r6.1) <|
    bd (rows_log_stays N r6.2.1 r6.2.2.1) fun (r15 : (List Span)) =>
    some (r15, 0))

theorem rows_Stays_ok {N : Nat} {l1 : (List Event)} {res : ((List Span) × Int)} (hF : rows_Stays N l1 = some res) (w : World) {v5 : Value} (hs4 : SlIn encEvent 4 w v5 l1) :
    Made Try.prog 55 [v5] w (fun g : (Option Addr × Nat) => .tuple #[.slice g.1 (res.1).length g.2, .int .i64 res.2]) (fun g => [cR encSpan 2 g.1 g.2 118 res.1]) (fun g => True) := by
  obtain ⟨A2, c3, rfl, hcc3, hs4⟩ := hs4.form
  refine W.enter (n := 16) Try.func55 rfl rfl Sub.refl (by simp) (St.start w) fun R hR => ?_
  unfold rows_Stays at hF
  refine W.seqR fun Q1 hQ1 => ?_
  refine WL.q (Y.assign (.pl rfl)) rfl ?_
  refine WL.q (Y.assign (.pl rfl)) rfl ?_
  refine WL.next hQ1 (.cons (i := 0) rfl (.nil)) ?_
  refine W.seqR fun Q2 hQ2 => ?_
  refine WL.q (Y.move (.pl rfl)) rfl ?_
  obtain ⟨r6, hr6, hF⟩ := bnd hF
  refine WL.step (WO.callM isGo48 (.cons (.pl rfl) (.nil)) rfl (fun wz hw => rows_read_2_ok (hr6) wz (hs4.mono hw)) ?_)
  rintro ⟨b7, A8, c9, A10, c11⟩ hl12
  refine WL.q (Y.move (.pl rfl)) rfl ?_
  refine WL.q (Y.extract (.pl rfl) rfl) rfl ?_
  refine WL.q (Y.extract (.pl rfl) rfl) rfl ?_
  refine WL.q (Y.assign (.pl rfl)) rfl ?_
  refine WL.q (Y.assign (.pl rfl)) rfl ?_
  refine WL.next hQ2 (.cons (i := 4) rfl (.cons (i := 5) rfl (.nil))) ?_
  refine W.seq fun K3 hK3 => ?_
  refine W.seqR fun Q4 hQ4 => ?_
  refine WL.q (Y.move (.pl rfl)) rfl ?_
  refine WL.q (Y.neq (.pl rfl) (.pl rfl)) rfl ?_
  refine WL.next hQ4 (.cons (i := 4) rfl (.cons (i := 5) rfl (.cons (i := 12) rfl (.nil)))) ?_
  refine W.cond (.pl rfl) (fun hC5 => ?_) (fun hC5 => ?_)
  · replace hF := cpos hC5 hF
    refine W.seqR fun Q6 hQ6 => ?_
    refine WL.q (Y.move (.pl rfl)) rfl ?_
    refine WL.q (Y.assign (.pl rfl)) rfl ?_
    refine WL.q (Y.assign (.pl rfl)) rfl ?_
    refine WL.next hQ6 (.cons (i := 2) rfl (.cons (i := 3) rfl (.nil))) ?_
    obtain rfl := Option.some.inj hF
    refine W.retV (fn := Try.f55) (vs := [.slice none 0 0, .int .i64 r6.2.2.2]) Try.results55 ⟨.tmp rfl, ⟨.tmp rfl, trivial⟩⟩ (fun _ _ h => h) (fun wz hw => ?_)
    exact hR _ _ ⟨(none, 0), trivial, rfl, ((St.nilR (hw.pick [] rfl) encSpan 2 118).pick [0] rfl)⟩
  · replace hF := cneg hC5 hF
    refine W.skip ?_
    refine W.go hK3 (.cons (i := 4) rfl (.nil)) ?_
    obtain ⟨hk13, hF⟩ := ckh hF
    obtain ⟨b14, rfl⟩ := Option.isSome_iff_exists.1 (hl12.symm.trans hk13)
    refine W.seqR fun Q7 hQ7 => ?_
    refine WL.q (Y.move (.pl rfl)) rfl ?_
    obtain ⟨r15, hr15, hF⟩ := bnd hF
    refine WL.step (WO.call (γ := (Option Addr × Nat)) (fun g => .slice g.1 (r15).length g.2) (fun g => [cBx b14 145 (Value.slice A8 (r6.2.1).length c9 :: (Value.slice A10 (r6.2.2.1).length c11 :: [])), cR encCall 7 A8 c9 64 r6.2.1, cR encRowsValue 3 A10 c11 149 r6.2.2.1, cR encSpan 2 g.1 g.2 118 r15]) (fun g => True) isGo83 (.cons (.pl rfl) (.nil)) rfl (fun wz hw => rows_log_stays_ok (T := []) (hr15) (hw.pick [0, 1, 2] rfl) ) ?_)
    rintro ⟨A16, c17⟩ -
    refine WL.q (Y.assign (.pl rfl)) rfl ?_
    refine WL.q (Y.assign (.pl rfl)) rfl ?_
    refine WL.next hQ7 (.cons (i := 2) rfl (.cons (i := 3) rfl (.nil))) ?_
    obtain rfl := Option.some.inj hF
    refine W.retV (fn := Try.f55) (vs := [.slice A16 (r15).length c17, .int .i64 0]) Try.results55 ⟨.tmp rfl, ⟨.tmp rfl, trivial⟩⟩ (fun _ _ h => h) (fun wz hw => ?_)
    exact hR _ _ ⟨(A16, c17), trivial, rfl, (hw.pick [3] rfl)⟩

def slices_Equal_api_Span_api_Span_L3 (N : Nat) (s11 : (List Span)) (s26 : (List Span)) : Int → Option (Int ⊕ (Unit ⊕ Bool))
  | v11 =>
    cond (decide (v11 < ((s11).length : Int)))
      (bd (ix s11 v11) fun (x12 : Span) =>
      bd (ix s26 v11) fun (x13 : Span) =>
      cond (!(decide (x12 = x13)))
        (some (.inr (.inr false)))
        (ck (ok64 (v11 + 1)) <|
        some (.inl (v11 + 1))))
      (some (.inr (.inl ())))

def slices_Equal_api_Span_api_Span (N : Nat) (s11 : (List Span)) (s26 : (List Span)) : Option Bool :=
  cond (!(decide (((s11).length : Int) = ((s26).length : Int))))
    (some false)
    (bd (α := (Unit ⊕ Bool)) (iter (slices_Equal_api_Span_api_Span_L3 N s11 s26) N 0) <|
    Sum.elim (fun _ => 
      some true) (fun p => some p))

theorem slices_Equal_api_Span_api_Span_ok {N : Nat} {s11 : (List Span)} {s26 : (List Span)} {res : Bool} (hF : slices_Equal_api_Span_api_Span N s11 s26 = some res) (w : World) {v5 : Value} (hs4 : SlIn encSpan 2 w v5 s11) {v10 : Value} (hs9 : SlIn encSpan 2 w v10 s26) :
    Pure Try.prog 56 [v5, v10] w (.bool res) := by
  obtain ⟨A2, c3, rfl, hcc3, hs4⟩ := hs4.form
  obtain ⟨A7, c8, rfl, hcc8, hs9⟩ := hs9.form
  refine W.enter (n := 26) Try.func56 rfl rfl Sub.refl (by simp) (St.start w) fun R hR => ?_
  unfold slices_Equal_api_Span_api_Span at hF
  refine W.seqR fun Q1 hQ1 => ?_
  refine WL.q (Y.assign (.pl rfl)) rfl ?_
  refine WL.next hQ1 (.cons (i := 0) rfl (.cons (i := 1) rfl (.nil))) ?_
  refine W.seq fun K2 hK2 => ?_
  refine W.seqR fun Q3 hQ3 => ?_
  refine WL.q (Y.move (.pl rfl)) rfl ?_
  refine WL.q (Y.len Try.underlying113 (.pl rfl)) rfl ?_
  refine WL.q (Y.move (.pl rfl)) rfl ?_
  refine WL.q (Y.len Try.underlying113 (.pl rfl)) rfl ?_
  refine WL.q (Y.neq (.pl rfl) (.pl rfl)) rfl ?_
  refine WL.next hQ3 (.cons (i := 0) rfl (.cons (i := 1) rfl (.cons (i := 10) rfl (.nil)))) ?_
  refine W.cond (.pl rfl) (fun hC4 => ?_) (fun hC4 => ?_)
  · replace hF := cpos hC4 hF
    refine W.seqR fun Q5 hQ5 => ?_
    refine WL.q (Y.assign (.pl rfl)) rfl ?_
    refine WL.next hQ5 (.cons (i := 4) rfl (.nil)) ?_
    obtain rfl := Option.some.inj hF
    refine W.retV (fn := Try.f56) (vs := [.bool false]) Try.results56 ⟨.tmp rfl, trivial⟩ (fun _ _ h => h) (fun wz hw => ?_)
    exact hR _ _ ⟨rfl, (hw.pick [] rfl)⟩
  · replace hF := cneg hC4 hF
    refine W.skip ?_
    refine W.go hK2 (.cons (i := 0) rfl (.cons (i := 1) rfl (.nil))) ?_
    obtain ⟨o6, hF6, hF⟩ := bnd hF
    refine W.join0 (Em := []) (M := []) (I := (.inl ()) = o6) (.nil) (fun K7 hK7 => ?_) ?_
    · -- up to
      refine W.seqR fun Q8 hQ8 => ?_
      refine WL.q (Y.move (.pl rfl)) rfl ?_
      refine WL.q (Y.len Try.underlying113 (.pl rfl)) rfl ?_
      refine WL.q (Y.move (.pl rfl)) rfl ?_
      refine WL.next hQ8 (.cons (i := 0) rfl (.cons (i := 1) rfl (.cons (i := 12) rfl (.cons (i := 13) rfl (.nil))))) ?_
      refine W.block ?_
      refine W.loop1 (Em := fun (v11 : Int) => [(13, .int .i64 v11)]) (M := fun v11 => []) (I := fun v11 k9 => iter (slices_Equal_api_Span_api_Span_L3 N s11 s26) k9 v11 = some o6) 0 N (hF6) (.cons rfl (.nil)) (.cons (i := 0) rfl (.cons (i := 1) rfl (.cons (i := 12) rfl (.nil)))) (fun wz hw => hw.pick [] rfl) (fun v11 k9 hI K10 hK10 => ?_)
      obtain ⟨k9, t9, rfl, hF9, hN9⟩ := iter_step hI
      refine W.seqR fun Q11 hQ11 => ?_
      refine WL.q (Y.lss (.pl rfl) (.pl rfl)) rfl ?_
      refine WL.next hQ11 (.cons (i := 0) rfl (.cons (i := 1) rfl (.cons (i := 12) rfl (.cons (i := 13) rfl (.cons (i := 14) rfl (.nil)))))) ?_
      refine W.seq fun K12 hK12 => ?_
      refine W.cond (.pl rfl) (fun hC13 => ?_) (fun hC13 => ?_)
      · replace hF9 := cpos hC13 hF9
        refine W.skip ?_
        refine W.go hK12 (.cons (i := 0) rfl (.cons (i := 1) rfl (.cons (i := 12) rfl (.cons (i := 13) rfl (.nil))))) ?_
        refine W.seq fun K14 hK14 => ?_
        refine W.block ?_
        refine W.seqR fun Q15 hQ15 => ?_
        refine WL.q (Y.move (.pl rfl)) rfl ?_
        refine WL.q (Y.assign (.pl rfl)) rfl ?_
        refine WL.next hQ15 (.cons (i := 0) rfl (.cons (i := 1) rfl (.cons (i := 5) rfl (.cons (i := 12) rfl (.cons (i := 13) rfl (.nil)))))) ?_
        refine W.seqD (by kernel_rfl) (by kernel_rfl) fun R16 hR16 => ?_
        refine WD.q (Y.move (.pl rfl)) rfl ?_
        refine WD.q (Y.move (.pl rfl)) rfl ?_
        obtain ⟨x12, hx12, hF9⟩ := bnd hF9
        refine WD.q (Y.slEl Try.underlying113 cells118 hs4 (.pl rfl) (.pl rfl) (ix_lt (hx12))) rfl ?_
        refine WD.q (Y.loadSA (enc := encSpan) (ds := (encSpan x12)) (j := 0) Try.underlying118 rfl cells118 hs4 (.pl rfl) (hx12) rfl rfl subW) rfl ?_
        refine WD.q (Y.move (.pl rfl)) rfl ?_
        refine WD.q (Y.move (.pl rfl)) rfl ?_
        obtain ⟨x13, hx13, hF9⟩ := bnd hF9
        refine WD.q (Y.slEl Try.underlying113 cells118 hs9 (.pl rfl) (.pl rfl) (ix_lt (hx13))) rfl ?_
        refine WD.q (Y.loadSA (enc := encSpan) (ds := (encSpan x13)) (j := 0) Try.underlying118 rfl cells118 hs9 (.pl rfl) (hx13) rfl rfl subW) rfl ?_
        refine WD.q (Y.neqS eqs118 (.pl rfl) (.pl rfl) (eqSpan x12 x13)) rfl ?_
        refine WD.next hR16 (.cons (i := 0) rfl (.cons (i := 1) rfl (.cons (i := 12) rfl (.cons (i := 13) rfl (.cons (i := 24) rfl (.nil)))))) ?_
        refine W.cond (.pl rfl) (fun hC17 => ?_) (fun hC17 => ?_)
        · replace hF9 := cpos hC17 hF9
          refine W.seqR fun Q18 hQ18 => ?_
          refine WL.q (Y.assign (.pl rfl)) rfl ?_
          refine WL.next hQ18 (.cons (i := 4) rfl (.nil)) ?_
          obtain rfl := Option.some.inj hF9
          obtain rfl := einr hN9
          obtain rfl := Option.some.inj hF
          refine W.retV (fn := Try.f56) (vs := [.bool false]) Try.results56 ⟨.tmp rfl, trivial⟩ (fun _ _ h => h) (fun wz hw => ?_)
          exact hR _ _ ⟨rfl, (hw.pick [] rfl)⟩
        · replace hF9 := cneg hC17 hF9
          refine W.skip ?_
          refine W.go hK14 (.cons (i := 0) rfl (.cons (i := 1) rfl (.cons (i := 12) rfl (.cons (i := 13) rfl (.nil))))) ?_
          refine W.reg ?_
          obtain ⟨hk14, hF9⟩ := ckh hF9
          refine WL.q (Y.add (.pl rfl) (.pl rfl) (ok64_lt (hk14))) rfl ?_
          refine WL.q (Y.move (.pl rfl)) rfl ?_
          refine WL.nil ?_
          obtain rfl := Option.some.inj hF9
          exact W.again1 hK10 (v11 + 1) k9 hN9 (Nat.lt_succ_self _) (.cons rfl (.nil)) (.cons (i := 0) rfl (.cons (i := 1) rfl (.cons (i := 12) rfl (.nil)))) (fun wz hw => hw.pick [] rfl)
      · replace hF9 := cneg hC13 hF9
        refine W.exit ?_
        obtain rfl := Option.some.inj hF9
        exact W.joinAt0 hK7  (einr hN9) (.nil) (.nil) (fun wz hw => hw.pick [] rfl)
    · -- behind
      rintro  rfl
      refine W.seqR fun Q20 hQ20 => ?_
      refine WL.q (Y.assign (.pl rfl)) rfl ?_
      refine WL.next hQ20 (.cons (i := 4) rfl (.nil)) ?_
      obtain rfl := Option.some.inj hF
      refine W.retV (fn := Try.f56) (vs := [.bool true]) Try.results56 ⟨.tmp rfl, trivial⟩ (fun _ _ h => h) (fun wz hw => ?_)
      exact hR _ _ ⟨rfl, (hw.pick [] rfl)⟩

def alibkeep_rowsLives (N : Nat) : Option Bool :=
  bd (alibkeep_swapped N) fun (r1 : (List Event)) =>
  bd (rows_Check N r1) fun (r4 : (Bool × Int × Int × Int × Int)) =>
  bd (alibkeep_swapped N) fun (r6 : (List Event)) =>
  ck (slB (r6).length 0 4) <|
  bd (rows_Check N (r6.take (4 : Int).toNat)) fun (r10 : (Bool × Int × Int × Int × Int)) =>
  bd (alibkeep_swapped N) fun (r12 : (List Event)) =>
  bd (rows_Stays N r12) fun (r15 : ((List Span) × Int)) =>
  bd (α := Bool) (bd (alibkeep_ok N ([r4.2.2.2.2, r10.2.2.2.2, r15.2] : List Int)) fun (r20 : Bool) =>
    cond ((((r20 && (!r4.1)) && (decide ((Bad.mk r4.2.1 r4.2.2.1 r4.2.2.2.1) = (Bad.mk 6 1 2)))) && r10.1) == true)
      (bd (slices_Equal_api_Span_api_Span N r15.1 ([(Span.mk 1 5), (Span.mk 3 3)] : List Span)) fun (r22 : Bool) =>
      some ((((r20 && (!r4.1)) && (decide ((Bad.mk r4.2.1 r4.2.2.1 r4.2.2.2.1) = (Bad.mk 6 1 2)))) && r10.1) && r22))
      (some ((((r20 && (!r4.1)) && (decide ((Bad.mk r4.2.1 r4.2.2.1 r4.2.2.2.1) = (Bad.mk 6 1 2)))) && r10.1) && false))) <|
  fun (v18 : Bool) => 
    some v18

theorem alibkeep_rowsLives_ok {N : Nat} {res : Bool} (hF : alibkeep_rowsLives N = some res) (w : World) :
    Pure Try.prog 27 [] w (.bool res) := by
  refine W.enter (n := 51) Try.func27 rfl rfl Sub.refl (by simp) (St.start w) fun R hR => ?_
  unfold alibkeep_rowsLives at hF
  refine W.seqR fun Q1 hQ1 => ?_
  refine WL.q (Y.assign (.pl rfl)) rfl ?_
  refine WL.next hQ1 (.nil) ?_
  refine W.seqR fun Q2 hQ2 => ?_
  obtain ⟨r1, hr1, hF⟩ := bnd hF
  refine WL.step (WO.callM isGo54 (.nil) rfl (fun wz hw => alibkeep_swapped_ok (hr1) wz ) ?_)
  rintro ⟨A2, c3⟩ -
  obtain ⟨r4, hr4, hF⟩ := bnd hF
  refine WL.step (WO.callP isGo26 (.cons (.pl rfl) (.nil)) rfl (fun wz hw => rows_Check_ok (hr4) wz (SlIn.ofRow lenEvent hw (i := 0) rfl)) ?_)
  refine WL.q (Y.move (.pl rfl)) rfl ?_
  refine WL.q (Y.extract (.pl rfl) rfl) rfl ?_
  refine WL.q (Y.extract (.pl rfl) rfl) rfl ?_
  refine WL.q (Y.extract (.pl rfl) rfl) rfl ?_
  refine WL.step (WO.alloc (cs := (encBad (Bad.mk 0 0 0)).toArray) zero58 rfl rfl fun b5 => ?_)
  refine WL.q (Y.assign (.pl rfl)) rfl ?_
  refine WL.step (WO.storeBA (ds := (encBad (Bad.mk r4.2.1 r4.2.2.1 r4.2.2.2.1))) (cs' := (encBad (Bad.mk r4.2.1 r4.2.2.1 r4.2.2.2.1))) cells58 (.pl rfl) (.pl rfl) rfl (oneBad _) (i := 0) rfl (lel (o := 0) (l := 3) (m := 3) (by decide) rfl rfl) (putW rfl) ?_)
  refine WL.q (Y.assign (.pl rfl)) rfl ?_
  refine WL.next hQ2 (.cons (i := 1) rfl (.cons (i := 2) rfl (.cons (i := 3) rfl (.nil)))) ?_
  refine W.seqR fun Q3 hQ3 => ?_
  obtain ⟨r6, hr6, hF⟩ := bnd hF
  refine WL.step (WO.callM isGo54 (.nil) rfl (fun wz hw => alibkeep_swapped_ok (hr6) wz ) ?_)
  rintro ⟨A7, c8⟩ -
  obtain ⟨hk9, hF⟩ := ckh hF
  refine WL.q (Y.sliceR0 Try.underlying24 cells31 (i := 0) rfl (.pl rfl) rfl (.pl rfl) (hk9)) rfl ?_
  obtain ⟨r10, hr10, hF⟩ := bnd hF
  refine WL.step (WO.callP isGo26 (.cons (.pl rfl) (.nil)) rfl (fun wz hw => rows_Check_ok (hr10) wz (SlIn.sub0 (SlIn.ofRow (enc := encEvent) (sz := 4) lenEvent hw (i := 0) rfl) (slB_nat0 (hk9)))) ?_)
  refine WL.q (Y.move (.pl rfl)) rfl ?_
  refine WL.q (Y.extract (.pl rfl) rfl) rfl ?_
  refine WL.q (Y.extract (.pl rfl) rfl) rfl ?_
  refine WL.q (Y.extract (.pl rfl) rfl) rfl ?_
  refine WL.step (WO.alloc (cs := (encBad (Bad.mk 0 0 0)).toArray) zero58 rfl rfl fun b11 => ?_)
  refine WL.q (Y.assign (.pl rfl)) rfl ?_
  refine WL.step (WO.storeBA (ds := (encBad (Bad.mk r10.2.1 r10.2.2.1 r10.2.2.2.1))) (cs' := (encBad (Bad.mk r10.2.1 r10.2.2.1 r10.2.2.2.1))) cells58 (.pl rfl) (.pl rfl) rfl (oneBad _) (i := 0) rfl (lel (o := 0) (l := 3) (m := 3) (by decide) rfl rfl) (putW rfl) ?_)
  refine WL.q (Y.assign (.pl rfl)) rfl ?_
  refine WL.next hQ3 (.cons (i := 1) rfl (.cons (i := 2) rfl (.cons (i := 3) rfl (.cons (i := 4) rfl (.cons (i := 6) rfl (.nil)))))) ?_
  refine W.seqR fun Q4 hQ4 => ?_
  obtain ⟨r12, hr12, hF⟩ := bnd hF
  refine WL.step (WO.callM isGo54 (.nil) rfl (fun wz hw => alibkeep_swapped_ok (hr12) wz ) ?_)
  rintro ⟨A13, c14⟩ -
  obtain ⟨r15, hr15, hF⟩ := bnd hF
  refine WL.step (WO.callM isGo55 (.cons (.pl rfl) (.nil)) rfl (fun wz hw => rows_Stays_ok (hr15) wz (SlIn.ofRow lenEvent hw (i := 0) rfl)) ?_)
  rintro ⟨A16, c17⟩ -
  refine WL.q (Y.move (.pl rfl)) rfl ?_
  refine WL.q (Y.extract (.pl rfl) rfl) rfl ?_
  refine WL.q (Y.extract (.pl rfl) rfl) rfl ?_
  refine WL.q (Y.assign (.pl rfl)) rfl ?_
  refine WL.q (Y.assign (.pl rfl)) rfl ?_
  refine WL.next hQ4 (.cons (i := 1) rfl (.cons (i := 2) rfl (.cons (i := 3) rfl (.cons (i := 4) rfl (.cons (i := 6) rfl (.cons (i := 7) rfl (.cons (i := 8) rfl (.nil)))))))) ?_
  obtain ⟨o5, hF5, hF⟩ := bnd hF
  refine W.join1 (Em := fun (v18 : Bool) => [(0, .bool v18)]) (M := fun v18 => []) (I := fun v18 => v18 = o5) (.nil) (fun K6 hK6 => ?_) ?_
  · -- up to
    refine W.reg ?_
    refine WL.q (Y.move (.pl rfl)) rfl ?_
    refine WL.q (Y.move (.pl rfl)) rfl ?_
    refine WL.q (Y.move (.pl rfl)) rfl ?_
    refine WL.step (WO.bsliceC (enc := (eI .i64)) (ys := ([r4.2.2.2.2, r10.2.2.2.2, r15.2] : List Int)) Try.underlying105 bz25 (.cons (.pl rfl) (.cons (.pl rfl) (.cons (.pl rfl) (.nil)))) rfl (fun _ => rfl) rfl rfl (by decide) (by decide) rfl fun b19 => ?_)
    obtain ⟨r20, hr20, hF5⟩ := bnd hF5
    refine WL.step (WO.callP isGo23 (.cons (.pl rfl) (.nil)) rfl (fun wz hw => alibkeep_ok_ok (hr20) wz (SlIn.ofRow (fun _ => rfl) hw (i := 0) rfl)) ?_)
    refine WL.q (Y.move (.pl rfl)) rfl ?_
    refine WL.g (.pl rfl rfl rfl) (fun hg => Y.move (.pl rfl)) rfl ?_
    refine WL.g (.pl rfl rfl rfl) (fun hg => Y.not (.gd (hg) rfl)) rfl ?_
    refine WL.q (Y.and (.pl rfl) (fun h2 => .gd (eqt h2) rfl)) rfl ?_
    refine WL.q (Y.move (.pl rfl)) rfl ?_
    refine WL.g (.pl rfl rfl rfl) (fun hg => Y.loadBA (ds := (encBad (Bad.mk r4.2.1 r4.2.2.1 r4.2.2.2.1))) Try.underlying58 rfl cells58 (.pl rfl) (i := 5) rfl rfl subW) rfl ?_
    refine WL.g (.pl rfl rfl rfl) (fun hg => Y.build (cs := (encBad (Bad.mk 6 1 2)).toArray) shape58 (.cons (.pl rfl) (.cons (.pl rfl) (.cons (.pl rfl) (.nil)))) (one_parts ⟨rfl, ⟨rfl, ⟨rfl, trivial⟩⟩⟩) rfl) rfl ?_
    refine WL.g (.pl rfl rfl rfl) (fun hg => Y.eqlS eqs58 (.gd (hg) rfl) (.gd (hg) rfl) (eqBad (Bad.mk r4.2.1 r4.2.2.1 r4.2.2.2.1) (Bad.mk 6 1 2))) rfl ?_
    refine WL.q (Y.and (.pl rfl) (fun h2 => .gd (eqt h2) rfl)) rfl ?_
    refine WL.q (Y.move (.pl rfl)) rfl ?_
    refine WL.g (.pl rfl rfl rfl) (fun hg => Y.move (.pl rfl)) rfl ?_
    refine WL.q (Y.and (.pl rfl) (fun h2 => .gd (eqt h2) rfl)) rfl ?_
    refine WL.q (Y.move (.pl rfl)) rfl ?_
    refine WL.g (.pl rfl rfl rfl) (fun hg => Y.move (.pl rfl)) rfl ?_
    refine WL.g (.pl rfl rfl rfl) (fun hg => Y.build (cs := (encSpan (Span.mk 1 5)).toArray) shape118 (.cons (.pl rfl) (.cons (.pl rfl) (.nil))) (one_parts ⟨rfl, ⟨rfl, trivial⟩⟩) rfl) rfl ?_
    refine WL.g (.pl rfl rfl rfl) (fun hg => Y.build (cs := (encSpan (Span.mk 3 3)).toArray) shape118 (.cons (.pl rfl) (.cons (.pl rfl) (.nil))) (one_parts ⟨rfl, ⟨rfl, trivial⟩⟩) rfl) rfl ?_
    refine bsplit ((((r20 && (!r4.1)) && (decide ((Bad.mk r4.2.1 r4.2.2.1 r4.2.2.2.1) = (Bad.mk 6 1 2)))) && r10.1) == true) (fun hg7 => ?_) (fun hg7 => ?_)
    · replace hF5 := cpos hg7 hF5
      refine WL.gd (.pl rfl rfl rfl) (hg7) ?_
      refine WL.step (WO.bsliceC (enc := encSpan) (ys := ([(Span.mk 1 5), (Span.mk 3 3)] : List Span)) Try.underlying113 bz118 (.cons (.gd (hg7) rfl) (.cons (.gd (hg7) rfl) (.nil))) rfl lenSpan rfl rfl (by decide) (by decide) rfl fun b21 => ?_)
      refine WL.gd (.pl rfl rfl rfl) (hg7) ?_
      obtain ⟨r22, hr22, hF5⟩ := bnd hF5
      refine WL.step (WO.callP isGo56 (.cons (.gd (hg7) rfl) (.cons (.pl rfl) (.nil))) rfl (fun wz hw => slices_Equal_api_Span_api_Span_ok (hr22) wz (SlIn.ofRow lenSpan hw (i := 2) rfl) (SlIn.ofRow lenSpan hw (i := 0) rfl)) ?_)
      refine WL.q (Y.and (.pl rfl) (fun _ => .pl rfl)) rfl ?_
      refine WL.q (Y.assign (.pl rfl)) rfl ?_
      refine WL.nil ?_
      exact W.joinAt1 hK6 ((((r20 && (!r4.1)) && (decide ((Bad.mk r4.2.1 r4.2.2.1 r4.2.2.2.1) = (Bad.mk 6 1 2)))) && r10.1) && r22) (Option.some.inj hF5) (.cons rfl (.nil)) (.nil) (fun wz hw => hw.pick [] rfl)
    · replace hF5 := cneg hg7 hF5
      refine WL.gn (.pl rfl rfl rfl) hg7 rfl ?_
      refine WL.gn (.pl rfl rfl rfl) hg7 rfl ?_
      refine WL.q (Y.and (b := false) (.pl rfl) (fun h2 => (gabsA hg7 h2).elim)) rfl ?_
      refine WL.q (Y.assign (.pl rfl)) rfl ?_
      refine WL.nil ?_
      exact W.joinAt1 hK6 ((((r20 && (!r4.1)) && (decide ((Bad.mk r4.2.1 r4.2.2.1 r4.2.2.2.1) = (Bad.mk 6 1 2)))) && r10.1) && false) (Option.some.inj hF5) (.cons rfl (.nil)) (.nil) (fun wz hw => hw.pick [] rfl)
  · -- behind
    rintro v18 rfl
    obtain rfl := Option.some.inj hF
    refine W.retV (fn := Try.f27) (vs := [.bool v18]) Try.results27 ⟨.tmp rfl, trivial⟩ (fun _ _ h => h) (fun wz hw => ?_)
    exact hR _ _ ⟨rfl, (hw.pick [] rfl)⟩

end Go.Proofs.Ytgmodmacchdkiaa
