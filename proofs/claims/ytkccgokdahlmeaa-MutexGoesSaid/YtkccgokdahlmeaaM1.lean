/- The laws of mutual exclusion: what their code computes, and the walks. -/
import Derived.Test.YtkccgokdahlmeaaProg
import Derived.Test.YtkccgokdahlmeaaNest
set_option linter.unusedVariables false
set_option linter.unusedSimpArgs false
set_option linter.unusedSectionVars false
set_option maxRecDepth 100000
namespace Go.Proofs.Ytkccgokdahlmeaa
open Go.RowKit
structure MutexProcess where
  step : Int
  left : Int
  flag : Bool
  number : Int
  k : Int
deriving DecidableEq
def MutexProcess.z : MutexProcess := ⟨0, 0, false, 0, 0⟩
def encMutexProcess (x : MutexProcess) : List Value := (Value.int .i64 x.step :: (Value.int .i64 x.left :: (Value.bool x.flag :: (Value.int .i64 x.number :: (Value.int .i64 x.k :: [])))))
theorem lenMutexProcess (x : MutexProcess) : (encMutexProcess x).length = 5 := rfl
theorem eqMutexProcess (x y : MutexProcess) : eqCells [true, true, false, true, true] (encMutexProcess x) (encMutexProcess y) = some (decide (x = y)) := by
  cases x; cases y; simp [encMutexProcess, eqCells, MutexProcess.mk.injEq, Bool.beq_eq_decide_eq]
theorem oneMutexProcess : ∀ x, ∀ v ∈ encMutexProcess x, v.oneCell' = true := fun x => (one_cons rfl (one_cons rfl (one_cons rfl (one_cons rfl (one_cons rfl one_nil)))))
structure Gate where
  who : Int
  in_ : Bool
deriving DecidableEq
def Gate.z : Gate := ⟨0, false⟩
def encGate (x : Gate) : List Value := (Value.int .i64 x.who :: (Value.bool x.in_ :: []))
theorem lenGate (x : Gate) : (encGate x).length = 2 := rfl
theorem eqGate (x y : Gate) : eqCells [true, false] (encGate x) (encGate y) = some (decide (x = y)) := by
  cases x; cases y; simp [encGate, eqCells, Gate.mk.injEq, Bool.beq_eq_decide_eq]
theorem oneGate : ∀ x, ∀ v ∈ encGate x, v.oneCell' = true := fun x => (one_cons rfl (one_cons rfl one_nil))
theorem cells3 : Try.prog.cellsOf 3 = 0 + 1 := by kernel_rfl
theorem cells4 : Try.prog.cellsOf 4 = 0 + 1 := by kernel_rfl
theorem cells24 : Try.prog.cellsOf 24 = 0 + 1 := by kernel_rfl
theorem cells84 : Try.prog.cellsOf 84 = 0 + 1 := by kernel_rfl
theorem cells163 : Try.prog.cellsOf 163 = 0 + 1 := by kernel_rfl
theorem cells167 : Try.prog.cellsOf 167 = 4 + 1 := by kernel_rfl
theorem cells172 : Try.prog.cellsOf 172 = 1 + 1 := by kernel_rfl
theorem isGo19 : IsGo Try.prog 19 := ⟨_, Try.func19, by kernel_rfl, rfl⟩
theorem isGo36 : IsGo Try.prog 36 := ⟨_, Try.func36, by kernel_rfl, rfl⟩
theorem isGo43 : IsGo Try.prog 43 := ⟨_, Try.func43, by kernel_rfl, rfl⟩
theorem isGo44 : IsGo Try.prog 44 := ⟨_, Try.func44, by kernel_rfl, rfl⟩
theorem isGo82 : IsGo Try.prog 82 := ⟨_, Try.func82, by kernel_rfl, rfl⟩
theorem isGo83 : IsGo Try.prog 83 := ⟨_, Try.func83, by kernel_rfl, rfl⟩
theorem isGo84 : IsGo Try.prog 84 := ⟨_, Try.func84, by kernel_rfl, rfl⟩
theorem isGo85 : IsGo Try.prog 85 := ⟨_, Try.func85, by kernel_rfl, rfl⟩
theorem isGo86 : IsGo Try.prog 86 := ⟨_, Try.func86, by kernel_rfl, rfl⟩
theorem isGo87 : IsGo Try.prog 87 := ⟨_, Try.func87, by kernel_rfl, rfl⟩
theorem isGo111 : IsGo Try.prog 111 := ⟨_, Try.func111, by kernel_rfl, rfl⟩
theorem isGo112 : IsGo Try.prog 112 := ⟨_, Try.func112, by kernel_rfl, rfl⟩
theorem isGo113 : IsGo Try.prog 113 := ⟨_, Try.func113, by kernel_rfl, rfl⟩
theorem isGo114 : IsGo Try.prog 114 := ⟨_, Try.func114, by kernel_rfl, rfl⟩
theorem zero167 : ∃ i, Try.prog.info? 167 = some i ∧ i.zero = some (Value.agg #[(Value.int .i64 0), (Value.int .i64 0), (Value.bool false), (Value.int .i64 0), (Value.int .i64 0)]) := ⟨_, rfl, by kernel_rfl⟩
theorem bz3 : ∃ i, Try.prog.info? 3 = some i ∧ i.zero = some (Value.int .i64 0) ∧ i.size = 1 := ⟨_, rfl, by kernel_rfl, by kernel_rfl⟩
theorem bz24 : ∃ i, Try.prog.info? 24 = some i ∧ i.zero = some (Value.int .i64 0) ∧ i.size = 1 := ⟨_, rfl, by kernel_rfl, by kernel_rfl⟩
theorem bz172 : ∃ i, Try.prog.info? 172 = some i ∧ i.zero = some (Value.agg #[(Value.int .i64 0), (Value.bool false)]) ∧ i.size = 2 := ⟨_, rfl, by kernel_rfl, by kernel_rfl⟩
theorem mka167 : ∃ i z, Try.prog.info? 167 = some i ∧ i.zero = some z ∧ i.size = 5 ∧ i.bytes = 40 ∧ z.cells = ([(Value.int .i64 0), (Value.int .i64 0), (Value.bool false), (Value.int .i64 0), (Value.int .i64 0)] : List Value).toArray ∧ ([(Value.int .i64 0), (Value.int .i64 0), (Value.bool false), (Value.int .i64 0), (Value.int .i64 0)] : List Value).length = 5 ∧ 0 < 5 := ⟨_, (Value.agg #[(Value.int .i64 0), (Value.int .i64 0), (Value.bool false), (Value.int .i64 0), (Value.int .i64 0)]), rfl, by kernel_rfl, by kernel_rfl, by kernel_rfl, rfl, rfl, by decide⟩
theorem eqs172 : EqShape Try.prog 172 [true, false] := ⟨_, Try.underlying172, by kernel_rfl, by kernel_rfl, by kernel_rfl⟩
theorem ap3 : ∃ i z, Try.prog.info? 3 = some i ∧ i.zero = some z ∧ i.size = 1 ∧ i.bytes = 8 ∧ z.cells.size = 1 ∧ 0 < 1 := ⟨_, (Value.int .i64 0), rfl, by kernel_rfl, by kernel_rfl, by kernel_rfl, by kernel_rfl, by decide⟩
theorem ap172 : ∃ i z, Try.prog.info? 172 = some i ∧ i.zero = some z ∧ i.size = 2 ∧ i.bytes = 16 ∧ z.cells.size = 2 ∧ 0 < 2 := ⟨_, (Value.agg #[(Value.int .i64 0), (Value.bool false)]), rfl, by kernel_rfl, by kernel_rfl, by kernel_rfl, by kernel_rfl, by decide⟩
theorem shape165 : Shape Try.prog 165 [(0, 1), (1, 1), (2, 1), (3, 1), (4, 1)] #[(Value.slice none 0 0), (Value.int .i64 0), (Value.int .i64 0), (Value.int .i64 0), (Value.slice none 0 0)] := ⟨_, _, Value.agg #[(Value.slice none 0 0), (Value.int .i64 0), (Value.int .i64 0), (Value.int .i64 0), (Value.slice none 0 0)], Try.underlying165, rfl, by kernel_rfl, rfl, by kernel_rfl, by decide⟩
theorem shape172 : Shape Try.prog 172 [(0, 1), (1, 1)] #[(Value.int .i64 0), (Value.bool false)] := ⟨_, _, Value.agg #[(Value.int .i64 0), (Value.bool false)], Try.underlying172, rfl, by kernel_rfl, rfl, by kernel_rfl, by decide⟩
def mutex_check_L3 (N : Nat) (list4 : (List Int)) (people2 : Int) : Int → Option (Int ⊕ (Unit ⊕ Int))
  | v9 =>
    cond (decide (v9 < ((list4).length : Int)))
      (bd (ix list4 v9) fun (x10 : Int) =>
      cond ((decide (x10 < 0)) || (decide (people2 ≤ x10)))
        (some (.inr (.inr 1)))
        (ck (ok64 (v9 + 1)) <|
        some (.inl (v9 + 1))))
      (some (.inr (.inl ())))

def mutex_check (N : Nat) (algo1 : Int) (people2 : Int) (turns3 : Int) (list4 : (List Int)) : Option Int :=
  cond (((((((decide (algo1 < 1)) || (decide (4 < algo1))) || (decide (people2 < 1))) || (decide (4 < people2))) || ((decide (algo1 = 1)) && (!(decide (people2 = 2))))) || (decide (turns3 < 0))) || (decide (5 < turns3)))
    (some 1)
    (cond (decide (600 < ((list4).length : Int)))
      (some 2)
      (bd (α := (Unit ⊕ Int)) (iter (mutex_check_L3 N list4 people2) N 0) <|
      Sum.elim (fun _ => 
        some 0) (fun p => some p)))

theorem mutex_check_ok {N : Nat} {algo1 : Int} {people2 : Int} {turns3 : Int} {list4 : (List Int)} {res : Int} (hF : mutex_check N algo1 people2 turns3 list4 = some res) (w : World) {v8 : Value} (hs7 : SlIn (eI .i64) 1 w v8 list4) :
    Pure Try.prog 82 [.int .i64 algo1, .int .i64 people2, .int .i64 turns3, v8] w (.int .i64 res) := by
  obtain ⟨A5, c6, rfl, hcc6, hs7⟩ := hs7.form
  refine W.enter (n := 58) Try.func82 rfl rfl Sub.refl (by simp) (St.start w) fun R hR => ?_
  unfold mutex_check at hF
  -- region 0: mutex.go:162
  refine W.seqR fun Q1 hQ1 => ?_
  refine WL.q (Y.assign (.pl rfl)) rfl ?_
  refine WL.next hQ1 (.cons (i := 0) rfl (.cons (i := 1) rfl (.cons (i := 2) rfl (.cons (i := 3) rfl (.nil))))) ?_
  refine W.seq fun K2 hK2 => ?_
  -- region 1: mutex.go:163
  refine W.seqR fun Q3 hQ3 => ?_
  refine WL.q (Y.move (.pl rfl)) rfl ?_
  refine WL.q (Y.lss (.pl rfl) (.pl rfl)) rfl ?_
  refine WL.q (Y.move (.pl rfl)) rfl ?_
  refine WL.g (.pl rfl rfl rfl) (fun hg => Y.move (.pl rfl)) rfl ?_
  refine WL.g (.pl rfl rfl rfl) (fun hg => Y.gtr (.gd (hg) rfl) (.pl rfl)) rfl ?_
  refine WL.q (Y.or (.pl rfl) (fun h2 => .gd (eqf h2) rfl)) rfl ?_
  refine WL.q (Y.move (.pl rfl)) rfl ?_
  refine WL.g (.pl rfl rfl rfl) (fun hg => Y.move (.pl rfl)) rfl ?_
  refine WL.g (.pl rfl rfl rfl) (fun hg => Y.lss (.gd (hg) rfl) (.pl rfl)) rfl ?_
  refine WL.q (Y.or (.pl rfl) (fun h2 => .gd (eqf h2) rfl)) rfl ?_
  refine WL.q (Y.move (.pl rfl)) rfl ?_
  refine WL.g (.pl rfl rfl rfl) (fun hg => Y.move (.pl rfl)) rfl ?_
  refine WL.g (.pl rfl rfl rfl) (fun hg => Y.gtr (.gd (hg) rfl) (.pl rfl)) rfl ?_
  refine WL.q (Y.or (.pl rfl) (fun h2 => .gd (eqf h2) rfl)) rfl ?_
  refine WL.q (Y.move (.pl rfl)) rfl ?_
  refine WL.g (.pl rfl rfl rfl) (fun hg => Y.move (.pl rfl)) rfl ?_
  refine WL.g (.pl rfl rfl rfl) (fun hg => Y.eql (.gd (hg) rfl) (.pl rfl)) rfl ?_
  refine WL.g (.pl rfl rfl rfl) (fun hg => Y.move (.gd (hg) rfl)) rfl ?_
  refine WL.g (.gd rfl rfl rfl) (fun hg => Y.move (.pl rfl)) rfl ?_
  refine WL.g (.gd rfl rfl rfl) (fun hg => Y.neq (.gd (hg) rfl) (.pl rfl)) rfl ?_
  refine WL.g (.pl rfl rfl rfl) (fun hg => Y.and (.gd (hg) rfl) (fun h2 => .gd (band hg (eqt h2)) rfl)) rfl ?_
  refine WL.q (Y.or (.pl rfl) (fun h2 => .gd (eqf h2) rfl)) rfl ?_
  refine WL.q (Y.move (.pl rfl)) rfl ?_
  refine WL.g (.pl rfl rfl rfl) (fun hg => Y.move (.pl rfl)) rfl ?_
  refine WL.g (.pl rfl rfl rfl) (fun hg => Y.lss (.gd (hg) rfl) (.pl rfl)) rfl ?_
  refine WL.q (Y.or (.pl rfl) (fun h2 => .gd (eqf h2) rfl)) rfl ?_
  refine WL.q (Y.move (.pl rfl)) rfl ?_
  refine WL.g (.pl rfl rfl rfl) (fun hg => Y.move (.pl rfl)) rfl ?_
  refine WL.g (.pl rfl rfl rfl) (fun hg => Y.gtr (.gd (hg) rfl) (.pl rfl)) rfl ?_
  refine WL.q (Y.or (.pl rfl) (fun h2 => .gd (eqf h2) rfl)) rfl ?_
  refine WL.next hQ3 (.cons (i := 1) rfl (.cons (i := 3) rfl (.cons (i := 40) rfl (.nil)))) ?_
  refine W.cond (.pl rfl) (fun hC4 => ?_) (fun hC4 => ?_)
  · replace hF := cpos hC4 hF
    -- region 2: mutex.go:164
    refine W.seqR fun Q5 hQ5 => ?_
    refine WL.q (Y.assign (.pl rfl)) rfl ?_
    refine WL.next hQ5 (.cons (i := 8) rfl (.nil)) ?_
    obtain rfl := Option.some.inj hF
    refine W.retV (fn := Try.f82) (vs := [.int .i64 1]) Try.results82 ⟨.tmp rfl, trivial⟩ (fun _ _ h => h) (fun w hw => ?_)
    exact hR _ _ ⟨rfl, (hw.pick [] rfl)⟩
  · replace hF := cneg hC4 hF
    refine W.skip ?_
    refine W.go hK2 (.cons (i := 1) rfl (.cons (i := 3) rfl (.nil))) ?_
    refine W.seq fun K6 hK6 => ?_
    -- region 3: mutex.go:166
    refine W.seqR fun Q7 hQ7 => ?_
    refine WL.q (Y.move (.pl rfl)) rfl ?_
    refine WL.q (Y.len Try.underlying23 (.pl rfl)) rfl ?_
    refine WL.q (Y.gtr (.pl rfl) (.pl rfl)) rfl ?_
    refine WL.next hQ7 (.cons (i := 1) rfl (.cons (i := 3) rfl (.cons (i := 43) rfl (.nil)))) ?_
    refine W.cond (.pl rfl) (fun hC8 => ?_) (fun hC8 => ?_)
    · replace hF := cpos hC8 hF
      -- region 4: mutex.go:167
      refine W.seqR fun Q9 hQ9 => ?_
      refine WL.q (Y.assign (.pl rfl)) rfl ?_
      refine WL.next hQ9 (.cons (i := 8) rfl (.nil)) ?_
      obtain rfl := Option.some.inj hF
      refine W.retV (fn := Try.f82) (vs := [.int .i64 2]) Try.results82 ⟨.tmp rfl, trivial⟩ (fun _ _ h => h) (fun w hw => ?_)
      exact hR _ _ ⟨rfl, (hw.pick [] rfl)⟩
    · replace hF := cneg hC8 hF
      refine W.skip ?_
      refine W.go hK6 (.cons (i := 1) rfl (.cons (i := 3) rfl (.nil))) ?_
      obtain ⟨o10, hF10, hF⟩ := bnd hF
      refine W.join0 (Em := []) (M := []) (I := (.inl ()) = o10) (.nil) (fun K11 hK11 => ?_) ?_
      · -- up to
        -- region 5: mutex.go:169
        refine W.seqR fun Q12 hQ12 => ?_
        refine WL.q (Y.move (.pl rfl)) rfl ?_
        refine WL.q (Y.len Try.underlying23 (.pl rfl)) rfl ?_
        refine WL.q (Y.move (.pl rfl)) rfl ?_
        refine WL.next hQ12 (.cons (i := 1) rfl (.cons (i := 44) rfl (.cons (i := 45) rfl (.cons (i := 46) rfl (.nil))))) ?_
        refine W.block ?_
        refine W.loop1 (Em := fun (v9 : Int) => [(46, .int .i64 v9)]) (M := fun v9 => []) (I := fun v9 k13 => iter (mutex_check_L3 N list4 people2) k13 v9 = some o10) 0 N (hF10) (.cons rfl (.nil)) (.cons (i := 1) rfl (.cons (i := 44) rfl (.cons (i := 45) rfl (.nil)))) (fun w hw => hw.pick [] rfl) (fun v9 k13 hI K14 hK14 => ?_)
        obtain ⟨k13, t13, rfl, hF13, hN13⟩ := iter_step hI
        -- region 6: mutex.go:169
        refine W.seqR fun Q15 hQ15 => ?_
        refine WL.q (Y.lss (.pl rfl) (.pl rfl)) rfl ?_
        refine WL.next hQ15 (.cons (i := 1) rfl (.cons (i := 44) rfl (.cons (i := 45) rfl (.cons (i := 46) rfl (.cons (i := 47) rfl (.nil)))))) ?_
        refine W.seq fun K16 hK16 => ?_
        refine W.cond (.pl rfl) (fun hC17 => ?_) (fun hC17 => ?_)
        · replace hF13 := cpos hC17 hF13
          refine W.skip ?_
          refine W.go hK16 (.cons (i := 1) rfl (.cons (i := 44) rfl (.cons (i := 45) rfl (.cons (i := 46) rfl (.nil))))) ?_
          refine W.seq fun K18 hK18 => ?_
          refine W.block ?_
          -- region 7: mutex.go:169
          refine W.seqR fun Q19 hQ19 => ?_
          obtain ⟨x10, hx10, hF13⟩ := bnd hF13
          refine WL.q (Y.slEl Try.underlying23 cells3 hs7 (.pl rfl) (.pl rfl) (ix_lt (hx10))) rfl ?_
          refine WL.q (Y.loadS (enc := (eI .i64)) (v := .int .i64 x10) (j := 0) Try.underlying3 rfl hs7 (.pl rfl) (hx10) rfl rfl) rfl ?_
          refine WL.q (Y.assign (.pl rfl)) rfl ?_
          refine WL.next hQ19 (.cons (i := 1) rfl (.cons (i := 10) rfl (.cons (i := 44) rfl (.cons (i := 45) rfl (.cons (i := 46) rfl (.nil)))))) ?_
          -- region 8: mutex.go:170
          refine W.seqR fun Q20 hQ20 => ?_
          refine WL.q (Y.move (.pl rfl)) rfl ?_
          refine WL.q (Y.lss (.pl rfl) (.pl rfl)) rfl ?_
          refine WL.q (Y.move (.pl rfl)) rfl ?_
          refine WL.g (.pl rfl rfl rfl) (fun hg => Y.move (.pl rfl)) rfl ?_
          refine WL.g (.pl rfl rfl rfl) (fun hg => Y.move (.pl rfl)) rfl ?_
          refine WL.g (.pl rfl rfl rfl) (fun hg => Y.geq (.gd (hg) rfl) (.gd (hg) rfl)) rfl ?_
          refine WL.q (Y.or (.pl rfl) (fun h2 => .gd (eqf h2) rfl)) rfl ?_
          refine WL.next hQ20 (.cons (i := 1) rfl (.cons (i := 44) rfl (.cons (i := 45) rfl (.cons (i := 46) rfl (.cons (i := 56) rfl (.nil)))))) ?_
          refine W.cond (.pl rfl) (fun hC21 => ?_) (fun hC21 => ?_)
          · replace hF13 := cpos hC21 hF13
            -- region 9: mutex.go:171
            refine W.seqR fun Q22 hQ22 => ?_
            refine WL.q (Y.assign (.pl rfl)) rfl ?_
            refine WL.next hQ22 (.cons (i := 8) rfl (.nil)) ?_
            obtain rfl := Option.some.inj hF13
            obtain rfl := einr hN13
            obtain rfl := Option.some.inj hF
            refine W.retV (fn := Try.f82) (vs := [.int .i64 1]) Try.results82 ⟨.tmp rfl, trivial⟩ (fun _ _ h => h) (fun w hw => ?_)
            exact hR _ _ ⟨rfl, (hw.pick [] rfl)⟩
          · replace hF13 := cneg hC21 hF13
            refine W.skip ?_
            refine W.go hK18 (.cons (i := 1) rfl (.cons (i := 44) rfl (.cons (i := 45) rfl (.cons (i := 46) rfl (.nil))))) ?_
            -- region 10: mutex.go:169
            refine W.reg ?_
            obtain ⟨hk11, hF13⟩ := ckh hF13
            refine WL.q (Y.add (.pl rfl) (.pl rfl) (ok64_lt (hk11))) rfl ?_
            refine WL.q (Y.move (.pl rfl)) rfl ?_
            refine WL.nil ?_
            obtain rfl := Option.some.inj hF13
            exact W.again1 hK14 (v9 + 1) k13 hN13 (Nat.lt_succ_self _) (.cons rfl (.nil)) (.cons (i := 1) rfl (.cons (i := 44) rfl (.cons (i := 45) rfl (.nil)))) (fun w hw => hw.pick [] rfl)
        · replace hF13 := cneg hC17 hF13
          refine W.exit ?_
          obtain rfl := Option.some.inj hF13
          exact W.joinAt0 hK11  (einr hN13) (.nil) (.nil) (fun w hw => hw.pick [] rfl)
      · -- behind
        rintro  rfl
        -- region 11: mutex.go:174
        refine W.seqR fun Q24 hQ24 => ?_
        refine WL.q (Y.assign (.pl rfl)) rfl ?_
        refine WL.next hQ24 (.cons (i := 8) rfl (.nil)) ?_
        obtain rfl := Option.some.inj hF
        refine W.retV (fn := Try.f82) (vs := [.int .i64 0]) Try.results82 ⟨.tmp rfl, trivial⟩ (fun _ _ h => h) (fun w hw => ?_)
        exact hR _ _ ⟨rfl, (hw.pick [] rfl)⟩

def mutex_machine_enter (N : Nat) (people4 : (List MutexProcess)) (turn5 : Int) (in6 : Int) (most7 : Int) (gates10 : (List Gate)) (who11 : Int) : Option Unit :=
  ck (limB 16 ((gates10).length + (([(Gate.mk who11 true)] : List Gate)).length)) <|
  ck (ok64 (in6 + 1)) <|
  some ()

theorem mutex_machine_enter_ok {N : Nat} {people4 : (List MutexProcess)} {turn5 : Int} {in6 : Int} {most7 : Int} {gates10 : (List Gate)} {who11 : Int} {b1 : Nat} {A2 : Option Addr} {c3 : Nat} {A8 : Option Addr} {c9 : Nat} {res : Unit} (hF : mutex_machine_enter N people4 turn5 in6 most7 gates10 who11 = some res) {w0 w : World} {T : List Chunk} (hw : St w0.heap.size w0 ([cBx b1 165 (.slice A2 (people4).length c3 :: (.int .i64 turn5 :: (.int .i64 in6 :: (.int .i64 most7 :: (.slice A8 (gates10).length c9 :: []))))), cR encMutexProcess 5 A2 c3 167 people4, cR encGate 2 A8 c9 172 gates10] ++ T) w) :
    Calls Try.prog 111 (List.toArray [.pointer (some ⟨b1, 0, none⟩), .int .i64 who11]) w (fun e w' => ∃ g : (Option Addr × Nat), True ∧ e = .returned (.tuple #[]) ∧ St w0.heap.size w0 ([cBx b1 165 (.slice A2 (people4).length c3 :: (.int .i64 turn5 :: (.int .i64 (in6 + 1) :: (.int .i64 (max most7 (in6 + 1)) :: (.slice g.1 ((gates10 ++ ([(Gate.mk who11 true)] : List Gate))).length g.2 :: []))))), cR encMutexProcess 5 A2 c3 167 people4, cR encGate 2 g.1 g.2 172 (gates10 ++ ([(Gate.mk who11 true)] : List Gate))] ++ T) w') := by
  refine W.enter (n := 34) Try.func111 rfl rfl Sub.refl (by simp) hw fun R hR => ?_
  unfold mutex_machine_enter at hF
  -- region 0: mutex.go:31
  refine W.seqR fun Q1 hQ1 => ?_
  refine WL.q (Y.move (.pl rfl)) rfl ?_
  refine WL.q (Y.move (.pl rfl)) rfl ?_
  refine WL.q (Y.nilCheck (.pl rfl)) rfl ?_
  refine WL.q (Y.fieldAddr0 (off := 4) (ft := 84) Try.underlying165 rfl cells84 (.pl rfl)) rfl ?_
  refine WL.q (Y.loadB (v := .slice A8 (gates10).length c9) Try.underlying84 rfl (.pl rfl) (i := 0) rfl (rfl)) rfl ?_
  refine WL.q (Y.move (.pl rfl)) rfl ?_
  refine WL.q (Y.build (cs := (encGate (Gate.mk who11 true)).toArray) shape172 (.cons (.pl rfl) (.cons (.pl rfl) (.nil))) (one_parts ⟨rfl, ⟨rfl, trivial⟩⟩) rfl) rfl ?_
  refine WL.step (WO.bsliceC (enc := encGate) (ys := ([(Gate.mk who11 true)] : List Gate)) Try.underlying84 bz172 (.cons (.pl rfl) (.nil)) rfl lenGate rfl rfl (by decide) (by decide) rfl fun b12 => ?_)
  obtain ⟨hk15, hF⟩ := ckh hF
  refine WL.step (WO.appendC (enc := encGate) Try.underlying84 ap172 lenGate oneGate (.pl rfl) rfl (.pl rfl) (i := 3) rfl (m2 := 0) rfl (hk15) rfl fun A13 c14 => ?_)
  refine WL.q (Y.nilCheck (.pl rfl)) rfl ?_
  refine WL.q (Y.fieldAddr0 (off := 4) (ft := 84) Try.underlying165 rfl cells84 (.pl rfl)) rfl ?_
  refine WL.step (WO.storeB (cs' := (.slice A2 (people4).length c3 :: (.int .i64 turn5 :: (.int .i64 in6 :: (.int .i64 most7 :: (.slice A13 ((gates10 ++ ([(Gate.mk who11 true)] : List Gate))).length c14 :: [])))))) cells84 (.pl rfl) (.pl rfl) rfl (i := 1) rfl (ltl (m := 5) (by decide) rfl) (rfl) ?_)
  refine WL.next hQ1 (.cons (i := 0) rfl (.nil)) ?_
  -- region 1: mutex.go:32
  refine W.seqR fun Q2 hQ2 => ?_
  refine WL.q (Y.move (.pl rfl)) rfl ?_
  refine WL.q (Y.nilCheck (.pl rfl)) rfl ?_
  refine WL.q (Y.fieldAddr0 (off := 2) (ft := 3) Try.underlying165 rfl cells3 (.pl rfl)) rfl ?_
  refine WL.q (Y.loadB (v := .int .i64 in6) Try.underlying3 rfl (.pl rfl) (i := 1) rfl (rfl)) rfl ?_
  obtain ⟨hk16, hF⟩ := ckh hF
  refine WL.q (Y.add (.pl rfl) (.pl rfl) (ok64_lt (hk16))) rfl ?_
  refine WL.q (Y.nilCheck (.pl rfl)) rfl ?_
  refine WL.q (Y.fieldAddr0 (off := 2) (ft := 3) Try.underlying165 rfl cells3 (.pl rfl)) rfl ?_
  refine WL.step (WO.storeB (cs' := (.slice A2 (people4).length c3 :: (.int .i64 turn5 :: (.int .i64 (in6 + 1) :: (.int .i64 most7 :: (.slice A13 ((gates10 ++ ([(Gate.mk who11 true)] : List Gate))).length c14 :: [])))))) cells3 (.pl rfl) (.pl rfl) rfl (i := 1) rfl (ltl (m := 5) (by decide) rfl) (rfl) ?_)
  refine WL.next hQ2 (.cons (i := 0) rfl (.nil)) ?_
  -- region 2: mutex.go:33
  refine W.regT 12 (by kernel_rfl) (by kernel_rfl) ?_
  refine WS.q (Y.move (.pl rfl)) rfl ?_
  refine WS.q (Y.move (.pl rfl)) rfl ?_
  refine WS.q (Y.nilCheck (.pl rfl)) rfl ?_
  refine WS.q (Y.fieldAddr0 (off := 3) (ft := 3) Try.underlying165 rfl cells3 (.pl rfl)) rfl ?_
  refine WS.q (Y.loadB (v := .int .i64 most7) Try.underlying3 rfl (.pl rfl) (i := 1) rfl (rfl)) rfl ?_
  refine WS.q (Y.move (.pl rfl)) rfl ?_
  refine WS.q (Y.nilCheck (.pl rfl)) rfl ?_
  refine WS.q (Y.fieldAddr0 (off := 2) (ft := 3) Try.underlying165 rfl cells3 (.pl rfl)) rfl ?_
  refine WS.q (Y.loadB (v := .int .i64 (in6 + 1)) Try.underlying3 rfl (.pl rfl) (i := 1) rfl (rfl)) rfl ?_
  refine WS.q (Y.max (.pl rfl) (.pl rfl)) rfl ?_
  refine WS.q (Y.nilCheck (.pl rfl)) rfl ?_
  refine WS.q (Y.fieldAddr0 (off := 3) (ft := 3) Try.underlying165 rfl cells3 (.pl rfl)) rfl ?_
  refine WS.tail ?_
  refine WL.step (WO.storeB (cs' := (.slice A2 (people4).length c3 :: (.int .i64 turn5 :: (.int .i64 (in6 + 1) :: (.int .i64 (max most7 (in6 + 1)) :: (.slice A13 ((gates10 ++ ([(Gate.mk who11 true)] : List Gate))).length c14 :: [])))))) cells3 (.pl rfl) (.pl rfl) rfl (i := 1) rfl (ltl (m := 5) (by decide) rfl) (rfl) ?_)
  refine WL.nil ?_
  obtain rfl := Option.some.inj hF
  refine W.endV (fn := Try.f111) (vs := []) Try.results111 trivial (fun _ _ h => h) (fun w hw => ?_)
  exact hR _ _ ⟨(A13, c14), trivial, rfl, (hw.pickK 4 [1, 2, 3] rfl)⟩

def mutex_machine_exit (N : Nat) (people4 : (List MutexProcess)) (turn5 : Int) (in6 : Int) (most7 : Int) (gates10 : (List Gate)) (who11 : Int) : Option Unit :=
  ck (limB 16 ((gates10).length + (([(Gate.mk who11 false)] : List Gate)).length)) <|
  ck (ok64 (in6 - 1)) <|
  some ()

theorem mutex_machine_exit_ok {N : Nat} {people4 : (List MutexProcess)} {turn5 : Int} {in6 : Int} {most7 : Int} {gates10 : (List Gate)} {who11 : Int} {b1 : Nat} {A2 : Option Addr} {c3 : Nat} {A8 : Option Addr} {c9 : Nat} {res : Unit} (hF : mutex_machine_exit N people4 turn5 in6 most7 gates10 who11 = some res) {w0 w : World} {T : List Chunk} (hw : St w0.heap.size w0 ([cBx b1 165 (.slice A2 (people4).length c3 :: (.int .i64 turn5 :: (.int .i64 in6 :: (.int .i64 most7 :: (.slice A8 (gates10).length c9 :: []))))), cR encMutexProcess 5 A2 c3 167 people4, cR encGate 2 A8 c9 172 gates10] ++ T) w) :
    Calls Try.prog 112 (List.toArray [.pointer (some ⟨b1, 0, none⟩), .int .i64 who11]) w (fun e w' => ∃ g : (Option Addr × Nat), True ∧ e = .returned (.tuple #[]) ∧ St w0.heap.size w0 ([cBx b1 165 (.slice A2 (people4).length c3 :: (.int .i64 turn5 :: (.int .i64 (in6 - 1) :: (.int .i64 most7 :: (.slice g.1 ((gates10 ++ ([(Gate.mk who11 false)] : List Gate))).length g.2 :: []))))), cR encMutexProcess 5 A2 c3 167 people4, cR encGate 2 g.1 g.2 172 (gates10 ++ ([(Gate.mk who11 false)] : List Gate))] ++ T) w') := by
  refine W.enter (n := 22) Try.func112 rfl rfl Sub.refl (by simp) hw fun R hR => ?_
  unfold mutex_machine_exit at hF
  -- region 0: mutex.go:37
  refine W.seqR fun Q1 hQ1 => ?_
  refine WL.q (Y.move (.pl rfl)) rfl ?_
  refine WL.q (Y.move (.pl rfl)) rfl ?_
  refine WL.q (Y.nilCheck (.pl rfl)) rfl ?_
  refine WL.q (Y.fieldAddr0 (off := 4) (ft := 84) Try.underlying165 rfl cells84 (.pl rfl)) rfl ?_
  refine WL.q (Y.loadB (v := .slice A8 (gates10).length c9) Try.underlying84 rfl (.pl rfl) (i := 0) rfl (rfl)) rfl ?_
  refine WL.q (Y.move (.pl rfl)) rfl ?_
  refine WL.q (Y.build (cs := (encGate (Gate.mk who11 false)).toArray) shape172 (.cons (.pl rfl) (.nil)) (one_parts ⟨rfl, trivial⟩) rfl) rfl ?_
  refine WL.step (WO.bsliceC (enc := encGate) (ys := ([(Gate.mk who11 false)] : List Gate)) Try.underlying84 bz172 (.cons (.pl rfl) (.nil)) rfl lenGate rfl rfl (by decide) (by decide) rfl fun b12 => ?_)
  obtain ⟨hk15, hF⟩ := ckh hF
  refine WL.step (WO.appendC (enc := encGate) Try.underlying84 ap172 lenGate oneGate (.pl rfl) rfl (.pl rfl) (i := 3) rfl (m2 := 0) rfl (hk15) rfl fun A13 c14 => ?_)
  refine WL.q (Y.nilCheck (.pl rfl)) rfl ?_
  refine WL.q (Y.fieldAddr0 (off := 4) (ft := 84) Try.underlying165 rfl cells84 (.pl rfl)) rfl ?_
  refine WL.step (WO.storeB (cs' := (.slice A2 (people4).length c3 :: (.int .i64 turn5 :: (.int .i64 in6 :: (.int .i64 most7 :: (.slice A13 ((gates10 ++ ([(Gate.mk who11 false)] : List Gate))).length c14 :: [])))))) cells84 (.pl rfl) (.pl rfl) rfl (i := 1) rfl (ltl (m := 5) (by decide) rfl) (rfl) ?_)
  refine WL.next hQ1 (.cons (i := 0) rfl (.nil)) ?_
  -- region 1: mutex.go:38
  refine W.reg ?_
  refine WL.q (Y.move (.pl rfl)) rfl ?_
  refine WL.q (Y.nilCheck (.pl rfl)) rfl ?_
  refine WL.q (Y.fieldAddr0 (off := 2) (ft := 3) Try.underlying165 rfl cells3 (.pl rfl)) rfl ?_
  refine WL.q (Y.loadB (v := .int .i64 in6) Try.underlying3 rfl (.pl rfl) (i := 1) rfl (rfl)) rfl ?_
  obtain ⟨hk16, hF⟩ := ckh hF
  refine WL.q (Y.sub (.pl rfl) (.pl rfl) (ok64_lt (hk16))) rfl ?_
  refine WL.q (Y.nilCheck (.pl rfl)) rfl ?_
  refine WL.q (Y.fieldAddr0 (off := 2) (ft := 3) Try.underlying165 rfl cells3 (.pl rfl)) rfl ?_
  refine WL.step (WO.storeB (cs' := (.slice A2 (people4).length c3 :: (.int .i64 turn5 :: (.int .i64 (in6 - 1) :: (.int .i64 most7 :: (.slice A13 ((gates10 ++ ([(Gate.mk who11 false)] : List Gate))).length c14 :: [])))))) cells3 (.pl rfl) (.pl rfl) rfl (i := 1) rfl (ltl (m := 5) (by decide) rfl) (rfl) ?_)
  refine WL.nil ?_
  obtain rfl := Option.some.inj hF
  refine W.endV (fn := Try.f112) (vs := []) Try.results112 trivial (fun _ _ h => h) (fun w hw => ?_)
  exact hR _ _ ⟨(A13, c14), trivial, rfl, (hw.pickK 4 [1, 2, 3] rfl)⟩

def mutex_machine_end (N : Nat) (people4 : (List MutexProcess)) (turn5 : Int) (in6 : Int) (most7 : Int) (gates10 : (List Gate)) (ip11 : Int) : Option (List MutexProcess) :=
  bd (ix people4 ip11) fun (x12 : MutexProcess) =>
  ck (ok64 (x12.left - 1)) <|
  some (people4.set ip11.toNat (MutexProcess.mk 0 (x12.left - 1) x12.flag x12.number x12.k))

theorem mutex_machine_end_ok {N : Nat} {people4 : (List MutexProcess)} {turn5 : Int} {in6 : Int} {most7 : Int} {gates10 : (List Gate)} {ip11 : Int} {b1 : Nat} {A2 : Option Addr} {c3 : Nat} {A8 : Option Addr} {c9 : Nat} {res : (List MutexProcess)} (hF : mutex_machine_end N people4 turn5 in6 most7 gates10 ip11 = some res) {w0 w : World} {T : List Chunk} (hw : St w0.heap.size w0 ([cBx b1 165 (.slice A2 (people4).length c3 :: (.int .i64 turn5 :: (.int .i64 in6 :: (.int .i64 most7 :: (.slice A8 (gates10).length c9 :: []))))), cR encMutexProcess 5 A2 c3 167 people4, cR encGate 2 A8 c9 172 gates10] ++ T) w) :
    Calls Try.prog 113 (List.toArray [.pointer (some ⟨b1, 0, none⟩), .pointer (some (elA A2 (ip11.toNat * (4 + 1))))]) w (fun e w' => ∃ g : Unit, True ∧ e = .returned (.tuple #[]) ∧ St w0.heap.size w0 ([cBx b1 165 (.slice A2 (res).length c3 :: (.int .i64 turn5 :: (.int .i64 in6 :: (.int .i64 most7 :: (.slice A8 (gates10).length c9 :: []))))), cR encMutexProcess 5 A2 c3 167 res, cR encGate 2 A8 c9 172 gates10] ++ T) w') := by
  refine W.enter (n := 14) Try.func113 rfl rfl Sub.refl (by simp) hw fun R hR => ?_
  unfold mutex_machine_end at hF
  obtain ⟨x12, hx12, hF⟩ := bnd hF
  -- region 0: mutex.go:43
  refine W.seqR fun Q1 hQ1 => ?_
  refine WL.q (Y.move (.pl rfl)) rfl ?_
  refine WL.q (Y.nilCheck (.pl rfl)) rfl ?_
  refine WL.q (Y.rowField (off := 0) (ft := 3) Try.underlying167 rfl cells3 (i' := 1) rfl (ix_lt (hx12)) (.pl rfl)) rfl ?_
  refine WL.step (WO.storeS (enc := encMutexProcess) (a := x12) (a' := (MutexProcess.mk 0 x12.left x12.flag x12.number x12.k)) (idx := ip11) (j := 0) cells3 (.pl rfl) (.pl rfl) rfl lenMutexProcess (i := 1) rfl (ix_get (hx12)) rfl (by decide) rfl ?_)
  refine WL.next hQ1 (.cons (i := 1) rfl (.nil)) ?_
  -- region 1: mutex.go:44
  refine W.reg ?_
  refine WL.q (Y.move (.pl rfl)) rfl ?_
  refine WL.q (Y.nilCheck (.pl rfl)) rfl ?_
  refine WL.q (Y.rowField (off := 1) (ft := 3) Try.underlying167 rfl cells3 (i' := 1) rfl (⟨(ix_lt (hx12)).1, by simpa only [List.length_set] using (ix_lt (hx12)).2⟩) (.pl rfl)) rfl ?_
  refine WL.q (Y.loadR (enc := encMutexProcess) (v := .int .i64 x12.left) (a := (MutexProcess.mk 0 x12.left x12.flag x12.number x12.k)) (idx := ip11) (j := 1) Try.underlying3 rfl lenMutexProcess (i := 1) rfl (.pl rfl) (setget (ix_lt (hx12))) rfl rfl) rfl ?_
  obtain ⟨hk13, hF⟩ := ckh hF
  refine WL.q (Y.sub (.pl rfl) (.pl rfl) (ok64_lt (hk13))) rfl ?_
  refine WL.q (Y.nilCheck (.pl rfl)) rfl ?_
  refine WL.q (Y.rowField (off := 1) (ft := 3) Try.underlying167 rfl cells3 (i' := 1) rfl (⟨(ix_lt (hx12)).1, by simpa only [List.length_set] using (ix_lt (hx12)).2⟩) (.pl rfl)) rfl ?_
  refine WL.step (WO.storeFS (enc := encMutexProcess) (a := (MutexProcess.mk 0 x12.left x12.flag x12.number x12.k)) (a' := (MutexProcess.mk 0 (x12.left - 1) x12.flag x12.number x12.k)) (idx := ip11) (j := 1) cells3 (.pl rfl) (.pl rfl) rfl lenMutexProcess (i := 1) rfl (ix_lt (hx12)) rfl (by decide) rfl ?_)
  refine WL.nil ?_
  obtain rfl := Option.some.inj hF
  refine W.endV (fn := Try.f113) (vs := []) Try.results113 trivial (fun _ _ h => h) (fun w hw => ?_)
  exact hR _ _ ⟨(), trivial, rfl, (St.cong (L := ([cBx b1 165 (.slice A2 (people4).length c3 :: (.int .i64 turn5 :: (.int .i64 in6 :: (.int .i64 most7 :: (.slice A8 (gates10).length c9 :: []))))), cR encMutexProcess 5 A2 c3 167 (people4.set ip11.toNat (MutexProcess.mk 0 (x12.left - 1) x12.flag x12.number x12.k)), cR encGate 2 A8 c9 172 gates10] ++ T)) (hw.pickK 3 [0, 1, 2] rfl) (by simp only [List.length_set, List.nil_append, List.cons_append]))⟩

def mutex_machine_peterson (N : Nat) (people4 : (List MutexProcess)) (turn5 : Int) (in6 : Int) (most7 : Int) (gates10 : (List Gate)) (who11 : Int) (ip12 : Int) : Option ((List MutexProcess) × Int × Int × Int × (List Gate)) :=
  bd (ix people4 ip12) fun (x13 : MutexProcess) =>
  ck (ok64 (1 - who11)) <|
  cond (decide (x13.step = 0))
    (ck (ok64 (x13.step + 1)) <|
    some ((people4.set ip12.toNat (MutexProcess.mk (x13.step + 1) x13.left true x13.number x13.k)), turn5, in6, most7, gates10))
    (cond (decide (x13.step = 1))
      (ck (ok64 (x13.step + 1)) <|
      some ((people4.set ip12.toNat (MutexProcess.mk (x13.step + 1) x13.left x13.flag x13.number x13.k)), (1 - who11), in6, most7, gates10))
      (cond (decide (x13.step = 2))
        (bd (ix people4 (1 - who11)) fun (x17 : MutexProcess) =>
        cond (x17.flag && (!(decide (turn5 = who11))))
          (some (people4, turn5, in6, most7, gates10))
          (bd (mutex_machine_enter N people4 turn5 in6 most7 gates10 who11) fun (r18 : Unit) =>
          ck (ok64 (x13.step + 1)) <|
          some ((people4.set ip12.toNat (MutexProcess.mk (x13.step + 1) x13.left x13.flag x13.number x13.k)), turn5, (in6 + 1), (max most7 (in6 + 1)), (gates10 ++ ([(Gate.mk who11 true)] : List Gate)))))
        (cond (decide (x13.step = 3))
          (bd (mutex_machine_exit N people4 turn5 in6 most7 gates10 who11) fun (r22 : Unit) =>
          ck (ok64 (x13.step + 1)) <|
          some ((people4.set ip12.toNat (MutexProcess.mk (x13.step + 1) x13.left x13.flag x13.number x13.k)), turn5, (in6 - 1), most7, (gates10 ++ ([(Gate.mk who11 false)] : List Gate))))
          (bd (mutex_machine_end N (people4.set ip12.toNat (MutexProcess.mk x13.step x13.left false x13.number x13.k)) turn5 in6 most7 gates10 ip12) fun (r26 : (List MutexProcess)) =>
          some (r26, turn5, in6, most7, gates10)))))

theorem mutex_machine_peterson_ok {N : Nat} {people4 : (List MutexProcess)} {turn5 : Int} {in6 : Int} {most7 : Int} {gates10 : (List Gate)} {who11 : Int} {ip12 : Int} {b1 : Nat} {A2 : Option Addr} {c3 : Nat} {A8 : Option Addr} {c9 : Nat} {res : ((List MutexProcess) × Int × Int × Int × (List Gate))} (hF : mutex_machine_peterson N people4 turn5 in6 most7 gates10 who11 ip12 = some res) {w0 w : World} {T : List Chunk} (hw : St w0.heap.size w0 ([cBx b1 165 (.slice A2 (people4).length c3 :: (.int .i64 turn5 :: (.int .i64 in6 :: (.int .i64 most7 :: (.slice A8 (gates10).length c9 :: []))))), cR encMutexProcess 5 A2 c3 167 people4, cR encGate 2 A8 c9 172 gates10] ++ T) w) :
    Calls Try.prog 83 (List.toArray [.pointer (some ⟨b1, 0, none⟩), .int .i64 who11, .pointer (some (elA A2 (ip12.toNat * (4 + 1))))]) w (fun e w' => ∃ g : (Option Addr × Nat), True ∧ e = .returned (.tuple #[]) ∧ St w0.heap.size w0 ([cBx b1 165 (.slice A2 (res.1).length c3 :: (.int .i64 res.2.1 :: (.int .i64 res.2.2.1 :: (.int .i64 res.2.2.2.1 :: (.slice g.1 (res.2.2.2.2).length g.2 :: []))))), cR encMutexProcess 5 A2 c3 167 res.1, cR encGate 2 g.1 g.2 172 res.2.2.2.2] ++ T) w') := by
  refine W.enter (n := 63) Try.func83 rfl rfl Sub.refl (by simp) hw fun R hR => ?_
  unfold mutex_machine_peterson at hF
  obtain ⟨x13, hx13, hF⟩ := bnd hF
  -- region 0: mutex.go:48
  refine W.seqR fun Q1 hQ1 => ?_
  refine WL.q (Y.move (.pl rfl)) rfl ?_
  obtain ⟨hk14, hF⟩ := ckh hF
  refine WL.q (Y.sub (.pl rfl) (.pl rfl) (ok64_lt (hk14))) rfl ?_
  refine WL.q (Y.assign (.pl rfl)) rfl ?_
  refine WL.next hQ1 (.cons (i := 0) rfl (.cons (i := 1) rfl (.cons (i := 2) rfl (.cons (i := 6) rfl (.nil))))) ?_
  refine W.seq fun K2 hK2 => ?_
  -- region 1: mutex.go:49
  refine W.seqR fun Q3 hQ3 => ?_
  refine WL.q (Y.move (.pl rfl)) rfl ?_
  refine WL.q (Y.nilCheck (.pl rfl)) rfl ?_
  refine WL.q (Y.rowField (off := 0) (ft := 3) Try.underlying167 rfl cells3 (i' := 1) rfl (ix_lt (hx13)) (.pl rfl)) rfl ?_
  refine WL.q (Y.loadR (enc := encMutexProcess) (v := .int .i64 x13.step) (a := x13) (idx := ip12) (j := 0) Try.underlying3 rfl lenMutexProcess (i := 1) rfl (.pl rfl) (ix_get (hx13)) rfl rfl) rfl ?_
  refine WL.next hQ3 (.cons (i := 0) rfl (.cons (i := 1) rfl (.cons (i := 2) rfl (.cons (i := 6) rfl (.cons (i := 12) rfl (.nil)))))) ?_
  refine W.block ?_
  -- region 4: mutex.go:50
  refine W.seqR fun Q4 hQ4 => ?_
  refine WL.q (Y.eql (.pl rfl) (.pl rfl)) rfl ?_
  refine WL.q (Y.assign (.pl rfl)) rfl ?_
  refine WL.next hQ4 (.cons (i := 0) rfl (.cons (i := 1) rfl (.cons (i := 2) rfl (.cons (i := 6) rfl (.cons (i := 12) rfl (.cons (i := 19) rfl (.nil))))))) ?_
  refine W.cond (.pl rfl) (fun hC5 => ?_) (fun hC5 => ?_)
  · replace hF := cpos hC5 hF
    -- region 5: mutex.go:51
    refine W.reg ?_
    refine WL.q (Y.move (.pl rfl)) rfl ?_
    refine WL.q (Y.nilCheck (.pl rfl)) rfl ?_
    refine WL.q (Y.rowField (off := 2) (ft := 4) Try.underlying167 rfl cells4 (i' := 1) rfl (ix_lt (hx13)) (.pl rfl)) rfl ?_
    refine WL.step (WO.storeS (enc := encMutexProcess) (a := x13) (a' := (MutexProcess.mk x13.step x13.left true x13.number x13.k)) (idx := ip12) (j := 2) cells4 (.pl rfl) (.pl rfl) rfl lenMutexProcess (i := 1) rfl (ix_get (hx13)) rfl (by decide) rfl ?_)
    refine WL.nil ?_
    refine W.go hK2 (.cons (i := 2) rfl (.nil)) ?_
    -- region 13: mutex.go:66
    refine W.reg ?_
    refine WL.q (Y.move (.pl rfl)) rfl ?_
    refine WL.q (Y.nilCheck (.pl rfl)) rfl ?_
    refine WL.q (Y.rowField (off := 0) (ft := 3) Try.underlying167 rfl cells3 (i' := 1) rfl (⟨(ix_lt (hx13)).1, by simpa only [List.length_set] using (ix_lt (hx13)).2⟩) (.pl rfl)) rfl ?_
    refine WL.q (Y.loadR (enc := encMutexProcess) (v := .int .i64 x13.step) (a := (MutexProcess.mk x13.step x13.left true x13.number x13.k)) (idx := ip12) (j := 0) Try.underlying3 rfl lenMutexProcess (i := 1) rfl (.pl rfl) (setget (ix_lt (hx13))) rfl rfl) rfl ?_
    obtain ⟨hk15, hF⟩ := ckh hF
    refine WL.q (Y.add (.pl rfl) (.pl rfl) (ok64_lt (hk15))) rfl ?_
    refine WL.q (Y.nilCheck (.pl rfl)) rfl ?_
    refine WL.q (Y.rowField (off := 0) (ft := 3) Try.underlying167 rfl cells3 (i' := 1) rfl (⟨(ix_lt (hx13)).1, by simpa only [List.length_set] using (ix_lt (hx13)).2⟩) (.pl rfl)) rfl ?_
    refine WL.step (WO.storeFS (enc := encMutexProcess) (a := (MutexProcess.mk x13.step x13.left true x13.number x13.k)) (a' := (MutexProcess.mk (x13.step + 1) x13.left true x13.number x13.k)) (idx := ip12) (j := 0) cells3 (.pl rfl) (.pl rfl) rfl lenMutexProcess (i := 1) rfl (ix_lt (hx13)) rfl (by decide) rfl ?_)
    refine WL.nil ?_
    obtain rfl := Option.some.inj hF
    refine W.endV (fn := Try.f83) (vs := []) Try.results83 trivial (fun _ _ h => h) (fun w hw => ?_)
    exact hR _ _ ⟨(A8, c9), trivial, rfl, (St.cong (L := ([cBx b1 165 (.slice A2 (people4).length c3 :: (.int .i64 turn5 :: (.int .i64 in6 :: (.int .i64 most7 :: (.slice A8 (gates10).length c9 :: []))))), cR encMutexProcess 5 A2 c3 167 (people4.set ip12.toNat (MutexProcess.mk (x13.step + 1) x13.left true x13.number x13.k)), cR encGate 2 A8 c9 172 gates10] ++ T)) (hw.pickK 3 [0, 1, 2] rfl) (by simp only [List.length_set, List.nil_append, List.cons_append]))⟩
  · replace hF := cneg hC5 hF
    -- region 6: mutex.go:52
    refine W.seqR fun Q8 hQ8 => ?_
    refine WL.q (Y.eql (.pl rfl) (.pl rfl)) rfl ?_
    refine WL.q (Y.assign (.pl rfl)) rfl ?_
    refine WL.next hQ8 (.cons (i := 0) rfl (.cons (i := 1) rfl (.cons (i := 2) rfl (.cons (i := 6) rfl (.cons (i := 12) rfl (.cons (i := 24) rfl (.nil))))))) ?_
    refine W.cond (.pl rfl) (fun hC9 => ?_) (fun hC9 => ?_)
    · replace hF := cpos hC9 hF
      -- region 7: mutex.go:53
      refine W.reg ?_
      refine WL.q (Y.move (.pl rfl)) rfl ?_
      refine WL.q (Y.move (.pl rfl)) rfl ?_
      refine WL.q (Y.nilCheck (.pl rfl)) rfl ?_
      refine WL.q (Y.fieldAddr0 (off := 1) (ft := 3) Try.underlying165 rfl cells3 (.pl rfl)) rfl ?_
      refine WL.step (WO.storeB (cs' := (.slice A2 (people4).length c3 :: (.int .i64 (1 - who11) :: (.int .i64 in6 :: (.int .i64 most7 :: (.slice A8 (gates10).length c9 :: [])))))) cells3 (.pl rfl) (.pl rfl) rfl (i := 0) rfl (ltl (m := 5) (by decide) rfl) (rfl) ?_)
      refine WL.nil ?_
      refine W.go hK2 (.cons (i := 2) rfl (.nil)) ?_
      -- region 13: mutex.go:66
      refine W.reg ?_
      refine WL.q (Y.move (.pl rfl)) rfl ?_
      refine WL.q (Y.nilCheck (.pl rfl)) rfl ?_
      refine WL.q (Y.rowField (off := 0) (ft := 3) Try.underlying167 rfl cells3 (i' := 1) rfl (ix_lt (hx13)) (.pl rfl)) rfl ?_
      refine WL.q (Y.loadR (enc := encMutexProcess) (v := .int .i64 x13.step) (a := x13) (idx := ip12) (j := 0) Try.underlying3 rfl lenMutexProcess (i := 1) rfl (.pl rfl) (ix_get (hx13)) rfl rfl) rfl ?_
      obtain ⟨hk16, hF⟩ := ckh hF
      refine WL.q (Y.add (.pl rfl) (.pl rfl) (ok64_lt (hk16))) rfl ?_
      refine WL.q (Y.nilCheck (.pl rfl)) rfl ?_
      refine WL.q (Y.rowField (off := 0) (ft := 3) Try.underlying167 rfl cells3 (i' := 1) rfl (ix_lt (hx13)) (.pl rfl)) rfl ?_
      refine WL.step (WO.storeS (enc := encMutexProcess) (a := x13) (a' := (MutexProcess.mk (x13.step + 1) x13.left x13.flag x13.number x13.k)) (idx := ip12) (j := 0) cells3 (.pl rfl) (.pl rfl) rfl lenMutexProcess (i := 1) rfl (ix_get (hx13)) rfl (by decide) rfl ?_)
      refine WL.nil ?_
      obtain rfl := Option.some.inj hF
      refine W.endV (fn := Try.f83) (vs := []) Try.results83 trivial (fun _ _ h => h) (fun w hw => ?_)
      exact hR _ _ ⟨(A8, c9), trivial, rfl, (St.cong (L := ([cBx b1 165 (.slice A2 (people4).length c3 :: (.int .i64 (1 - who11) :: (.int .i64 in6 :: (.int .i64 most7 :: (.slice A8 (gates10).length c9 :: []))))), cR encMutexProcess 5 A2 c3 167 (people4.set ip12.toNat (MutexProcess.mk (x13.step + 1) x13.left x13.flag x13.number x13.k)), cR encGate 2 A8 c9 172 gates10] ++ T)) (hw.pickK 3 [0, 1, 2] rfl) (by simp only [List.length_set, List.nil_append, List.cons_append]))⟩
    · replace hF := cneg hC9 hF
      -- region 8: mutex.go:54
      refine W.seqR fun Q12 hQ12 => ?_
      refine WL.q (Y.eql (.pl rfl) (.pl rfl)) rfl ?_
      refine WL.q (Y.assign (.pl rfl)) rfl ?_
      refine WL.next hQ12 (.cons (i := 0) rfl (.cons (i := 1) rfl (.cons (i := 2) rfl (.cons (i := 6) rfl (.cons (i := 12) rfl (.cons (i := 30) rfl (.nil))))))) ?_
      refine W.cond (.pl rfl) (fun hC13 => ?_) (fun hC13 => ?_)
      · replace hF := cpos hC13 hF
        refine W.seq fun K14 hK14 => ?_
        -- region 9: mutex.go:55
        refine W.seqR fun Q15 hQ15 => ?_
        refine WL.q (Y.move (.pl rfl)) rfl ?_
        refine WL.q (Y.nilCheck (.pl rfl)) rfl ?_
        refine WL.q (Y.fieldAddr0 (off := 0) (ft := 163) Try.underlying165 rfl cells163 (.pl rfl)) rfl ?_
        refine WL.q (Y.loadB (v := .slice A2 (people4).length c3) Try.underlying163 rfl (.pl rfl) (i := 0) rfl (rfl)) rfl ?_
        refine WL.q (Y.move (.pl rfl)) rfl ?_
        obtain ⟨x17, hx17, hF⟩ := bnd hF
        refine WL.q (Y.rowEl Try.underlying163 cells167 (i := 1) rfl (.pl rfl) rfl (.pl rfl) (ix_lt (hx17))) rfl ?_
        refine WL.q (Y.rowField (off := 2) (ft := 4) Try.underlying167 rfl cells4 (i' := 1) rfl (ix_lt (hx17)) (.pl rfl)) rfl ?_
        refine WL.q (Y.loadR (enc := encMutexProcess) (v := .bool x17.flag) (a := x17) (idx := (1 - who11)) (j := 2) Try.underlying4 rfl lenMutexProcess (i := 1) rfl (.pl rfl) (ix_get (hx17)) rfl rfl) rfl ?_
        refine WL.q (Y.move (.pl rfl)) rfl ?_
        refine WL.g (.pl rfl rfl rfl) (fun hg => Y.move (.pl rfl)) rfl ?_
        refine WL.g (.pl rfl rfl rfl) (fun hg => Y.nilCheck (.gd (hg) rfl)) rfl ?_
        refine WL.g (.pl rfl rfl rfl) (fun hg => Y.fieldAddr0 (off := 1) (ft := 3) Try.underlying165 rfl cells3 (.gd (hg) rfl)) rfl ?_
        refine WL.g (.pl rfl rfl rfl) (fun hg => Y.loadB (v := .int .i64 turn5) Try.underlying3 rfl (.gd (hg) rfl) (i := 0) rfl (rfl)) rfl ?_
        refine WL.g (.pl rfl rfl rfl) (fun hg => Y.move (.pl rfl)) rfl ?_
        refine WL.g (.pl rfl rfl rfl) (fun hg => Y.neq (.gd (hg) rfl) (.gd (hg) rfl)) rfl ?_
        refine WL.q (Y.and (.pl rfl) (fun h2 => .gd (eqt h2) rfl)) rfl ?_
        refine WL.next hQ15 (.cons (i := 0) rfl (.cons (i := 1) rfl (.cons (i := 2) rfl (.cons (i := 47) rfl (.nil))))) ?_
        refine W.cond (.pl rfl) (fun hC16 => ?_) (fun hC16 => ?_)
        · replace hF := cpos hC16 hF
          obtain rfl := Option.some.inj hF
          refine W.retV (fn := Try.f83) (vs := []) Try.results83 trivial (fun _ _ h => h) (fun w hw => ?_)
          exact hR _ _ ⟨(A8, c9), trivial, rfl, (hw.pickK 3 [0, 1, 2] rfl)⟩
        · replace hF := cneg hC16 hF
          refine W.skip ?_
          refine W.go hK14 (.cons (i := 0) rfl (.cons (i := 1) rfl (.cons (i := 2) rfl (.nil)))) ?_
          -- region 10: mutex.go:58
          refine W.reg ?_
          refine WL.q (Y.move (.pl rfl)) rfl ?_
          refine WL.q (Y.move (.pl rfl)) rfl ?_
          obtain ⟨r18, hr18, hF⟩ := bnd hF
          refine WL.step (WO.call (γ := (Option Addr × Nat)) (fun g => .tuple #[]) (fun g => ([cBx b1 165 (.slice A2 (people4).length c3 :: (.int .i64 turn5 :: (.int .i64 (in6 + 1) :: (.int .i64 (max most7 (in6 + 1)) :: (.slice g.1 ((gates10 ++ ([(Gate.mk who11 true)] : List Gate))).length g.2 :: []))))), cR encMutexProcess 5 A2 c3 167 people4, cR encGate 2 g.1 g.2 172 (gates10 ++ ([(Gate.mk who11 true)] : List Gate))] ++ T)) (fun _ => True) isGo111 (.cons (.pl rfl) (.cons (.pl rfl) (.nil))) rfl (fun w hw => mutex_machine_enter_ok (T := ([] ++ T)) (hr18) (hw.pickK 3 [0, 1, 2] rfl) ) ?_)
          rintro ⟨A19, c20⟩ -
          refine WL.nil ?_
          refine W.go hK2 (.cons (i := 2) rfl (.nil)) ?_
          -- region 13: mutex.go:66
          refine W.reg ?_
          refine WL.q (Y.move (.pl rfl)) rfl ?_
          refine WL.q (Y.nilCheck (.pl rfl)) rfl ?_
          refine WL.q (Y.rowField (off := 0) (ft := 3) Try.underlying167 rfl cells3 (i' := 1) rfl (ix_lt (hx13)) (.pl rfl)) rfl ?_
          refine WL.q (Y.loadR (enc := encMutexProcess) (v := .int .i64 x13.step) (a := x13) (idx := ip12) (j := 0) Try.underlying3 rfl lenMutexProcess (i := 1) rfl (.pl rfl) (ix_get (hx13)) rfl rfl) rfl ?_
          obtain ⟨hk21, hF⟩ := ckh hF
          refine WL.q (Y.add (.pl rfl) (.pl rfl) (ok64_lt (hk21))) rfl ?_
          refine WL.q (Y.nilCheck (.pl rfl)) rfl ?_
          refine WL.q (Y.rowField (off := 0) (ft := 3) Try.underlying167 rfl cells3 (i' := 1) rfl (ix_lt (hx13)) (.pl rfl)) rfl ?_
          refine WL.step (WO.storeS (enc := encMutexProcess) (a := x13) (a' := (MutexProcess.mk (x13.step + 1) x13.left x13.flag x13.number x13.k)) (idx := ip12) (j := 0) cells3 (.pl rfl) (.pl rfl) rfl lenMutexProcess (i := 1) rfl (ix_get (hx13)) rfl (by decide) rfl ?_)
          refine WL.nil ?_
          obtain rfl := Option.some.inj hF
          refine W.endV (fn := Try.f83) (vs := []) Try.results83 trivial (fun _ _ h => h) (fun w hw => ?_)
          exact hR _ _ ⟨(A19, c20), trivial, rfl, (St.cong (L := ([cBx b1 165 (.slice A2 (people4).length c3 :: (.int .i64 turn5 :: (.int .i64 (in6 + 1) :: (.int .i64 (max most7 (in6 + 1)) :: (.slice A19 ((gates10 ++ ([(Gate.mk who11 true)] : List Gate))).length c20 :: []))))), cR encMutexProcess 5 A2 c3 167 (people4.set ip12.toNat (MutexProcess.mk (x13.step + 1) x13.left x13.flag x13.number x13.k)), cR encGate 2 A19 c20 172 (gates10 ++ ([(Gate.mk who11 true)] : List Gate))] ++ T)) (hw.pickK 3 [0, 1, 2] rfl) (by simp only [List.length_set, List.nil_append, List.cons_append]))⟩
      · replace hF := cneg hC13 hF
        -- region 11: mutex.go:59
        refine W.seqR fun Q19 hQ19 => ?_
        refine WL.q (Y.eql (.pl rfl) (.pl rfl)) rfl ?_
        refine WL.q (Y.assign (.pl rfl)) rfl ?_
        refine WL.next hQ19 (.cons (i := 0) rfl (.cons (i := 1) rfl (.cons (i := 2) rfl (.cons (i := 51) rfl (.nil))))) ?_
        refine W.cond (.pl rfl) (fun hC20 => ?_) (fun hC20 => ?_)
        · replace hF := cpos hC20 hF
          -- region 12: mutex.go:60
          refine W.reg ?_
          refine WL.q (Y.move (.pl rfl)) rfl ?_
          refine WL.q (Y.move (.pl rfl)) rfl ?_
          obtain ⟨r22, hr22, hF⟩ := bnd hF
          refine WL.step (WO.call (γ := (Option Addr × Nat)) (fun g => .tuple #[]) (fun g => ([cBx b1 165 (.slice A2 (people4).length c3 :: (.int .i64 turn5 :: (.int .i64 (in6 - 1) :: (.int .i64 most7 :: (.slice g.1 ((gates10 ++ ([(Gate.mk who11 false)] : List Gate))).length g.2 :: []))))), cR encMutexProcess 5 A2 c3 167 people4, cR encGate 2 g.1 g.2 172 (gates10 ++ ([(Gate.mk who11 false)] : List Gate))] ++ T)) (fun _ => True) isGo112 (.cons (.pl rfl) (.cons (.pl rfl) (.nil))) rfl (fun w hw => mutex_machine_exit_ok (T := ([] ++ T)) (hr22) (hw.pickK 3 [0, 1, 2] rfl) ) ?_)
          rintro ⟨A23, c24⟩ -
          refine WL.nil ?_
          refine W.go hK2 (.cons (i := 2) rfl (.nil)) ?_
          -- region 13: mutex.go:66
          refine W.reg ?_
          refine WL.q (Y.move (.pl rfl)) rfl ?_
          refine WL.q (Y.nilCheck (.pl rfl)) rfl ?_
          refine WL.q (Y.rowField (off := 0) (ft := 3) Try.underlying167 rfl cells3 (i' := 1) rfl (ix_lt (hx13)) (.pl rfl)) rfl ?_
          refine WL.q (Y.loadR (enc := encMutexProcess) (v := .int .i64 x13.step) (a := x13) (idx := ip12) (j := 0) Try.underlying3 rfl lenMutexProcess (i := 1) rfl (.pl rfl) (ix_get (hx13)) rfl rfl) rfl ?_
          obtain ⟨hk25, hF⟩ := ckh hF
          refine WL.q (Y.add (.pl rfl) (.pl rfl) (ok64_lt (hk25))) rfl ?_
          refine WL.q (Y.nilCheck (.pl rfl)) rfl ?_
          refine WL.q (Y.rowField (off := 0) (ft := 3) Try.underlying167 rfl cells3 (i' := 1) rfl (ix_lt (hx13)) (.pl rfl)) rfl ?_
          refine WL.step (WO.storeS (enc := encMutexProcess) (a := x13) (a' := (MutexProcess.mk (x13.step + 1) x13.left x13.flag x13.number x13.k)) (idx := ip12) (j := 0) cells3 (.pl rfl) (.pl rfl) rfl lenMutexProcess (i := 1) rfl (ix_get (hx13)) rfl (by decide) rfl ?_)
          refine WL.nil ?_
          obtain rfl := Option.some.inj hF
          refine W.endV (fn := Try.f83) (vs := []) Try.results83 trivial (fun _ _ h => h) (fun w hw => ?_)
          exact hR _ _ ⟨(A23, c24), trivial, rfl, (St.cong (L := ([cBx b1 165 (.slice A2 (people4).length c3 :: (.int .i64 turn5 :: (.int .i64 (in6 - 1) :: (.int .i64 most7 :: (.slice A23 ((gates10 ++ ([(Gate.mk who11 false)] : List Gate))).length c24 :: []))))), cR encMutexProcess 5 A2 c3 167 (people4.set ip12.toNat (MutexProcess.mk (x13.step + 1) x13.left x13.flag x13.number x13.k)), cR encGate 2 A23 c24 172 (gates10 ++ ([(Gate.mk who11 false)] : List Gate))] ++ T)) (hw.pickK 3 [0, 1, 2] rfl) (by simp only [List.length_set, List.nil_append, List.cons_append]))⟩
        · replace hF := cneg hC20 hF
          -- region 2: mutex.go:62
          refine W.seqR fun Q23 hQ23 => ?_
          refine WL.q (Y.move (.pl rfl)) rfl ?_
          refine WL.q (Y.nilCheck (.pl rfl)) rfl ?_
          refine WL.q (Y.rowField (off := 2) (ft := 4) Try.underlying167 rfl cells4 (i' := 1) rfl (ix_lt (hx13)) (.pl rfl)) rfl ?_
          refine WL.step (WO.storeS (enc := encMutexProcess) (a := x13) (a' := (MutexProcess.mk x13.step x13.left false x13.number x13.k)) (idx := ip12) (j := 2) cells4 (.pl rfl) (.pl rfl) rfl lenMutexProcess (i := 1) rfl (ix_get (hx13)) rfl (by decide) rfl ?_)
          refine WL.next hQ23 (.cons (i := 0) rfl (.cons (i := 2) rfl (.nil))) ?_
          -- region 3: mutex.go:63
          refine W.seqR fun Q24 hQ24 => ?_
          refine WL.q (Y.move (.pl rfl)) rfl ?_
          refine WL.q (Y.move (.pl rfl)) rfl ?_
          obtain ⟨r26, hr26, hF⟩ := bnd hF
          refine WL.step (WO.call (γ := Unit) (fun g => .tuple #[]) (fun g => ([cBx b1 165 (.slice A2 (r26).length c3 :: (.int .i64 turn5 :: (.int .i64 in6 :: (.int .i64 most7 :: (.slice A8 (gates10).length c9 :: []))))), cR encMutexProcess 5 A2 c3 167 r26, cR encGate 2 A8 c9 172 gates10] ++ T)) (fun _ => True) isGo113 (.cons (.pl rfl) (.cons (.pl rfl) (.nil))) rfl (fun w hw => mutex_machine_end_ok (T := ([] ++ T)) (hr26) (St.cong (L := ([cBx b1 165 (.slice A2 (people4).length c3 :: (.int .i64 turn5 :: (.int .i64 in6 :: (.int .i64 most7 :: (.slice A8 (gates10).length c9 :: []))))), cR encMutexProcess 5 A2 c3 167 (people4.set ip12.toNat (MutexProcess.mk x13.step x13.left false x13.number x13.k)), cR encGate 2 A8 c9 172 gates10] ++ T)) (hw.pickK 3 [0, 1, 2] rfl) (by simp only [List.length_set, List.nil_append, List.cons_append])) ) ?_)
          rintro _ -
          refine WL.next hQ24 (.nil) ?_
          obtain rfl := Option.some.inj hF
          refine W.retV (fn := Try.f83) (vs := []) Try.results83 trivial (fun _ _ h => h) (fun w hw => ?_)
          exact hR _ _ ⟨(A8, c9), trivial, rfl, (hw.pickK 3 [0, 1, 2] rfl)⟩

def mutex_other (N : Nat) (k1 : Int) (who2 : Int) : Option Int :=
  cond (decide (k1 = who2))
    (ck (ok64 (k1 + 1)) <|
    some (k1 + 1))
    (some k1)

theorem mutex_other_ok {N : Nat} {k1 : Int} {who2 : Int} {res : Int} (hF : mutex_other N k1 who2 = some res) (w : World) :
    Pure Try.prog 114 [.int .i64 k1, .int .i64 who2] w (.int .i64 res) := by
  refine W.enter (n := 11) Try.func114 rfl rfl Sub.refl (by simp) (St.start w) fun R hR => ?_
  unfold mutex_other at hF
  -- region 0: mutex.go:70
  refine W.seqR fun Q1 hQ1 => ?_
  refine WL.q (Y.assign (.pl rfl)) rfl ?_
  refine WL.next hQ1 (.cons (i := 0) rfl (.cons (i := 1) rfl (.nil))) ?_
  refine W.seq fun K2 hK2 => ?_
  -- region 1: mutex.go:71
  refine W.seqR fun Q3 hQ3 => ?_
  refine WL.q (Y.move (.pl rfl)) rfl ?_
  refine WL.q (Y.move (.pl rfl)) rfl ?_
  refine WL.q (Y.eql (.pl rfl) (.pl rfl)) rfl ?_
  refine WL.next hQ3 (.cons (i := 0) rfl (.cons (i := 7) rfl (.nil))) ?_
  refine W.cond (.pl rfl) (fun hC4 => ?_) (fun hC4 => ?_)
  · replace hF := cpos hC4 hF
    -- region 2: mutex.go:72
    refine W.seqR fun Q5 hQ5 => ?_
    refine WL.q (Y.move (.pl rfl)) rfl ?_
    obtain ⟨hk3, hF⟩ := ckh hF
    refine WL.q (Y.add (.pl rfl) (.pl rfl) (ok64_lt (hk3))) rfl ?_
    refine WL.q (Y.assign (.pl rfl)) rfl ?_
    refine WL.next hQ5 (.cons (i := 4) rfl (.nil)) ?_
    obtain rfl := Option.some.inj hF
    refine W.retV (fn := Try.f114) (vs := [.int .i64 (k1 + 1)]) Try.results114 ⟨.tmp rfl, trivial⟩ (fun _ _ h => h) (fun w hw => ?_)
    exact hR _ _ ⟨rfl, (hw.pick [] rfl)⟩
  · replace hF := cneg hC4 hF
    refine W.skip ?_
    refine W.go hK2 (.cons (i := 0) rfl (.nil)) ?_
    -- region 3: mutex.go:74
    refine W.seqR fun Q6 hQ6 => ?_
    refine WL.q (Y.move (.pl rfl)) rfl ?_
    refine WL.q (Y.assign (.pl rfl)) rfl ?_
    refine WL.next hQ6 (.cons (i := 4) rfl (.nil)) ?_
    obtain rfl := Option.some.inj hF
    refine W.retV (fn := Try.f114) (vs := [.int .i64 k1]) Try.results114 ⟨.tmp rfl, trivial⟩ (fun _ _ h => h) (fun w hw => ?_)
    exact hR _ _ ⟨rfl, (hw.pick [] rfl)⟩

def mutex_machine_bakery_L7 (N : Nat) (people4 : (List MutexProcess)) : (Int × Int) → Option ((Int × Int) ⊕ Int)
  | (most21, v22) =>
    cond (decide (v22 < ((people4).length : Int)))
      (bd (ix people4 v22) fun (x23 : MutexProcess) =>
      ck (ok64 (v22 + 1)) <|
      some (.inl ((max most21 x23.number), (v22 + 1))))
      (some (.inr most21))

def mutex_machine_bakery (N : Nat) (people4 : (List MutexProcess)) (turn5 : Int) (in6 : Int) (most7 : Int) (gates10 : (List Gate)) (who11 : Int) (ip12 : Int) : Option ((List MutexProcess) × Int × Int × (List Gate)) :=
  bd (ix people4 ip12) fun (x13 : MutexProcess) =>
  bd (α := (((List MutexProcess) × Int × Int × (List Gate)) ⊕ ((List MutexProcess) × Int × Int × (List Gate)))) (cond (decide (x13.step = 0))
      (some (.inl ((people4.set ip12.toNat (MutexProcess.mk x13.step x13.left true x13.number x13.k)), in6, most7, gates10)))
      (cond (decide (x13.step = 1))
        (bd (α := Int) (iter (mutex_machine_bakery_L7 N people4) N (0, 0)) <|
        fun (most20 : Int) => 
          ck (ok64 (1 + most20)) <|
          some (.inl ((people4.set ip12.toNat (MutexProcess.mk x13.step x13.left x13.flag (1 + most20) x13.k)), in6, most7, gates10)))
        (cond (decide (x13.step = 2))
          (bd (mutex_other N 0 who11) fun (r27 : Int) =>
          cond (decide (((people4).length : Int) ≤ r27))
            (some (.inr ((people4.set ip12.toNat (MutexProcess.mk 5 x13.left false x13.number r27)), in6, most7, gates10)))
            (some (.inl ((people4.set ip12.toNat (MutexProcess.mk x13.step x13.left false x13.number r27)), in6, most7, gates10))))
          (cond (decide (x13.step = 3))
            (bd (ix people4 x13.k) fun (x28 : MutexProcess) =>
            cond x28.flag
              (some (.inr (people4, in6, most7, gates10)))
              (some (.inl (people4, in6, most7, gates10))))
            (cond (decide (x13.step = 4))
              (bd (ix people4 x13.k) fun (x29 : MutexProcess) =>
              cond ((!(decide (x29.number = 0))) && ((decide (x29.number < x13.number)) || ((decide (x29.number = x13.number)) && (decide (x13.k < who11)))))
                (some (.inr (people4, in6, most7, gates10)))
                (ck (ok64 (x13.k + 1)) <|
                bd (mutex_other N (x13.k + 1) who11) fun (r31 : Int) =>
                cond (decide (r31 < ((people4).length : Int)))
                  (some (.inr ((people4.set ip12.toNat (MutexProcess.mk 3 x13.left x13.flag x13.number r31)), in6, most7, gates10)))
                  (some (.inl ((people4.set ip12.toNat (MutexProcess.mk x13.step x13.left x13.flag x13.number r31)), in6, most7, gates10)))))
              (cond (decide (x13.step = 5))
                (bd (mutex_machine_enter N people4 turn5 in6 most7 gates10 who11) fun (r32 : Unit) =>
                some (.inl (people4, (in6 + 1), (max most7 (in6 + 1)), (gates10 ++ ([(Gate.mk who11 true)] : List Gate)))))
                (cond (decide (x13.step = 6))
                  (bd (mutex_machine_exit N people4 turn5 in6 most7 gates10 who11) fun (r35 : Unit) =>
                  some (.inl (people4, (in6 - 1), most7, (gates10 ++ ([(Gate.mk who11 false)] : List Gate)))))
                  (bd (mutex_machine_end N (people4.set ip12.toNat (MutexProcess.mk x13.step x13.left x13.flag 0 x13.k)) turn5 in6 most7 gates10 ip12) fun (r38 : (List MutexProcess)) =>
                  some (.inr (r38, in6, most7, gates10)))))))))) <|
  Sum.elim (fun (people14, in15, most16, gates19) => 
    bd (ix people14 ip12) fun (x39 : MutexProcess) =>
    ck (ok64 (x39.step + 1)) <|
    bd (ix people14 ip12) fun (x41 : MutexProcess) =>
    some ((people14.set ip12.toNat (MutexProcess.mk (x39.step + 1) x41.left x41.flag x41.number x41.k)), in15, most16, gates19)) (fun p => some p)

theorem mutex_machine_bakery_ok {N : Nat} {people4 : (List MutexProcess)} {turn5 : Int} {in6 : Int} {most7 : Int} {gates10 : (List Gate)} {who11 : Int} {ip12 : Int} {b1 : Nat} {A2 : Option Addr} {c3 : Nat} {A8 : Option Addr} {c9 : Nat} {res : ((List MutexProcess) × Int × Int × (List Gate))} (hF : mutex_machine_bakery N people4 turn5 in6 most7 gates10 who11 ip12 = some res) {w0 w : World} {T : List Chunk} (hw : St w0.heap.size w0 ([cBx b1 165 (.slice A2 (people4).length c3 :: (.int .i64 turn5 :: (.int .i64 in6 :: (.int .i64 most7 :: (.slice A8 (gates10).length c9 :: []))))), cR encMutexProcess 5 A2 c3 167 people4, cR encGate 2 A8 c9 172 gates10] ++ T) w) :
    Calls Try.prog 84 (List.toArray [.pointer (some ⟨b1, 0, none⟩), .int .i64 who11, .pointer (some (elA A2 (ip12.toNat * (4 + 1))))]) w (fun e w' => ∃ g : (Option Addr × Nat), True ∧ e = .returned (.tuple #[]) ∧ St w0.heap.size w0 ([cBx b1 165 (.slice A2 (res.1).length c3 :: (.int .i64 turn5 :: (.int .i64 res.2.1 :: (.int .i64 res.2.2.1 :: (.slice g.1 (res.2.2.2).length g.2 :: []))))), cR encMutexProcess 5 A2 c3 167 res.1, cR encGate 2 g.1 g.2 172 res.2.2.2] ++ T) w') := by
  refine W.enter (n := 161) Try.func84 rfl rfl Sub.refl (by simp) hw fun R hR => ?_
  unfold mutex_machine_bakery at hF
  obtain ⟨x13, hx13, hF⟩ := bnd hF
  obtain ⟨o1, hF1, hF⟩ := bnd hF
  refine W.join6 (Em := fun (people14 : (List MutexProcess)) (in15 : Int) (most16 : Int) (gates19 : (List Gate)) (A17 : Option Addr) (c18 : Nat) => []) (M := fun people14 in15 most16 gates19 A17 c18 => ([cBx b1 165 (.slice A2 (people14).length c3 :: (.int .i64 turn5 :: (.int .i64 in15 :: (.int .i64 most16 :: (.slice A17 (gates19).length c18 :: []))))), cR encMutexProcess 5 A2 c3 167 people14, cR encGate 2 A17 c18 172 gates19] ++ T)) (I := fun people14 in15 most16 gates19 A17 c18 => (.inl (people14, in15, most16, gates19)) = o1) (.cons (i := 2) rfl (.nil)) (fun K2 hK2 => ?_) ?_
  · -- up to
    -- region 0: mutex.go:78
    refine W.seqR fun Q3 hQ3 => ?_
    refine WL.q (Y.move (.pl rfl)) rfl ?_
    refine WL.q (Y.nilCheck (.pl rfl)) rfl ?_
    refine WL.q (Y.rowField (off := 0) (ft := 3) Try.underlying167 rfl cells3 (i' := 1) rfl (ix_lt (hx13)) (.pl rfl)) rfl ?_
    refine WL.q (Y.loadR (enc := encMutexProcess) (v := .int .i64 x13.step) (a := x13) (idx := ip12) (j := 0) Try.underlying3 rfl lenMutexProcess (i := 1) rfl (.pl rfl) (ix_get (hx13)) rfl rfl) rfl ?_
    refine WL.next hQ3 (.cons (i := 0) rfl (.cons (i := 1) rfl (.cons (i := 2) rfl (.cons (i := 13) rfl (.nil))))) ?_
    refine W.block ?_
    -- region 3: mutex.go:79
    refine W.seqR fun Q4 hQ4 => ?_
    refine WL.q (Y.eql (.pl rfl) (.pl rfl)) rfl ?_
    refine WL.q (Y.assign (.pl rfl)) rfl ?_
    refine WL.next hQ4 (.cons (i := 0) rfl (.cons (i := 1) rfl (.cons (i := 2) rfl (.cons (i := 13) rfl (.cons (i := 20) rfl (.nil)))))) ?_
    refine W.cond (.pl rfl) (fun hC5 => ?_) (fun hC5 => ?_)
    · replace hF1 := cpos hC5 hF1
      -- region 4: mutex.go:80
      refine W.reg ?_
      refine WL.q (Y.move (.pl rfl)) rfl ?_
      refine WL.q (Y.nilCheck (.pl rfl)) rfl ?_
      refine WL.q (Y.rowField (off := 2) (ft := 4) Try.underlying167 rfl cells4 (i' := 1) rfl (ix_lt (hx13)) (.pl rfl)) rfl ?_
      refine WL.step (WO.storeS (enc := encMutexProcess) (a := x13) (a' := (MutexProcess.mk x13.step x13.left true x13.number x13.k)) (idx := ip12) (j := 2) cells4 (.pl rfl) (.pl rfl) rfl lenMutexProcess (i := 1) rfl (ix_get (hx13)) rfl (by decide) rfl ?_)
      refine WL.nil ?_
      exact W.joinAt6 hK2 (people4.set ip12.toNat (MutexProcess.mk x13.step x13.left true x13.number x13.k)) in6 most7 gates10 A8 c9 (Option.some.inj hF1) (.nil) (.cons (i := 2) rfl (.nil)) (fun w hw => St.cong (L := ([cBx b1 165 (.slice A2 (people4).length c3 :: (.int .i64 turn5 :: (.int .i64 in6 :: (.int .i64 most7 :: (.slice A8 (gates10).length c9 :: []))))), cR encMutexProcess 5 A2 c3 167 (people4.set ip12.toNat (MutexProcess.mk x13.step x13.left true x13.number x13.k)), cR encGate 2 A8 c9 172 gates10] ++ T)) (hw.pickK 3 [0, 1, 2] rfl) (by simp only [List.length_set, List.nil_append, List.cons_append]))
    · replace hF1 := cneg hC5 hF1
      -- region 5: mutex.go:81
      refine W.seqR fun Q7 hQ7 => ?_
      refine WL.q (Y.eql (.pl rfl) (.pl rfl)) rfl ?_
      refine WL.q (Y.assign (.pl rfl)) rfl ?_
      refine WL.next hQ7 (.cons (i := 0) rfl (.cons (i := 1) rfl (.cons (i := 2) rfl (.cons (i := 13) rfl (.cons (i := 25) rfl (.nil)))))) ?_
      refine W.cond (.pl rfl) (fun hC8 => ?_) (fun hC8 => ?_)
      · replace hF1 := cpos hC8 hF1
        -- region 6: mutex.go:82
        refine W.seqR fun Q9 hQ9 => ?_
        refine WL.q (Y.assign (.pl rfl)) rfl ?_
        refine WL.next hQ9 (.cons (i := 0) rfl (.cons (i := 2) rfl (.cons (i := 6) rfl (.nil)))) ?_
        obtain ⟨o10, hF10, hF1⟩ := bnd hF1
        refine W.join1 (Em := fun (most20 : Int) => [(6, .int .i64 most20)]) (M := fun most20 => ([cBx b1 165 (.slice A2 (people4).length c3 :: (.int .i64 turn5 :: (.int .i64 in6 :: (.int .i64 most7 :: (.slice A8 (gates10).length c9 :: []))))), cR encMutexProcess 5 A2 c3 167 people4, cR encGate 2 A8 c9 172 gates10] ++ T)) (I := fun most20 => most20 = o10) (.cons (i := 2) rfl (.nil)) (fun K11 hK11 => ?_) ?_
        · -- up to
          -- region 7: mutex.go:83
          refine W.seqR fun Q12 hQ12 => ?_
          refine WL.q (Y.move (.pl rfl)) rfl ?_
          refine WL.q (Y.nilCheck (.pl rfl)) rfl ?_
          refine WL.q (Y.fieldAddr0 (off := 0) (ft := 163) Try.underlying165 rfl cells163 (.pl rfl)) rfl ?_
          refine WL.q (Y.loadB (v := .slice A2 (people4).length c3) Try.underlying163 rfl (.pl rfl) (i := 0) rfl (rfl)) rfl ?_
          refine WL.q (Y.len Try.underlying163 (.pl rfl)) rfl ?_
          refine WL.q (Y.move (.pl rfl)) rfl ?_
          refine WL.next hQ12 (.cons (i := 2) rfl (.cons (i := 6) rfl (.cons (i := 30) rfl (.cons (i := 31) rfl (.cons (i := 32) rfl (.nil)))))) ?_
          refine W.block ?_
          refine W.loop2 (Em := fun (most21 : Int) (v22 : Int) => [(6, .int .i64 most21), (32, .int .i64 v22)]) (M := fun most21 v22 => ([cBx b1 165 (.slice A2 (people4).length c3 :: (.int .i64 turn5 :: (.int .i64 in6 :: (.int .i64 most7 :: (.slice A8 (gates10).length c9 :: []))))), cR encMutexProcess 5 A2 c3 167 people4, cR encGate 2 A8 c9 172 gates10] ++ T)) (I := fun most21 v22 k13 => iter (mutex_machine_bakery_L7 N people4) k13 (most21, v22) = some o10) 0 0 N (hF10) (.cons rfl (.cons rfl (.nil))) (.cons (i := 2) rfl (.cons (i := 30) rfl (.cons (i := 31) rfl (.nil)))) (fun w hw => hw.pickK 3 [0, 1, 2] rfl) (fun most21 v22 k13 hI K14 hK14 => ?_)
          obtain ⟨k13, t13, rfl, hF13, hN13⟩ := iter_step hI
          -- region 8: mutex.go:83
          refine W.seqR fun Q15 hQ15 => ?_
          refine WL.q (Y.lss (.pl rfl) (.pl rfl)) rfl ?_
          refine WL.next hQ15 (.cons (i := 2) rfl (.cons (i := 6) rfl (.cons (i := 30) rfl (.cons (i := 31) rfl (.cons (i := 32) rfl (.cons (i := 33) rfl (.nil))))))) ?_
          refine W.seq fun K16 hK16 => ?_
          refine W.cond (.pl rfl) (fun hC17 => ?_) (fun hC17 => ?_)
          · replace hF13 := cpos hC17 hF13
            refine W.skip ?_
            refine W.go hK16 (.cons (i := 2) rfl (.cons (i := 6) rfl (.cons (i := 30) rfl (.cons (i := 31) rfl (.cons (i := 32) rfl (.nil)))))) ?_
            refine W.seq fun K18 hK18 => ?_
            refine W.block ?_
            -- region 9: mutex.go:83
            refine W.seqR fun Q19 hQ19 => ?_
            obtain ⟨x23, hx23, hF13⟩ := bnd hF13
            refine WL.q (Y.rowEl Try.underlying163 cells167 (i := 1) rfl (.pl rfl) rfl (.pl rfl) (ix_lt (hx23))) rfl ?_
            refine WL.q (Y.loadRA (enc := encMutexProcess) (ds := (encMutexProcess x23)) (a := x23) (idx := v22) (j := 0) Try.underlying167 rfl cells167 lenMutexProcess (i := 1) rfl (.pl rfl) (ix_get (hx23)) rfl rfl subW) rfl ?_
            refine WL.step (WO.alloc (cs := (encMutexProcess (MutexProcess.mk 0 0 false 0 0)).toArray) zero167 rfl rfl fun b24 => ?_)
            refine WL.step (WO.storeBA (ds := (encMutexProcess x23)) (cs' := (encMutexProcess x23)) cells167 (.pl rfl) (.pl rfl) rfl (oneMutexProcess _) (i := 0) rfl (lel (o := 0) (l := 5) (m := 5) (by decide) rfl rfl) (putW rfl) ?_)
            refine WL.next hQ19 (.cons (i := 2) rfl (.cons (i := 6) rfl (.cons (i := 8) rfl (.cons (i := 30) rfl (.cons (i := 31) rfl (.cons (i := 32) rfl (.nil))))))) ?_
            -- region 10: mutex.go:84
            refine W.reg ?_
            refine WL.q (Y.move (.pl rfl)) rfl ?_
            refine WL.q (Y.fieldAddr0 (off := 3) (ft := 3) Try.underlying167 rfl cells3 (.pl rfl)) rfl ?_
            refine WL.q (Y.loadB (v := .int .i64 x23.number) Try.underlying3 rfl (.pl rfl) (i := 0) rfl (rfl)) rfl ?_
            refine WL.q (Y.max (.pl rfl) (.pl rfl)) rfl ?_
            refine WL.q (Y.assign (.pl rfl)) rfl ?_
            refine WL.nil ?_
            refine W.go hK18 (.cons (i := 2) rfl (.cons (i := 6) rfl (.cons (i := 30) rfl (.cons (i := 31) rfl (.cons (i := 32) rfl (.nil)))))) ?_
            -- region 11: mutex.go:83
            refine W.reg ?_
            obtain ⟨hk25, hF13⟩ := ckh hF13
            refine WL.q (Y.add (.pl rfl) (.pl rfl) (ok64_lt (hk25))) rfl ?_
            refine WL.q (Y.move (.pl rfl)) rfl ?_
            refine WL.nil ?_
            obtain rfl := Option.some.inj hF13
            exact W.again2 hK14 (max most21 x23.number) (v22 + 1) k13 hN13 (Nat.lt_succ_self _) (.cons rfl (.cons rfl (.nil))) (.cons (i := 2) rfl (.cons (i := 30) rfl (.cons (i := 31) rfl (.nil)))) (fun w hw => hw.pickK 4 [1, 2, 3] rfl)
          · replace hF13 := cneg hC17 hF13
            refine W.exit ?_
            obtain rfl := Option.some.inj hF13
            exact W.joinAt1 hK11 most21 (einr hN13) (.cons rfl (.nil)) (.cons (i := 2) rfl (.nil)) (fun w hw => hw.pickK 3 [0, 1, 2] rfl)
        · -- behind
          rintro most20 rfl
          -- region 12: mutex.go:86
          refine W.reg ?_
          refine WL.q (Y.move (.pl rfl)) rfl ?_
          refine WL.q (Y.move (.pl rfl)) rfl ?_
          obtain ⟨hk26, hF1⟩ := ckh hF1
          refine WL.q (Y.add (.pl rfl) (.pl rfl) (ok64_lt (hk26))) rfl ?_
          refine WL.q (Y.nilCheck (.pl rfl)) rfl ?_
          refine WL.q (Y.rowField (off := 3) (ft := 3) Try.underlying167 rfl cells3 (i' := 1) rfl (ix_lt (hx13)) (.pl rfl)) rfl ?_
          refine WL.step (WO.storeS (enc := encMutexProcess) (a := x13) (a' := (MutexProcess.mk x13.step x13.left x13.flag (1 + most20) x13.k)) (idx := ip12) (j := 3) cells3 (.pl rfl) (.pl rfl) rfl lenMutexProcess (i := 1) rfl (ix_get (hx13)) rfl (by decide) rfl ?_)
          refine WL.nil ?_
          exact W.joinAt6 hK2 (people4.set ip12.toNat (MutexProcess.mk x13.step x13.left x13.flag (1 + most20) x13.k)) in6 most7 gates10 A8 c9 (Option.some.inj hF1) (.nil) (.cons (i := 2) rfl (.nil)) (fun w hw => St.cong (L := ([cBx b1 165 (.slice A2 (people4).length c3 :: (.int .i64 turn5 :: (.int .i64 in6 :: (.int .i64 most7 :: (.slice A8 (gates10).length c9 :: []))))), cR encMutexProcess 5 A2 c3 167 (people4.set ip12.toNat (MutexProcess.mk x13.step x13.left x13.flag (1 + most20) x13.k)), cR encGate 2 A8 c9 172 gates10] ++ T)) (hw.pickK 3 [0, 1, 2] rfl) (by simp only [List.length_set, List.nil_append, List.cons_append]))
      · replace hF1 := cneg hC8 hF1
        -- region 13: mutex.go:87
        refine W.seqR fun Q23 hQ23 => ?_
        refine WL.q (Y.eql (.pl rfl) (.pl rfl)) rfl ?_
        refine WL.q (Y.assign (.pl rfl)) rfl ?_
        refine WL.next hQ23 (.cons (i := 0) rfl (.cons (i := 1) rfl (.cons (i := 2) rfl (.cons (i := 13) rfl (.cons (i := 46) rfl (.nil)))))) ?_
        refine W.cond (.pl rfl) (fun hC24 => ?_) (fun hC24 => ?_)
        · replace hF1 := cpos hC24 hF1
          -- region 14: mutex.go:88
          refine W.seqR fun Q25 hQ25 => ?_
          refine WL.q (Y.move (.pl rfl)) rfl ?_
          refine WL.q (Y.nilCheck (.pl rfl)) rfl ?_
          refine WL.q (Y.rowField (off := 2) (ft := 4) Try.underlying167 rfl cells4 (i' := 1) rfl (ix_lt (hx13)) (.pl rfl)) rfl ?_
          refine WL.step (WO.storeS (enc := encMutexProcess) (a := x13) (a' := (MutexProcess.mk x13.step x13.left false x13.number x13.k)) (idx := ip12) (j := 2) cells4 (.pl rfl) (.pl rfl) rfl lenMutexProcess (i := 1) rfl (ix_get (hx13)) rfl (by decide) rfl ?_)
          refine WL.next hQ25 (.cons (i := 0) rfl (.cons (i := 1) rfl (.cons (i := 2) rfl (.nil)))) ?_
          -- region 15: mutex.go:89
          refine W.seqR fun Q26 hQ26 => ?_
          refine WL.q (Y.move (.pl rfl)) rfl ?_
          refine WL.q (Y.move (.pl rfl)) rfl ?_
          obtain ⟨r27, hr27, hF1⟩ := bnd hF1
          refine WL.step (WO.callP isGo114 (.cons (.pl rfl) (.cons (.pl rfl) (.nil))) rfl (fun w hw => mutex_other_ok (hr27) w ) ?_)
          refine WL.q (Y.nilCheck (.pl rfl)) rfl ?_
          refine WL.q (Y.rowField (off := 4) (ft := 3) Try.underlying167 rfl cells3 (i' := 1) rfl (⟨(ix_lt (hx13)).1, by simpa only [List.length_set] using (ix_lt (hx13)).2⟩) (.pl rfl)) rfl ?_
          refine WL.step (WO.storeFS (enc := encMutexProcess) (a := (MutexProcess.mk x13.step x13.left false x13.number x13.k)) (a' := (MutexProcess.mk x13.step x13.left false x13.number r27)) (idx := ip12) (j := 4) cells3 (.pl rfl) (.pl rfl) rfl lenMutexProcess (i := 1) rfl (ix_lt (hx13)) rfl (by decide) rfl ?_)
          refine WL.next hQ26 (.cons (i := 0) rfl (.cons (i := 2) rfl (.nil))) ?_
          -- region 16: mutex.go:90
          refine W.seqD (by kernel_rfl) (by kernel_rfl) fun R27 hR27 => ?_
          refine WD.q (Y.move (.pl rfl)) rfl ?_
          refine WD.q (Y.nilCheck (.pl rfl)) rfl ?_
          refine WD.q (Y.rowField (off := 4) (ft := 3) Try.underlying167 rfl cells3 (i' := 1) rfl (⟨(ix_lt (hx13)).1, by simpa only [List.length_set] using (ix_lt (hx13)).2⟩) (.pl rfl)) rfl ?_
          refine WD.q (Y.loadR (enc := encMutexProcess) (v := .int .i64 r27) (a := (MutexProcess.mk x13.step x13.left false x13.number r27)) (idx := ip12) (j := 4) Try.underlying3 rfl lenMutexProcess (i := 1) rfl (.pl rfl) (setget (ix_lt (hx13))) rfl rfl) rfl ?_
          refine WD.q (Y.move (.pl rfl)) rfl ?_
          refine WD.q (Y.nilCheck (.pl rfl)) rfl ?_
          refine WD.q (Y.fieldAddr0 (off := 0) (ft := 163) Try.underlying165 rfl cells163 (.pl rfl)) rfl ?_
          refine WD.q (Y.loadB (v := .slice A2 (people4).length c3) Try.underlying163 rfl (.pl rfl) (i := 0) rfl (rfl)) rfl ?_
          refine WD.q (Y.len Try.underlying163 (.pl rfl)) rfl ?_
          refine WD.q (Y.geq (.pl rfl) (.pl rfl)) rfl ?_
          refine WD.next hR27 (.cons (i := 2) rfl (.cons (i := 65) rfl (.nil))) ?_
          refine W.cond (.pl rfl) (fun hC28 => ?_) (fun hC28 => ?_)
          · replace hF1 := cpos hC28 hF1
            -- region 17: mutex.go:91
            refine W.seqR fun Q29 hQ29 => ?_
            refine WL.q (Y.move (.pl rfl)) rfl ?_
            refine WL.q (Y.nilCheck (.pl rfl)) rfl ?_
            refine WL.q (Y.rowField (off := 0) (ft := 3) Try.underlying167 rfl cells3 (i' := 1) rfl (⟨(ix_lt (hx13)).1, by simpa only [List.length_set] using (ix_lt (hx13)).2⟩) (.pl rfl)) rfl ?_
            refine WL.step (WO.storeFS (enc := encMutexProcess) (a := (MutexProcess.mk x13.step x13.left false x13.number r27)) (a' := (MutexProcess.mk 5 x13.left false x13.number r27)) (idx := ip12) (j := 0) cells3 (.pl rfl) (.pl rfl) rfl lenMutexProcess (i := 1) rfl (ix_lt (hx13)) rfl (by decide) rfl ?_)
            refine WL.next hQ29 (.nil) ?_
            obtain rfl := Option.some.inj hF1
            obtain rfl := Option.some.inj hF
            refine W.retV (fn := Try.f84) (vs := []) Try.results84 trivial (fun _ _ h => h) (fun w hw => ?_)
            exact hR _ _ ⟨(A8, c9), trivial, rfl, (St.cong (L := ([cBx b1 165 (.slice A2 (people4).length c3 :: (.int .i64 turn5 :: (.int .i64 in6 :: (.int .i64 most7 :: (.slice A8 (gates10).length c9 :: []))))), cR encMutexProcess 5 A2 c3 167 (people4.set ip12.toNat (MutexProcess.mk 5 x13.left false x13.number r27)), cR encGate 2 A8 c9 172 gates10] ++ T)) (hw.pickK 3 [0, 1, 2] rfl) (by simp only [List.length_set, List.nil_append, List.cons_append]))⟩
          · replace hF1 := cneg hC28 hF1
            refine W.skip ?_
            exact W.joinAt6 hK2 (people4.set ip12.toNat (MutexProcess.mk x13.step x13.left false x13.number r27)) in6 most7 gates10 A8 c9 (Option.some.inj hF1) (.nil) (.cons (i := 2) rfl (.nil)) (fun w hw => St.cong (L := ([cBx b1 165 (.slice A2 (people4).length c3 :: (.int .i64 turn5 :: (.int .i64 in6 :: (.int .i64 most7 :: (.slice A8 (gates10).length c9 :: []))))), cR encMutexProcess 5 A2 c3 167 (people4.set ip12.toNat (MutexProcess.mk x13.step x13.left false x13.number r27)), cR encGate 2 A8 c9 172 gates10] ++ T)) (hw.pickK 3 [0, 1, 2] rfl) (by simp only [List.length_set, List.nil_append, List.cons_append]))
        · replace hF1 := cneg hC24 hF1
          -- region 18: mutex.go:94
          refine W.seqR fun Q30 hQ30 => ?_
          refine WL.q (Y.eql (.pl rfl) (.pl rfl)) rfl ?_
          refine WL.q (Y.assign (.pl rfl)) rfl ?_
          refine WL.next hQ30 (.cons (i := 0) rfl (.cons (i := 1) rfl (.cons (i := 2) rfl (.cons (i := 13) rfl (.cons (i := 69) rfl (.nil)))))) ?_
          refine W.cond (.pl rfl) (fun hC31 => ?_) (fun hC31 => ?_)
          · replace hF1 := cpos hC31 hF1
            -- region 19: mutex.go:95
            refine W.seqD (by kernel_rfl) (by kernel_rfl) fun R32 hR32 => ?_
            refine WD.q (Y.move (.pl rfl)) rfl ?_
            refine WD.q (Y.nilCheck (.pl rfl)) rfl ?_
            refine WD.q (Y.fieldAddr0 (off := 0) (ft := 163) Try.underlying165 rfl cells163 (.pl rfl)) rfl ?_
            refine WD.q (Y.loadB (v := .slice A2 (people4).length c3) Try.underlying163 rfl (.pl rfl) (i := 0) rfl (rfl)) rfl ?_
            refine WD.q (Y.move (.pl rfl)) rfl ?_
            refine WD.q (Y.nilCheck (.pl rfl)) rfl ?_
            refine WD.q (Y.rowField (off := 4) (ft := 3) Try.underlying167 rfl cells3 (i' := 1) rfl (ix_lt (hx13)) (.pl rfl)) rfl ?_
            refine WD.q (Y.loadR (enc := encMutexProcess) (v := .int .i64 x13.k) (a := x13) (idx := ip12) (j := 4) Try.underlying3 rfl lenMutexProcess (i := 1) rfl (.pl rfl) (ix_get (hx13)) rfl rfl) rfl ?_
            obtain ⟨x28, hx28, hF1⟩ := bnd hF1
            refine WD.q (Y.rowEl Try.underlying163 cells167 (i := 1) rfl (.pl rfl) rfl (.pl rfl) (ix_lt (hx28))) rfl ?_
            refine WD.q (Y.rowField (off := 2) (ft := 4) Try.underlying167 rfl cells4 (i' := 1) rfl (ix_lt (hx28)) (.pl rfl)) rfl ?_
            refine WD.q (Y.loadR (enc := encMutexProcess) (v := .bool x28.flag) (a := x28) (idx := x13.k) (j := 2) Try.underlying4 rfl lenMutexProcess (i := 1) rfl (.pl rfl) (ix_get (hx28)) rfl rfl) rfl ?_
            refine WD.next hR32 (.cons (i := 2) rfl (.cons (i := 81) rfl (.nil))) ?_
            refine W.cond (.pl rfl) (fun hC33 => ?_) (fun hC33 => ?_)
            · replace hF1 := cpos hC33 hF1
              obtain rfl := Option.some.inj hF1
              obtain rfl := Option.some.inj hF
              refine W.retV (fn := Try.f84) (vs := []) Try.results84 trivial (fun _ _ h => h) (fun w hw => ?_)
              exact hR _ _ ⟨(A8, c9), trivial, rfl, (hw.pickK 3 [0, 1, 2] rfl)⟩
            · replace hF1 := cneg hC33 hF1
              refine W.skip ?_
              exact W.joinAt6 hK2 people4 in6 most7 gates10 A8 c9 (Option.some.inj hF1) (.nil) (.cons (i := 2) rfl (.nil)) (fun w hw => hw.pickK 3 [0, 1, 2] rfl)
          · replace hF1 := cneg hC31 hF1
            -- region 20: mutex.go:98
            refine W.seqR fun Q34 hQ34 => ?_
            refine WL.q (Y.eql (.pl rfl) (.pl rfl)) rfl ?_
            refine WL.q (Y.assign (.pl rfl)) rfl ?_
            refine WL.next hQ34 (.cons (i := 0) rfl (.cons (i := 1) rfl (.cons (i := 2) rfl (.cons (i := 13) rfl (.cons (i := 82) rfl (.nil)))))) ?_
            refine W.cond (.pl rfl) (fun hC35 => ?_) (fun hC35 => ?_)
            · replace hF1 := cpos hC35 hF1
              -- region 21: mutex.go:99
              refine W.seqD (by kernel_rfl) (by kernel_rfl) fun R36 hR36 => ?_
              refine WD.q (Y.move (.pl rfl)) rfl ?_
              refine WD.q (Y.nilCheck (.pl rfl)) rfl ?_
              refine WD.q (Y.fieldAddr0 (off := 0) (ft := 163) Try.underlying165 rfl cells163 (.pl rfl)) rfl ?_
              refine WD.q (Y.loadB (v := .slice A2 (people4).length c3) Try.underlying163 rfl (.pl rfl) (i := 0) rfl (rfl)) rfl ?_
              refine WD.q (Y.move (.pl rfl)) rfl ?_
              refine WD.q (Y.nilCheck (.pl rfl)) rfl ?_
              refine WD.q (Y.rowField (off := 4) (ft := 3) Try.underlying167 rfl cells3 (i' := 1) rfl (ix_lt (hx13)) (.pl rfl)) rfl ?_
              refine WD.q (Y.loadR (enc := encMutexProcess) (v := .int .i64 x13.k) (a := x13) (idx := ip12) (j := 4) Try.underlying3 rfl lenMutexProcess (i := 1) rfl (.pl rfl) (ix_get (hx13)) rfl rfl) rfl ?_
              obtain ⟨x29, hx29, hF1⟩ := bnd hF1
              refine WD.q (Y.rowEl Try.underlying163 cells167 (i := 1) rfl (.pl rfl) rfl (.pl rfl) (ix_lt (hx29))) rfl ?_
              refine WD.q (Y.rowField (off := 3) (ft := 3) Try.underlying167 rfl cells3 (i' := 1) rfl (ix_lt (hx29)) (.pl rfl)) rfl ?_
              refine WD.q (Y.loadR (enc := encMutexProcess) (v := .int .i64 x29.number) (a := x29) (idx := x13.k) (j := 3) Try.underlying3 rfl lenMutexProcess (i := 1) rfl (.pl rfl) (ix_get (hx29)) rfl rfl) rfl ?_
              refine WD.q (Y.assign (.pl rfl)) rfl ?_
              refine WD.next hR36 (.cons (i := 0) rfl (.cons (i := 1) rfl (.cons (i := 2) rfl (.cons (i := 9) rfl (.nil))))) ?_
              refine W.seq fun K37 hK37 => ?_
              -- region 22: mutex.go:100
              refine W.seqR fun Q38 hQ38 => ?_
              refine WL.q (Y.move (.pl rfl)) rfl ?_
              refine WL.q (Y.neq (.pl rfl) (.pl rfl)) rfl ?_
              refine WL.q (Y.move (.pl rfl)) rfl ?_
              refine WL.g (.pl rfl rfl rfl) (fun hg => Y.move (.pl rfl)) rfl ?_
              refine WL.g (.pl rfl rfl rfl) (fun hg => Y.move (.pl rfl)) rfl ?_
              refine WL.g (.pl rfl rfl rfl) (fun hg => Y.nilCheck (.gd (hg) rfl)) rfl ?_
              refine WL.g (.pl rfl rfl rfl) (fun hg => Y.rowField (off := 3) (ft := 3) Try.underlying167 rfl cells3 (i' := 1) rfl (ix_lt (hx13)) (.gd (hg) rfl)) rfl ?_
              refine WL.g (.pl rfl rfl rfl) (fun hg => Y.loadR (enc := encMutexProcess) (v := .int .i64 x13.number) (a := x13) (idx := ip12) (j := 3) Try.underlying3 rfl lenMutexProcess (i := 1) rfl (.gd (hg) rfl) (ix_get (hx13)) rfl rfl) rfl ?_
              refine WL.g (.pl rfl rfl rfl) (fun hg => Y.lss (.gd (hg) rfl) (.gd (hg) rfl)) rfl ?_
              refine WL.g (.pl rfl rfl rfl) (fun hg => Y.move (.gd (hg) rfl)) rfl ?_
              refine WL.g (.gd rfl rfl rfl) (fun hg => Y.move (.pl rfl)) rfl ?_
              refine WL.g (.gd rfl rfl rfl) (fun hg => Y.move (.pl rfl)) rfl ?_
              refine WL.g (.gd rfl rfl rfl) (fun hg => Y.nilCheck (.gd (hg) rfl)) rfl ?_
              refine WL.g (.gd rfl rfl rfl) (fun hg => Y.rowField (off := 3) (ft := 3) Try.underlying167 rfl cells3 (i' := 1) rfl (ix_lt (hx13)) (.gd (hg) rfl)) rfl ?_
              refine WL.g (.gd rfl rfl rfl) (fun hg => Y.loadR (enc := encMutexProcess) (v := .int .i64 x13.number) (a := x13) (idx := ip12) (j := 3) Try.underlying3 rfl lenMutexProcess (i := 1) rfl (.gd (hg) rfl) (ix_get (hx13)) rfl rfl) rfl ?_
              refine WL.g (.gd rfl rfl rfl) (fun hg => Y.eql (.gd (hg) rfl) (.gd (hg) rfl)) rfl ?_
              refine WL.g (.gd rfl rfl rfl) (fun hg => Y.move (.gd (hg) rfl)) rfl ?_
              refine WL.g (.gd rfl rfl rfl) (fun hg => Y.move (.pl rfl)) rfl ?_
              refine WL.g (.gd rfl rfl rfl) (fun hg => Y.nilCheck (.gd (hg) rfl)) rfl ?_
              refine WL.g (.gd rfl rfl rfl) (fun hg => Y.rowField (off := 4) (ft := 3) Try.underlying167 rfl cells3 (i' := 1) rfl (ix_lt (hx13)) (.gd (hg) rfl)) rfl ?_
              refine WL.g (.gd rfl rfl rfl) (fun hg => Y.loadR (enc := encMutexProcess) (v := .int .i64 x13.k) (a := x13) (idx := ip12) (j := 4) Try.underlying3 rfl lenMutexProcess (i := 1) rfl (.gd (hg) rfl) (ix_get (hx13)) rfl rfl) rfl ?_
              refine WL.g (.gd rfl rfl rfl) (fun hg => Y.move (.pl rfl)) rfl ?_
              refine WL.g (.gd rfl rfl rfl) (fun hg => Y.lss (.gd (hg) rfl) (.gd (hg) rfl)) rfl ?_
              refine WL.g (.gd rfl rfl rfl) (fun hg => Y.and (.gd (hg) rfl) (fun h2 => .gd (band hg (eqt h2)) rfl)) rfl ?_
              refine WL.g (.pl rfl rfl rfl) (fun hg => Y.or (.gd (hg) rfl) (fun h2 => .gd (band hg (eqf h2)) rfl)) rfl ?_
              refine WL.q (Y.and (.pl rfl) (fun h2 => .gd (eqt h2) rfl)) rfl ?_
              refine WL.next hQ38 (.cons (i := 0) rfl (.cons (i := 1) rfl (.cons (i := 2) rfl (.cons (i := 120) rfl (.nil))))) ?_
              refine W.cond (.pl rfl) (fun hC39 => ?_) (fun hC39 => ?_)
              · replace hF1 := cpos hC39 hF1
                obtain rfl := Option.some.inj hF1
                obtain rfl := Option.some.inj hF
                refine W.retV (fn := Try.f84) (vs := []) Try.results84 trivial (fun _ _ h => h) (fun w hw => ?_)
                exact hR _ _ ⟨(A8, c9), trivial, rfl, (hw.pickK 3 [0, 1, 2] rfl)⟩
              · replace hF1 := cneg hC39 hF1
                refine W.skip ?_
                refine W.go hK37 (.cons (i := 0) rfl (.cons (i := 1) rfl (.cons (i := 2) rfl (.nil)))) ?_
                -- region 23: mutex.go:103
                refine W.seqR fun Q40 hQ40 => ?_
                refine WL.q (Y.move (.pl rfl)) rfl ?_
                refine WL.q (Y.move (.pl rfl)) rfl ?_
                refine WL.q (Y.nilCheck (.pl rfl)) rfl ?_
                refine WL.q (Y.rowField (off := 4) (ft := 3) Try.underlying167 rfl cells3 (i' := 1) rfl (ix_lt (hx13)) (.pl rfl)) rfl ?_
                refine WL.q (Y.loadR (enc := encMutexProcess) (v := .int .i64 x13.k) (a := x13) (idx := ip12) (j := 4) Try.underlying3 rfl lenMutexProcess (i := 1) rfl (.pl rfl) (ix_get (hx13)) rfl rfl) rfl ?_
                obtain ⟨hk30, hF1⟩ := ckh hF1
                refine WL.q (Y.add (.pl rfl) (.pl rfl) (ok64_lt (hk30))) rfl ?_
                refine WL.q (Y.move (.pl rfl)) rfl ?_
                obtain ⟨r31, hr31, hF1⟩ := bnd hF1
                refine WL.step (WO.callP isGo114 (.cons (.pl rfl) (.cons (.pl rfl) (.nil))) rfl (fun w hw => mutex_other_ok (hr31) w ) ?_)
                refine WL.q (Y.nilCheck (.pl rfl)) rfl ?_
                refine WL.q (Y.rowField (off := 4) (ft := 3) Try.underlying167 rfl cells3 (i' := 1) rfl (ix_lt (hx13)) (.pl rfl)) rfl ?_
                refine WL.step (WO.storeS (enc := encMutexProcess) (a := x13) (a' := (MutexProcess.mk x13.step x13.left x13.flag x13.number r31)) (idx := ip12) (j := 4) cells3 (.pl rfl) (.pl rfl) rfl lenMutexProcess (i := 1) rfl (ix_get (hx13)) rfl (by decide) rfl ?_)
                refine WL.next hQ40 (.cons (i := 0) rfl (.cons (i := 2) rfl (.nil))) ?_
                -- region 24: mutex.go:104
                refine W.seqD (by kernel_rfl) (by kernel_rfl) fun R41 hR41 => ?_
                refine WD.q (Y.move (.pl rfl)) rfl ?_
                refine WD.q (Y.nilCheck (.pl rfl)) rfl ?_
                refine WD.q (Y.rowField (off := 4) (ft := 3) Try.underlying167 rfl cells3 (i' := 1) rfl (⟨(ix_lt (hx13)).1, by simpa only [List.length_set] using (ix_lt (hx13)).2⟩) (.pl rfl)) rfl ?_
                refine WD.q (Y.loadR (enc := encMutexProcess) (v := .int .i64 r31) (a := (MutexProcess.mk x13.step x13.left x13.flag x13.number r31)) (idx := ip12) (j := 4) Try.underlying3 rfl lenMutexProcess (i := 1) rfl (.pl rfl) (setget (ix_lt (hx13))) rfl rfl) rfl ?_
                refine WD.q (Y.move (.pl rfl)) rfl ?_
                refine WD.q (Y.nilCheck (.pl rfl)) rfl ?_
                refine WD.q (Y.fieldAddr0 (off := 0) (ft := 163) Try.underlying165 rfl cells163 (.pl rfl)) rfl ?_
                refine WD.q (Y.loadB (v := .slice A2 (people4).length c3) Try.underlying163 rfl (.pl rfl) (i := 0) rfl (rfl)) rfl ?_
                refine WD.q (Y.len Try.underlying163 (.pl rfl)) rfl ?_
                refine WD.q (Y.lss (.pl rfl) (.pl rfl)) rfl ?_
                refine WD.next hR41 (.cons (i := 2) rfl (.cons (i := 140) rfl (.nil))) ?_
                refine W.cond (.pl rfl) (fun hC42 => ?_) (fun hC42 => ?_)
                · replace hF1 := cpos hC42 hF1
                  -- region 25: mutex.go:105
                  refine W.seqR fun Q43 hQ43 => ?_
                  refine WL.q (Y.move (.pl rfl)) rfl ?_
                  refine WL.q (Y.nilCheck (.pl rfl)) rfl ?_
                  refine WL.q (Y.rowField (off := 0) (ft := 3) Try.underlying167 rfl cells3 (i' := 1) rfl (⟨(ix_lt (hx13)).1, by simpa only [List.length_set] using (ix_lt (hx13)).2⟩) (.pl rfl)) rfl ?_
                  refine WL.step (WO.storeFS (enc := encMutexProcess) (a := (MutexProcess.mk x13.step x13.left x13.flag x13.number r31)) (a' := (MutexProcess.mk 3 x13.left x13.flag x13.number r31)) (idx := ip12) (j := 0) cells3 (.pl rfl) (.pl rfl) rfl lenMutexProcess (i := 1) rfl (ix_lt (hx13)) rfl (by decide) rfl ?_)
                  refine WL.next hQ43 (.nil) ?_
                  obtain rfl := Option.some.inj hF1
                  obtain rfl := Option.some.inj hF
                  refine W.retV (fn := Try.f84) (vs := []) Try.results84 trivial (fun _ _ h => h) (fun w hw => ?_)
                  exact hR _ _ ⟨(A8, c9), trivial, rfl, (St.cong (L := ([cBx b1 165 (.slice A2 (people4).length c3 :: (.int .i64 turn5 :: (.int .i64 in6 :: (.int .i64 most7 :: (.slice A8 (gates10).length c9 :: []))))), cR encMutexProcess 5 A2 c3 167 (people4.set ip12.toNat (MutexProcess.mk 3 x13.left x13.flag x13.number r31)), cR encGate 2 A8 c9 172 gates10] ++ T)) (hw.pickK 3 [0, 1, 2] rfl) (by simp only [List.length_set, List.nil_append, List.cons_append]))⟩
                · replace hF1 := cneg hC42 hF1
                  refine W.skip ?_
                  exact W.joinAt6 hK2 (people4.set ip12.toNat (MutexProcess.mk x13.step x13.left x13.flag x13.number r31)) in6 most7 gates10 A8 c9 (Option.some.inj hF1) (.nil) (.cons (i := 2) rfl (.nil)) (fun w hw => St.cong (L := ([cBx b1 165 (.slice A2 (people4).length c3 :: (.int .i64 turn5 :: (.int .i64 in6 :: (.int .i64 most7 :: (.slice A8 (gates10).length c9 :: []))))), cR encMutexProcess 5 A2 c3 167 (people4.set ip12.toNat (MutexProcess.mk x13.step x13.left x13.flag x13.number r31)), cR encGate 2 A8 c9 172 gates10] ++ T)) (hw.pickK 3 [0, 1, 2] rfl) (by simp only [List.length_set, List.nil_append, List.cons_append]))
            · replace hF1 := cneg hC35 hF1
              -- region 26: mutex.go:108
              refine W.seqR fun Q44 hQ44 => ?_
              refine WL.q (Y.eql (.pl rfl) (.pl rfl)) rfl ?_
              refine WL.q (Y.assign (.pl rfl)) rfl ?_
              refine WL.next hQ44 (.cons (i := 0) rfl (.cons (i := 1) rfl (.cons (i := 2) rfl (.cons (i := 13) rfl (.cons (i := 144) rfl (.nil)))))) ?_
              refine W.cond (.pl rfl) (fun hC45 => ?_) (fun hC45 => ?_)
              · replace hF1 := cpos hC45 hF1
                -- region 27: mutex.go:109
                refine W.reg ?_
                refine WL.q (Y.move (.pl rfl)) rfl ?_
                refine WL.q (Y.move (.pl rfl)) rfl ?_
                obtain ⟨r32, hr32, hF1⟩ := bnd hF1
                refine WL.step (WO.call (γ := (Option Addr × Nat)) (fun g => .tuple #[]) (fun g => ([cBx b1 165 (.slice A2 (people4).length c3 :: (.int .i64 turn5 :: (.int .i64 (in6 + 1) :: (.int .i64 (max most7 (in6 + 1)) :: (.slice g.1 ((gates10 ++ ([(Gate.mk who11 true)] : List Gate))).length g.2 :: []))))), cR encMutexProcess 5 A2 c3 167 people4, cR encGate 2 g.1 g.2 172 (gates10 ++ ([(Gate.mk who11 true)] : List Gate))] ++ T)) (fun _ => True) isGo111 (.cons (.pl rfl) (.cons (.pl rfl) (.nil))) rfl (fun w hw => mutex_machine_enter_ok (T := ([] ++ T)) (hr32) (hw.pickK 3 [0, 1, 2] rfl) ) ?_)
                rintro ⟨A33, c34⟩ -
                refine WL.nil ?_
                exact W.joinAt6 hK2 people4 (in6 + 1) (max most7 (in6 + 1)) (gates10 ++ ([(Gate.mk who11 true)] : List Gate)) A33 c34 (Option.some.inj hF1) (.nil) (.cons (i := 2) rfl (.nil)) (fun w hw => hw.pickK 3 [0, 1, 2] rfl)
              · replace hF1 := cneg hC45 hF1
                -- region 28: mutex.go:110
                refine W.seqR fun Q47 hQ47 => ?_
                refine WL.q (Y.eql (.pl rfl) (.pl rfl)) rfl ?_
                refine WL.q (Y.assign (.pl rfl)) rfl ?_
                refine WL.next hQ47 (.cons (i := 0) rfl (.cons (i := 1) rfl (.cons (i := 2) rfl (.cons (i := 149) rfl (.nil))))) ?_
                refine W.cond (.pl rfl) (fun hC48 => ?_) (fun hC48 => ?_)
                · replace hF1 := cpos hC48 hF1
                  -- region 29: mutex.go:111
                  refine W.reg ?_
                  refine WL.q (Y.move (.pl rfl)) rfl ?_
                  refine WL.q (Y.move (.pl rfl)) rfl ?_
                  obtain ⟨r35, hr35, hF1⟩ := bnd hF1
                  refine WL.step (WO.call (γ := (Option Addr × Nat)) (fun g => .tuple #[]) (fun g => ([cBx b1 165 (.slice A2 (people4).length c3 :: (.int .i64 turn5 :: (.int .i64 (in6 - 1) :: (.int .i64 most7 :: (.slice g.1 ((gates10 ++ ([(Gate.mk who11 false)] : List Gate))).length g.2 :: []))))), cR encMutexProcess 5 A2 c3 167 people4, cR encGate 2 g.1 g.2 172 (gates10 ++ ([(Gate.mk who11 false)] : List Gate))] ++ T)) (fun _ => True) isGo112 (.cons (.pl rfl) (.cons (.pl rfl) (.nil))) rfl (fun w hw => mutex_machine_exit_ok (T := ([] ++ T)) (hr35) (hw.pickK 3 [0, 1, 2] rfl) ) ?_)
                  rintro ⟨A36, c37⟩ -
                  refine WL.nil ?_
                  exact W.joinAt6 hK2 people4 (in6 - 1) most7 (gates10 ++ ([(Gate.mk who11 false)] : List Gate)) A36 c37 (Option.some.inj hF1) (.nil) (.cons (i := 2) rfl (.nil)) (fun w hw => hw.pickK 3 [0, 1, 2] rfl)
                · replace hF1 := cneg hC48 hF1
                  -- region 1: mutex.go:113
                  refine W.seqR fun Q50 hQ50 => ?_
                  refine WL.q (Y.move (.pl rfl)) rfl ?_
                  refine WL.q (Y.nilCheck (.pl rfl)) rfl ?_
                  refine WL.q (Y.rowField (off := 3) (ft := 3) Try.underlying167 rfl cells3 (i' := 1) rfl (ix_lt (hx13)) (.pl rfl)) rfl ?_
                  refine WL.step (WO.storeS (enc := encMutexProcess) (a := x13) (a' := (MutexProcess.mk x13.step x13.left x13.flag 0 x13.k)) (idx := ip12) (j := 3) cells3 (.pl rfl) (.pl rfl) rfl lenMutexProcess (i := 1) rfl (ix_get (hx13)) rfl (by decide) rfl ?_)
                  refine WL.next hQ50 (.cons (i := 0) rfl (.cons (i := 2) rfl (.nil))) ?_
                  -- region 2: mutex.go:114
                  refine W.seqR fun Q51 hQ51 => ?_
                  refine WL.q (Y.move (.pl rfl)) rfl ?_
                  refine WL.q (Y.move (.pl rfl)) rfl ?_
                  obtain ⟨r38, hr38, hF1⟩ := bnd hF1
                  refine WL.step (WO.call (γ := Unit) (fun g => .tuple #[]) (fun g => ([cBx b1 165 (.slice A2 (r38).length c3 :: (.int .i64 turn5 :: (.int .i64 in6 :: (.int .i64 most7 :: (.slice A8 (gates10).length c9 :: []))))), cR encMutexProcess 5 A2 c3 167 r38, cR encGate 2 A8 c9 172 gates10] ++ T)) (fun _ => True) isGo113 (.cons (.pl rfl) (.cons (.pl rfl) (.nil))) rfl (fun w hw => mutex_machine_end_ok (T := ([] ++ T)) (hr38) (St.cong (L := ([cBx b1 165 (.slice A2 (people4).length c3 :: (.int .i64 turn5 :: (.int .i64 in6 :: (.int .i64 most7 :: (.slice A8 (gates10).length c9 :: []))))), cR encMutexProcess 5 A2 c3 167 (people4.set ip12.toNat (MutexProcess.mk x13.step x13.left x13.flag 0 x13.k)), cR encGate 2 A8 c9 172 gates10] ++ T)) (hw.pickK 3 [0, 1, 2] rfl) (by simp only [List.length_set, List.nil_append, List.cons_append])) ) ?_)
                  rintro _ -
                  refine WL.next hQ51 (.nil) ?_
                  obtain rfl := Option.some.inj hF1
                  obtain rfl := Option.some.inj hF
                  refine W.retV (fn := Try.f84) (vs := []) Try.results84 trivial (fun _ _ h => h) (fun w hw => ?_)
                  exact hR _ _ ⟨(A8, c9), trivial, rfl, (hw.pickK 3 [0, 1, 2] rfl)⟩
  · -- behind
    rintro people14 in15 most16 gates19 A17 c18 rfl
    -- region 30: mutex.go:117
    refine W.reg ?_
    refine WL.q (Y.move (.pl rfl)) rfl ?_
    refine WL.q (Y.nilCheck (.pl rfl)) rfl ?_
    obtain ⟨x39, hx39, hF⟩ := bnd hF
    refine WL.q (Y.rowField (off := 0) (ft := 3) Try.underlying167 rfl cells3 (i' := 1) rfl (ix_lt (hx39)) (.pl rfl)) rfl ?_
    refine WL.q (Y.loadR (enc := encMutexProcess) (v := .int .i64 x39.step) (a := x39) (idx := ip12) (j := 0) Try.underlying3 rfl lenMutexProcess (i := 1) rfl (.pl rfl) (ix_get (hx39)) rfl rfl) rfl ?_
    obtain ⟨hk40, hF⟩ := ckh hF
    refine WL.q (Y.add (.pl rfl) (.pl rfl) (ok64_lt (hk40))) rfl ?_
    refine WL.q (Y.nilCheck (.pl rfl)) rfl ?_
    obtain ⟨x41, hx41, hF⟩ := bnd hF
    refine WL.q (Y.rowField (off := 0) (ft := 3) Try.underlying167 rfl cells3 (i' := 1) rfl (ix_lt (hx41)) (.pl rfl)) rfl ?_
    refine WL.step (WO.storeS (enc := encMutexProcess) (a := x41) (a' := (MutexProcess.mk (x39.step + 1) x41.left x41.flag x41.number x41.k)) (idx := ip12) (j := 0) cells3 (.pl rfl) (.pl rfl) rfl lenMutexProcess (i := 1) rfl (ix_get (hx41)) rfl (by decide) rfl ?_)
    refine WL.nil ?_
    obtain rfl := Option.some.inj hF
    refine W.endV (fn := Try.f84) (vs := []) Try.results84 trivial (fun _ _ h => h) (fun w hw => ?_)
    exact hR _ _ ⟨(A17, c18), trivial, rfl, (St.cong (L := ([cBx b1 165 (.slice A2 (people14).length c3 :: (.int .i64 turn5 :: (.int .i64 in15 :: (.int .i64 most16 :: (.slice A17 (gates19).length c18 :: []))))), cR encMutexProcess 5 A2 c3 167 (people14.set ip12.toNat (MutexProcess.mk (x39.step + 1) x41.left x41.flag x41.number x41.k)), cR encGate 2 A17 c18 172 gates19] ++ T)) (hw.pickK 3 [0, 1, 2] rfl) (by simp only [List.length_set, List.nil_append, List.cons_append]))⟩

def mutex_machine_naive_L3 (N : Nat) (people4 : (List MutexProcess)) (who11 : Int) (in6 : Int) (most7 : Int) (gates10 : (List Gate)) : Int → Option (Int ⊕ (((List MutexProcess) × Int × Int × (List Gate)) ⊕ ((List MutexProcess) × Int × Int × (List Gate))))
  | v20 =>
    cond (decide (v20 < ((people4).length : Int)))
      (bd (ix people4 v20) fun (x21 : MutexProcess) =>
      cond ((!(decide (v20 = who11))) && x21.flag)
        (some (.inr (.inr (people4, in6, most7, gates10))))
        (ck (ok64 (v20 + 1)) <|
        some (.inl (v20 + 1))))
      (some (.inr (.inl (people4, in6, most7, gates10))))

def mutex_machine_naive (N : Nat) (people4 : (List MutexProcess)) (turn5 : Int) (in6 : Int) (most7 : Int) (gates10 : (List Gate)) (who11 : Int) (ip12 : Int) : Option ((List MutexProcess) × Int × Int × (List Gate)) :=
  bd (ix people4 ip12) fun (x13 : MutexProcess) =>
  bd (α := (((List MutexProcess) × Int × Int × (List Gate)) ⊕ ((List MutexProcess) × Int × Int × (List Gate)))) (cond (decide (x13.step = 0))
      (iter (mutex_machine_naive_L3 N people4 who11 in6 most7 gates10) N 0)
      (cond (decide (x13.step = 1))
        (some (.inl ((people4.set ip12.toNat (MutexProcess.mk x13.step x13.left true x13.number x13.k)), in6, most7, gates10)))
        (cond (decide (x13.step = 2))
          (bd (mutex_machine_enter N people4 turn5 in6 most7 gates10 who11) fun (r24 : Unit) =>
          some (.inl (people4, (in6 + 1), (max most7 (in6 + 1)), (gates10 ++ ([(Gate.mk who11 true)] : List Gate)))))
          (cond (decide (x13.step = 3))
            (bd (mutex_machine_exit N people4 turn5 in6 most7 gates10 who11) fun (r27 : Unit) =>
            some (.inl (people4, (in6 - 1), most7, (gates10 ++ ([(Gate.mk who11 false)] : List Gate)))))
            (bd (mutex_machine_end N (people4.set ip12.toNat (MutexProcess.mk x13.step x13.left false x13.number x13.k)) turn5 in6 most7 gates10 ip12) fun (r30 : (List MutexProcess)) =>
            some (.inr (r30, in6, most7, gates10))))))) <|
  Sum.elim (fun (people14, in15, most16, gates19) => 
    bd (ix people14 ip12) fun (x31 : MutexProcess) =>
    ck (ok64 (x31.step + 1)) <|
    bd (ix people14 ip12) fun (x33 : MutexProcess) =>
    some ((people14.set ip12.toNat (MutexProcess.mk (x31.step + 1) x33.left x33.flag x33.number x33.k)), in15, most16, gates19)) (fun p => some p)

theorem mutex_machine_naive_ok {N : Nat} {people4 : (List MutexProcess)} {turn5 : Int} {in6 : Int} {most7 : Int} {gates10 : (List Gate)} {who11 : Int} {ip12 : Int} {b1 : Nat} {A2 : Option Addr} {c3 : Nat} {A8 : Option Addr} {c9 : Nat} {res : ((List MutexProcess) × Int × Int × (List Gate))} (hF : mutex_machine_naive N people4 turn5 in6 most7 gates10 who11 ip12 = some res) {w0 w : World} {T : List Chunk} (hw : St w0.heap.size w0 ([cBx b1 165 (.slice A2 (people4).length c3 :: (.int .i64 turn5 :: (.int .i64 in6 :: (.int .i64 most7 :: (.slice A8 (gates10).length c9 :: []))))), cR encMutexProcess 5 A2 c3 167 people4, cR encGate 2 A8 c9 172 gates10] ++ T) w) :
    Calls Try.prog 85 (List.toArray [.pointer (some ⟨b1, 0, none⟩), .int .i64 who11, .pointer (some (elA A2 (ip12.toNat * (4 + 1))))]) w (fun e w' => ∃ g : (Option Addr × Nat), True ∧ e = .returned (.tuple #[]) ∧ St w0.heap.size w0 ([cBx b1 165 (.slice A2 (res.1).length c3 :: (.int .i64 turn5 :: (.int .i64 res.2.1 :: (.int .i64 res.2.2.1 :: (.slice g.1 (res.2.2.2).length g.2 :: []))))), cR encMutexProcess 5 A2 c3 167 res.1, cR encGate 2 g.1 g.2 172 res.2.2.2] ++ T) w') := by
  refine W.enter (n := 60) Try.func85 rfl rfl Sub.refl (by simp) hw fun R hR => ?_
  unfold mutex_machine_naive at hF
  obtain ⟨x13, hx13, hF⟩ := bnd hF
  obtain ⟨o1, hF1, hF⟩ := bnd hF
  refine W.join6 (Em := fun (people14 : (List MutexProcess)) (in15 : Int) (most16 : Int) (gates19 : (List Gate)) (A17 : Option Addr) (c18 : Nat) => []) (M := fun people14 in15 most16 gates19 A17 c18 => ([cBx b1 165 (.slice A2 (people14).length c3 :: (.int .i64 turn5 :: (.int .i64 in15 :: (.int .i64 most16 :: (.slice A17 (gates19).length c18 :: []))))), cR encMutexProcess 5 A2 c3 167 people14, cR encGate 2 A17 c18 172 gates19] ++ T)) (I := fun people14 in15 most16 gates19 A17 c18 => (.inl (people14, in15, most16, gates19)) = o1) (.cons (i := 2) rfl (.nil)) (fun K2 hK2 => ?_) ?_
  · -- up to
    -- region 0: mutex.go:121
    refine W.seqR fun Q3 hQ3 => ?_
    refine WL.q (Y.move (.pl rfl)) rfl ?_
    refine WL.q (Y.nilCheck (.pl rfl)) rfl ?_
    refine WL.q (Y.rowField (off := 0) (ft := 3) Try.underlying167 rfl cells3 (i' := 1) rfl (ix_lt (hx13)) (.pl rfl)) rfl ?_
    refine WL.q (Y.loadR (enc := encMutexProcess) (v := .int .i64 x13.step) (a := x13) (idx := ip12) (j := 0) Try.underlying3 rfl lenMutexProcess (i := 1) rfl (.pl rfl) (ix_get (hx13)) rfl rfl) rfl ?_
    refine WL.next hQ3 (.cons (i := 0) rfl (.cons (i := 1) rfl (.cons (i := 2) rfl (.cons (i := 11) rfl (.nil))))) ?_
    refine W.block ?_
    -- region 3: mutex.go:122
    refine W.seqR fun Q4 hQ4 => ?_
    refine WL.q (Y.eql (.pl rfl) (.pl rfl)) rfl ?_
    refine WL.q (Y.assign (.pl rfl)) rfl ?_
    refine WL.next hQ4 (.cons (i := 0) rfl (.cons (i := 1) rfl (.cons (i := 2) rfl (.cons (i := 11) rfl (.cons (i := 18) rfl (.nil)))))) ?_
    refine W.cond (.pl rfl) (fun hC5 => ?_) (fun hC5 => ?_)
    · replace hF1 := cpos hC5 hF1
      -- region 4: mutex.go:123
      refine W.seqR fun Q6 hQ6 => ?_
      refine WL.q (Y.move (.pl rfl)) rfl ?_
      refine WL.q (Y.nilCheck (.pl rfl)) rfl ?_
      refine WL.q (Y.fieldAddr0 (off := 0) (ft := 163) Try.underlying165 rfl cells163 (.pl rfl)) rfl ?_
      refine WL.q (Y.loadB (v := .slice A2 (people4).length c3) Try.underlying163 rfl (.pl rfl) (i := 0) rfl (rfl)) rfl ?_
      refine WL.q (Y.len Try.underlying163 (.pl rfl)) rfl ?_
      refine WL.q (Y.move (.pl rfl)) rfl ?_
      refine WL.next hQ6 (.cons (i := 1) rfl (.cons (i := 2) rfl (.cons (i := 23) rfl (.cons (i := 24) rfl (.cons (i := 25) rfl (.nil)))))) ?_
      refine W.block ?_
      refine W.loop1 (Em := fun (v20 : Int) => [(25, .int .i64 v20)]) (M := fun v20 => ([cBx b1 165 (.slice A2 (people4).length c3 :: (.int .i64 turn5 :: (.int .i64 in6 :: (.int .i64 most7 :: (.slice A8 (gates10).length c9 :: []))))), cR encMutexProcess 5 A2 c3 167 people4, cR encGate 2 A8 c9 172 gates10] ++ T)) (I := fun v20 k7 => iter (mutex_machine_naive_L3 N people4 who11 in6 most7 gates10) k7 v20 = some o1) 0 N (hF1) (.cons rfl (.nil)) (.cons (i := 1) rfl (.cons (i := 2) rfl (.cons (i := 23) rfl (.cons (i := 24) rfl (.nil))))) (fun w hw => hw.pickK 3 [0, 1, 2] rfl) (fun v20 k7 hI K8 hK8 => ?_)
      obtain ⟨k7, t7, rfl, hF7, hN7⟩ := iter_step hI
      -- region 5: mutex.go:123
      refine W.seqR fun Q9 hQ9 => ?_
      refine WL.q (Y.lss (.pl rfl) (.pl rfl)) rfl ?_
      refine WL.next hQ9 (.cons (i := 1) rfl (.cons (i := 2) rfl (.cons (i := 23) rfl (.cons (i := 24) rfl (.cons (i := 25) rfl (.cons (i := 26) rfl (.nil))))))) ?_
      refine W.seq fun K10 hK10 => ?_
      refine W.cond (.pl rfl) (fun hC11 => ?_) (fun hC11 => ?_)
      · replace hF7 := cpos hC11 hF7
        refine W.skip ?_
        refine W.go hK10 (.cons (i := 1) rfl (.cons (i := 2) rfl (.cons (i := 23) rfl (.cons (i := 24) rfl (.cons (i := 25) rfl (.nil)))))) ?_
        refine W.seq fun K12 hK12 => ?_
        refine W.block ?_
        -- region 6: mutex.go:123
        refine W.seqR fun Q13 hQ13 => ?_
        refine WL.q (Y.move (.pl rfl)) rfl ?_
        obtain ⟨x21, hx21, hF7⟩ := bnd hF7
        refine WL.q (Y.rowEl Try.underlying163 cells167 (i := 1) rfl (.pl rfl) rfl (.pl rfl) (ix_lt (hx21))) rfl ?_
        refine WL.q (Y.loadRA (enc := encMutexProcess) (ds := (encMutexProcess x21)) (a := x21) (idx := v20) (j := 0) Try.underlying167 rfl cells167 lenMutexProcess (i := 1) rfl (.pl rfl) (ix_get (hx21)) rfl rfl subW) rfl ?_
        refine WL.step (WO.alloc (cs := (encMutexProcess (MutexProcess.mk 0 0 false 0 0)).toArray) zero167 rfl rfl fun b22 => ?_)
        refine WL.q (Y.assign (.pl rfl)) rfl ?_
        refine WL.step (WO.storeBA (ds := (encMutexProcess x21)) (cs' := (encMutexProcess x21)) cells167 (.pl rfl) (.pl rfl) rfl (oneMutexProcess _) (i := 0) rfl (lel (o := 0) (l := 5) (m := 5) (by decide) rfl rfl) (putW rfl) ?_)
        refine WL.next hQ13 (.cons (i := 1) rfl (.cons (i := 2) rfl (.cons (i := 6) rfl (.cons (i := 7) rfl (.cons (i := 23) rfl (.cons (i := 24) rfl (.cons (i := 25) rfl (.nil)))))))) ?_
        -- region 7: mutex.go:124
        refine W.seqR fun Q14 hQ14 => ?_
        refine WL.q (Y.move (.pl rfl)) rfl ?_
        refine WL.q (Y.move (.pl rfl)) rfl ?_
        refine WL.q (Y.neq (.pl rfl) (.pl rfl)) rfl ?_
        refine WL.q (Y.move (.pl rfl)) rfl ?_
        refine WL.g (.pl rfl rfl rfl) (fun hg => Y.fieldAddr0 (off := 2) (ft := 4) Try.underlying167 rfl cells4 (.pl rfl)) rfl ?_
        refine WL.g (.pl rfl rfl rfl) (fun hg => Y.loadB (v := .bool x21.flag) Try.underlying4 rfl (.gd (hg) rfl) (i := 0) rfl (rfl)) rfl ?_
        refine WL.q (Y.and (.pl rfl) (fun h2 => .gd (eqt h2) rfl)) rfl ?_
        refine WL.next hQ14 (.cons (i := 1) rfl (.cons (i := 2) rfl (.cons (i := 23) rfl (.cons (i := 24) rfl (.cons (i := 25) rfl (.cons (i := 36) rfl (.nil))))))) ?_
        refine W.cond (.pl rfl) (fun hC15 => ?_) (fun hC15 => ?_)
        · replace hF7 := cpos hC15 hF7
          obtain rfl := Option.some.inj hF7
          obtain rfl := einr hN7
          obtain rfl := Option.some.inj hF
          refine W.retV (fn := Try.f85) (vs := []) Try.results85 trivial (fun _ _ h => h) (fun w hw => ?_)
          exact hR _ _ ⟨(A8, c9), trivial, rfl, (hw.pickK 4 [1, 2, 3] rfl)⟩
        · replace hF7 := cneg hC15 hF7
          refine W.skip ?_
          refine W.go hK12 (.cons (i := 1) rfl (.cons (i := 2) rfl (.cons (i := 23) rfl (.cons (i := 24) rfl (.cons (i := 25) rfl (.nil)))))) ?_
          -- region 8: mutex.go:123
          refine W.reg ?_
          obtain ⟨hk23, hF7⟩ := ckh hF7
          refine WL.q (Y.add (.pl rfl) (.pl rfl) (ok64_lt (hk23))) rfl ?_
          refine WL.q (Y.move (.pl rfl)) rfl ?_
          refine WL.nil ?_
          obtain rfl := Option.some.inj hF7
          exact W.again1 hK8 (v20 + 1) k7 hN7 (Nat.lt_succ_self _) (.cons rfl (.nil)) (.cons (i := 1) rfl (.cons (i := 2) rfl (.cons (i := 23) rfl (.cons (i := 24) rfl (.nil))))) (fun w hw => hw.pickK 4 [1, 2, 3] rfl)
      · replace hF7 := cneg hC11 hF7
        refine W.exit ?_
        obtain rfl := Option.some.inj hF7
        exact W.joinAt6 hK2 people4 in6 most7 gates10 A8 c9 (einr hN7) (.nil) (.cons (i := 2) rfl (.nil)) (fun w hw => hw.pickK 3 [0, 1, 2] rfl)
    · replace hF1 := cneg hC5 hF1
      -- region 9: mutex.go:128
      refine W.seqR fun Q17 hQ17 => ?_
      refine WL.q (Y.eql (.pl rfl) (.pl rfl)) rfl ?_
      refine WL.q (Y.assign (.pl rfl)) rfl ?_
      refine WL.next hQ17 (.cons (i := 0) rfl (.cons (i := 1) rfl (.cons (i := 2) rfl (.cons (i := 11) rfl (.cons (i := 38) rfl (.nil)))))) ?_
      refine W.cond (.pl rfl) (fun hC18 => ?_) (fun hC18 => ?_)
      · replace hF1 := cpos hC18 hF1
        -- region 10: mutex.go:129
        refine W.reg ?_
        refine WL.q (Y.move (.pl rfl)) rfl ?_
        refine WL.q (Y.nilCheck (.pl rfl)) rfl ?_
        refine WL.q (Y.rowField (off := 2) (ft := 4) Try.underlying167 rfl cells4 (i' := 1) rfl (ix_lt (hx13)) (.pl rfl)) rfl ?_
        refine WL.step (WO.storeS (enc := encMutexProcess) (a := x13) (a' := (MutexProcess.mk x13.step x13.left true x13.number x13.k)) (idx := ip12) (j := 2) cells4 (.pl rfl) (.pl rfl) rfl lenMutexProcess (i := 1) rfl (ix_get (hx13)) rfl (by decide) rfl ?_)
        refine WL.nil ?_
        exact W.joinAt6 hK2 (people4.set ip12.toNat (MutexProcess.mk x13.step x13.left true x13.number x13.k)) in6 most7 gates10 A8 c9 (Option.some.inj hF1) (.nil) (.cons (i := 2) rfl (.nil)) (fun w hw => St.cong (L := ([cBx b1 165 (.slice A2 (people4).length c3 :: (.int .i64 turn5 :: (.int .i64 in6 :: (.int .i64 most7 :: (.slice A8 (gates10).length c9 :: []))))), cR encMutexProcess 5 A2 c3 167 (people4.set ip12.toNat (MutexProcess.mk x13.step x13.left true x13.number x13.k)), cR encGate 2 A8 c9 172 gates10] ++ T)) (hw.pickK 3 [0, 1, 2] rfl) (by simp only [List.length_set, List.nil_append, List.cons_append]))
      · replace hF1 := cneg hC18 hF1
        -- region 11: mutex.go:130
        refine W.seqR fun Q20 hQ20 => ?_
        refine WL.q (Y.eql (.pl rfl) (.pl rfl)) rfl ?_
        refine WL.q (Y.assign (.pl rfl)) rfl ?_
        refine WL.next hQ20 (.cons (i := 0) rfl (.cons (i := 1) rfl (.cons (i := 2) rfl (.cons (i := 11) rfl (.cons (i := 43) rfl (.nil)))))) ?_
        refine W.cond (.pl rfl) (fun hC21 => ?_) (fun hC21 => ?_)
        · replace hF1 := cpos hC21 hF1
          -- region 12: mutex.go:131
          refine W.reg ?_
          refine WL.q (Y.move (.pl rfl)) rfl ?_
          refine WL.q (Y.move (.pl rfl)) rfl ?_
          obtain ⟨r24, hr24, hF1⟩ := bnd hF1
          refine WL.step (WO.call (γ := (Option Addr × Nat)) (fun g => .tuple #[]) (fun g => ([cBx b1 165 (.slice A2 (people4).length c3 :: (.int .i64 turn5 :: (.int .i64 (in6 + 1) :: (.int .i64 (max most7 (in6 + 1)) :: (.slice g.1 ((gates10 ++ ([(Gate.mk who11 true)] : List Gate))).length g.2 :: []))))), cR encMutexProcess 5 A2 c3 167 people4, cR encGate 2 g.1 g.2 172 (gates10 ++ ([(Gate.mk who11 true)] : List Gate))] ++ T)) (fun _ => True) isGo111 (.cons (.pl rfl) (.cons (.pl rfl) (.nil))) rfl (fun w hw => mutex_machine_enter_ok (T := ([] ++ T)) (hr24) (hw.pickK 3 [0, 1, 2] rfl) ) ?_)
          rintro ⟨A25, c26⟩ -
          refine WL.nil ?_
          exact W.joinAt6 hK2 people4 (in6 + 1) (max most7 (in6 + 1)) (gates10 ++ ([(Gate.mk who11 true)] : List Gate)) A25 c26 (Option.some.inj hF1) (.nil) (.cons (i := 2) rfl (.nil)) (fun w hw => hw.pickK 3 [0, 1, 2] rfl)
        · replace hF1 := cneg hC21 hF1
          -- region 13: mutex.go:132
          refine W.seqR fun Q23 hQ23 => ?_
          refine WL.q (Y.eql (.pl rfl) (.pl rfl)) rfl ?_
          refine WL.q (Y.assign (.pl rfl)) rfl ?_
          refine WL.next hQ23 (.cons (i := 0) rfl (.cons (i := 1) rfl (.cons (i := 2) rfl (.cons (i := 48) rfl (.nil))))) ?_
          refine W.cond (.pl rfl) (fun hC24 => ?_) (fun hC24 => ?_)
          · replace hF1 := cpos hC24 hF1
            -- region 14: mutex.go:133
            refine W.reg ?_
            refine WL.q (Y.move (.pl rfl)) rfl ?_
            refine WL.q (Y.move (.pl rfl)) rfl ?_
            obtain ⟨r27, hr27, hF1⟩ := bnd hF1
            refine WL.step (WO.call (γ := (Option Addr × Nat)) (fun g => .tuple #[]) (fun g => ([cBx b1 165 (.slice A2 (people4).length c3 :: (.int .i64 turn5 :: (.int .i64 (in6 - 1) :: (.int .i64 most7 :: (.slice g.1 ((gates10 ++ ([(Gate.mk who11 false)] : List Gate))).length g.2 :: []))))), cR encMutexProcess 5 A2 c3 167 people4, cR encGate 2 g.1 g.2 172 (gates10 ++ ([(Gate.mk who11 false)] : List Gate))] ++ T)) (fun _ => True) isGo112 (.cons (.pl rfl) (.cons (.pl rfl) (.nil))) rfl (fun w hw => mutex_machine_exit_ok (T := ([] ++ T)) (hr27) (hw.pickK 3 [0, 1, 2] rfl) ) ?_)
            rintro ⟨A28, c29⟩ -
            refine WL.nil ?_
            exact W.joinAt6 hK2 people4 (in6 - 1) most7 (gates10 ++ ([(Gate.mk who11 false)] : List Gate)) A28 c29 (Option.some.inj hF1) (.nil) (.cons (i := 2) rfl (.nil)) (fun w hw => hw.pickK 3 [0, 1, 2] rfl)
          · replace hF1 := cneg hC24 hF1
            -- region 1: mutex.go:135
            refine W.seqR fun Q26 hQ26 => ?_
            refine WL.q (Y.move (.pl rfl)) rfl ?_
            refine WL.q (Y.nilCheck (.pl rfl)) rfl ?_
            refine WL.q (Y.rowField (off := 2) (ft := 4) Try.underlying167 rfl cells4 (i' := 1) rfl (ix_lt (hx13)) (.pl rfl)) rfl ?_
            refine WL.step (WO.storeS (enc := encMutexProcess) (a := x13) (a' := (MutexProcess.mk x13.step x13.left false x13.number x13.k)) (idx := ip12) (j := 2) cells4 (.pl rfl) (.pl rfl) rfl lenMutexProcess (i := 1) rfl (ix_get (hx13)) rfl (by decide) rfl ?_)
            refine WL.next hQ26 (.cons (i := 0) rfl (.cons (i := 2) rfl (.nil))) ?_
            -- region 2: mutex.go:136
            refine W.seqR fun Q27 hQ27 => ?_
            refine WL.q (Y.move (.pl rfl)) rfl ?_
            refine WL.q (Y.move (.pl rfl)) rfl ?_
            obtain ⟨r30, hr30, hF1⟩ := bnd hF1
            refine WL.step (WO.call (γ := Unit) (fun g => .tuple #[]) (fun g => ([cBx b1 165 (.slice A2 (r30).length c3 :: (.int .i64 turn5 :: (.int .i64 in6 :: (.int .i64 most7 :: (.slice A8 (gates10).length c9 :: []))))), cR encMutexProcess 5 A2 c3 167 r30, cR encGate 2 A8 c9 172 gates10] ++ T)) (fun _ => True) isGo113 (.cons (.pl rfl) (.cons (.pl rfl) (.nil))) rfl (fun w hw => mutex_machine_end_ok (T := ([] ++ T)) (hr30) (St.cong (L := ([cBx b1 165 (.slice A2 (people4).length c3 :: (.int .i64 turn5 :: (.int .i64 in6 :: (.int .i64 most7 :: (.slice A8 (gates10).length c9 :: []))))), cR encMutexProcess 5 A2 c3 167 (people4.set ip12.toNat (MutexProcess.mk x13.step x13.left false x13.number x13.k)), cR encGate 2 A8 c9 172 gates10] ++ T)) (hw.pickK 3 [0, 1, 2] rfl) (by simp only [List.length_set, List.nil_append, List.cons_append])) ) ?_)
            rintro _ -
            refine WL.next hQ27 (.nil) ?_
            obtain rfl := Option.some.inj hF1
            obtain rfl := Option.some.inj hF
            refine W.retV (fn := Try.f85) (vs := []) Try.results85 trivial (fun _ _ h => h) (fun w hw => ?_)
            exact hR _ _ ⟨(A8, c9), trivial, rfl, (hw.pickK 3 [0, 1, 2] rfl)⟩
  · -- behind
    rintro people14 in15 most16 gates19 A17 c18 rfl
    -- region 15: mutex.go:139
    refine W.reg ?_
    refine WL.q (Y.move (.pl rfl)) rfl ?_
    refine WL.q (Y.nilCheck (.pl rfl)) rfl ?_
    obtain ⟨x31, hx31, hF⟩ := bnd hF
    refine WL.q (Y.rowField (off := 0) (ft := 3) Try.underlying167 rfl cells3 (i' := 1) rfl (ix_lt (hx31)) (.pl rfl)) rfl ?_
    refine WL.q (Y.loadR (enc := encMutexProcess) (v := .int .i64 x31.step) (a := x31) (idx := ip12) (j := 0) Try.underlying3 rfl lenMutexProcess (i := 1) rfl (.pl rfl) (ix_get (hx31)) rfl rfl) rfl ?_
    obtain ⟨hk32, hF⟩ := ckh hF
    refine WL.q (Y.add (.pl rfl) (.pl rfl) (ok64_lt (hk32))) rfl ?_
    refine WL.q (Y.nilCheck (.pl rfl)) rfl ?_
    obtain ⟨x33, hx33, hF⟩ := bnd hF
    refine WL.q (Y.rowField (off := 0) (ft := 3) Try.underlying167 rfl cells3 (i' := 1) rfl (ix_lt (hx33)) (.pl rfl)) rfl ?_
    refine WL.step (WO.storeS (enc := encMutexProcess) (a := x33) (a' := (MutexProcess.mk (x31.step + 1) x33.left x33.flag x33.number x33.k)) (idx := ip12) (j := 0) cells3 (.pl rfl) (.pl rfl) rfl lenMutexProcess (i := 1) rfl (ix_get (hx33)) rfl (by decide) rfl ?_)
    refine WL.nil ?_
    obtain rfl := Option.some.inj hF
    refine W.endV (fn := Try.f85) (vs := []) Try.results85 trivial (fun _ _ h => h) (fun w hw => ?_)
    exact hR _ _ ⟨(A17, c18), trivial, rfl, (St.cong (L := ([cBx b1 165 (.slice A2 (people14).length c3 :: (.int .i64 turn5 :: (.int .i64 in15 :: (.int .i64 most16 :: (.slice A17 (gates19).length c18 :: []))))), cR encMutexProcess 5 A2 c3 167 (people14.set ip12.toNat (MutexProcess.mk (x31.step + 1) x33.left x33.flag x33.number x33.k)), cR encGate 2 A17 c18 172 gates19] ++ T)) (hw.pickK 3 [0, 1, 2] rfl) (by simp only [List.length_set, List.nil_append, List.cons_append]))⟩

def mutex_machine_swap (N : Nat) (people4 : (List MutexProcess)) (turn5 : Int) (in6 : Int) (most7 : Int) (gates10 : (List Gate)) (who11 : Int) (ip12 : Int) : Option ((List MutexProcess) × Int × Int × Int × (List Gate)) :=
  bd (ix people4 ip12) fun (x13 : MutexProcess) =>
  cond (decide (x13.step = 0))
    (cond (!(decide (turn5 = 0)))
      (some (people4, turn5, in6, most7, gates10))
      (ck (ok64 (x13.step + 1)) <|
      some ((people4.set ip12.toNat (MutexProcess.mk (x13.step + 1) x13.left x13.flag x13.number x13.k)), 1, in6, most7, gates10)))
    (cond (decide (x13.step = 1))
      (bd (mutex_machine_enter N people4 turn5 in6 most7 gates10 who11) fun (r15 : Unit) =>
      ck (ok64 (x13.step + 1)) <|
      some ((people4.set ip12.toNat (MutexProcess.mk (x13.step + 1) x13.left x13.flag x13.number x13.k)), turn5, (in6 + 1), (max most7 (in6 + 1)), (gates10 ++ ([(Gate.mk who11 true)] : List Gate))))
      (cond (decide (x13.step = 2))
        (bd (mutex_machine_exit N people4 turn5 in6 most7 gates10 who11) fun (r19 : Unit) =>
        ck (ok64 (x13.step + 1)) <|
        some ((people4.set ip12.toNat (MutexProcess.mk (x13.step + 1) x13.left x13.flag x13.number x13.k)), turn5, (in6 - 1), most7, (gates10 ++ ([(Gate.mk who11 false)] : List Gate))))
        (bd (mutex_machine_end N people4 0 in6 most7 gates10 ip12) fun (r23 : (List MutexProcess)) =>
        some (r23, 0, in6, most7, gates10))))

theorem mutex_machine_swap_ok {N : Nat} {people4 : (List MutexProcess)} {turn5 : Int} {in6 : Int} {most7 : Int} {gates10 : (List Gate)} {who11 : Int} {ip12 : Int} {b1 : Nat} {A2 : Option Addr} {c3 : Nat} {A8 : Option Addr} {c9 : Nat} {res : ((List MutexProcess) × Int × Int × Int × (List Gate))} (hF : mutex_machine_swap N people4 turn5 in6 most7 gates10 who11 ip12 = some res) {w0 w : World} {T : List Chunk} (hw : St w0.heap.size w0 ([cBx b1 165 (.slice A2 (people4).length c3 :: (.int .i64 turn5 :: (.int .i64 in6 :: (.int .i64 most7 :: (.slice A8 (gates10).length c9 :: []))))), cR encMutexProcess 5 A2 c3 167 people4, cR encGate 2 A8 c9 172 gates10] ++ T) w) :
    Calls Try.prog 86 (List.toArray [.pointer (some ⟨b1, 0, none⟩), .int .i64 who11, .pointer (some (elA A2 (ip12.toNat * (4 + 1))))]) w (fun e w' => ∃ g : (Option Addr × Nat), True ∧ e = .returned (.tuple #[]) ∧ St w0.heap.size w0 ([cBx b1 165 (.slice A2 (res.1).length c3 :: (.int .i64 res.2.1 :: (.int .i64 res.2.2.1 :: (.int .i64 res.2.2.2.1 :: (.slice g.1 (res.2.2.2.2).length g.2 :: []))))), cR encMutexProcess 5 A2 c3 167 res.1, cR encGate 2 g.1 g.2 172 res.2.2.2.2] ++ T) w') := by
  refine W.enter (n := 43) Try.func86 rfl rfl Sub.refl (by simp) hw fun R hR => ?_
  unfold mutex_machine_swap at hF
  obtain ⟨x13, hx13, hF⟩ := bnd hF
  refine W.seq fun K1 hK1 => ?_
  -- region 0: mutex.go:143
  refine W.seqR fun Q2 hQ2 => ?_
  refine WL.q (Y.move (.pl rfl)) rfl ?_
  refine WL.q (Y.nilCheck (.pl rfl)) rfl ?_
  refine WL.q (Y.rowField (off := 0) (ft := 3) Try.underlying167 rfl cells3 (i' := 1) rfl (ix_lt (hx13)) (.pl rfl)) rfl ?_
  refine WL.q (Y.loadR (enc := encMutexProcess) (v := .int .i64 x13.step) (a := x13) (idx := ip12) (j := 0) Try.underlying3 rfl lenMutexProcess (i := 1) rfl (.pl rfl) (ix_get (hx13)) rfl rfl) rfl ?_
  refine WL.next hQ2 (.cons (i := 0) rfl (.cons (i := 1) rfl (.cons (i := 2) rfl (.cons (i := 9) rfl (.nil))))) ?_
  refine W.block ?_
  -- region 3: mutex.go:144
  refine W.seqR fun Q3 hQ3 => ?_
  refine WL.q (Y.eql (.pl rfl) (.pl rfl)) rfl ?_
  refine WL.q (Y.assign (.pl rfl)) rfl ?_
  refine WL.next hQ3 (.cons (i := 0) rfl (.cons (i := 1) rfl (.cons (i := 2) rfl (.cons (i := 9) rfl (.cons (i := 16) rfl (.nil)))))) ?_
  refine W.cond (.pl rfl) (fun hC4 => ?_) (fun hC4 => ?_)
  · replace hF := cpos hC4 hF
    refine W.seq fun K5 hK5 => ?_
    -- region 4: mutex.go:145
    refine W.seqR fun Q6 hQ6 => ?_
    refine WL.q (Y.move (.pl rfl)) rfl ?_
    refine WL.q (Y.nilCheck (.pl rfl)) rfl ?_
    refine WL.q (Y.fieldAddr0 (off := 1) (ft := 3) Try.underlying165 rfl cells3 (.pl rfl)) rfl ?_
    refine WL.q (Y.loadB (v := .int .i64 turn5) Try.underlying3 rfl (.pl rfl) (i := 0) rfl (rfl)) rfl ?_
    refine WL.q (Y.neq (.pl rfl) (.pl rfl)) rfl ?_
    refine WL.next hQ6 (.cons (i := 0) rfl (.cons (i := 2) rfl (.cons (i := 22) rfl (.nil)))) ?_
    refine W.cond (.pl rfl) (fun hC7 => ?_) (fun hC7 => ?_)
    · replace hF := cpos hC7 hF
      obtain rfl := Option.some.inj hF
      refine W.retV (fn := Try.f86) (vs := []) Try.results86 trivial (fun _ _ h => h) (fun w hw => ?_)
      exact hR _ _ ⟨(A8, c9), trivial, rfl, (hw.pickK 3 [0, 1, 2] rfl)⟩
    · replace hF := cneg hC7 hF
      refine W.skip ?_
      refine W.go hK5 (.cons (i := 0) rfl (.cons (i := 2) rfl (.nil))) ?_
      -- region 5: mutex.go:148
      refine W.reg ?_
      refine WL.q (Y.move (.pl rfl)) rfl ?_
      refine WL.q (Y.nilCheck (.pl rfl)) rfl ?_
      refine WL.q (Y.fieldAddr0 (off := 1) (ft := 3) Try.underlying165 rfl cells3 (.pl rfl)) rfl ?_
      refine WL.step (WO.storeB (cs' := (.slice A2 (people4).length c3 :: (.int .i64 1 :: (.int .i64 in6 :: (.int .i64 most7 :: (.slice A8 (gates10).length c9 :: [])))))) cells3 (.pl rfl) (.pl rfl) rfl (i := 0) rfl (ltl (m := 5) (by decide) rfl) (rfl) ?_)
      refine WL.nil ?_
      refine W.go hK1 (.cons (i := 2) rfl (.nil)) ?_
      -- region 10: mutex.go:158
      refine W.reg ?_
      refine WL.q (Y.move (.pl rfl)) rfl ?_
      refine WL.q (Y.nilCheck (.pl rfl)) rfl ?_
      refine WL.q (Y.rowField (off := 0) (ft := 3) Try.underlying167 rfl cells3 (i' := 1) rfl (ix_lt (hx13)) (.pl rfl)) rfl ?_
      refine WL.q (Y.loadR (enc := encMutexProcess) (v := .int .i64 x13.step) (a := x13) (idx := ip12) (j := 0) Try.underlying3 rfl lenMutexProcess (i := 1) rfl (.pl rfl) (ix_get (hx13)) rfl rfl) rfl ?_
      obtain ⟨hk14, hF⟩ := ckh hF
      refine WL.q (Y.add (.pl rfl) (.pl rfl) (ok64_lt (hk14))) rfl ?_
      refine WL.q (Y.nilCheck (.pl rfl)) rfl ?_
      refine WL.q (Y.rowField (off := 0) (ft := 3) Try.underlying167 rfl cells3 (i' := 1) rfl (ix_lt (hx13)) (.pl rfl)) rfl ?_
      refine WL.step (WO.storeS (enc := encMutexProcess) (a := x13) (a' := (MutexProcess.mk (x13.step + 1) x13.left x13.flag x13.number x13.k)) (idx := ip12) (j := 0) cells3 (.pl rfl) (.pl rfl) rfl lenMutexProcess (i := 1) rfl (ix_get (hx13)) rfl (by decide) rfl ?_)
      refine WL.nil ?_
      obtain rfl := Option.some.inj hF
      refine W.endV (fn := Try.f86) (vs := []) Try.results86 trivial (fun _ _ h => h) (fun w hw => ?_)
      exact hR _ _ ⟨(A8, c9), trivial, rfl, (St.cong (L := ([cBx b1 165 (.slice A2 (people4).length c3 :: (.int .i64 1 :: (.int .i64 in6 :: (.int .i64 most7 :: (.slice A8 (gates10).length c9 :: []))))), cR encMutexProcess 5 A2 c3 167 (people4.set ip12.toNat (MutexProcess.mk (x13.step + 1) x13.left x13.flag x13.number x13.k)), cR encGate 2 A8 c9 172 gates10] ++ T)) (hw.pickK 3 [0, 1, 2] rfl) (by simp only [List.length_set, List.nil_append, List.cons_append]))⟩
  · replace hF := cneg hC4 hF
    -- region 6: mutex.go:149
    refine W.seqR fun Q10 hQ10 => ?_
    refine WL.q (Y.eql (.pl rfl) (.pl rfl)) rfl ?_
    refine WL.q (Y.assign (.pl rfl)) rfl ?_
    refine WL.next hQ10 (.cons (i := 0) rfl (.cons (i := 1) rfl (.cons (i := 2) rfl (.cons (i := 9) rfl (.cons (i := 26) rfl (.nil)))))) ?_
    refine W.cond (.pl rfl) (fun hC11 => ?_) (fun hC11 => ?_)
    · replace hF := cpos hC11 hF
      -- region 7: mutex.go:150
      refine W.reg ?_
      refine WL.q (Y.move (.pl rfl)) rfl ?_
      refine WL.q (Y.move (.pl rfl)) rfl ?_
      obtain ⟨r15, hr15, hF⟩ := bnd hF
      refine WL.step (WO.call (γ := (Option Addr × Nat)) (fun g => .tuple #[]) (fun g => ([cBx b1 165 (.slice A2 (people4).length c3 :: (.int .i64 turn5 :: (.int .i64 (in6 + 1) :: (.int .i64 (max most7 (in6 + 1)) :: (.slice g.1 ((gates10 ++ ([(Gate.mk who11 true)] : List Gate))).length g.2 :: []))))), cR encMutexProcess 5 A2 c3 167 people4, cR encGate 2 g.1 g.2 172 (gates10 ++ ([(Gate.mk who11 true)] : List Gate))] ++ T)) (fun _ => True) isGo111 (.cons (.pl rfl) (.cons (.pl rfl) (.nil))) rfl (fun w hw => mutex_machine_enter_ok (T := ([] ++ T)) (hr15) (hw.pickK 3 [0, 1, 2] rfl) ) ?_)
      rintro ⟨A16, c17⟩ -
      refine WL.nil ?_
      refine W.go hK1 (.cons (i := 2) rfl (.nil)) ?_
      -- region 10: mutex.go:158
      refine W.reg ?_
      refine WL.q (Y.move (.pl rfl)) rfl ?_
      refine WL.q (Y.nilCheck (.pl rfl)) rfl ?_
      refine WL.q (Y.rowField (off := 0) (ft := 3) Try.underlying167 rfl cells3 (i' := 1) rfl (ix_lt (hx13)) (.pl rfl)) rfl ?_
      refine WL.q (Y.loadR (enc := encMutexProcess) (v := .int .i64 x13.step) (a := x13) (idx := ip12) (j := 0) Try.underlying3 rfl lenMutexProcess (i := 1) rfl (.pl rfl) (ix_get (hx13)) rfl rfl) rfl ?_
      obtain ⟨hk18, hF⟩ := ckh hF
      refine WL.q (Y.add (.pl rfl) (.pl rfl) (ok64_lt (hk18))) rfl ?_
      refine WL.q (Y.nilCheck (.pl rfl)) rfl ?_
      refine WL.q (Y.rowField (off := 0) (ft := 3) Try.underlying167 rfl cells3 (i' := 1) rfl (ix_lt (hx13)) (.pl rfl)) rfl ?_
      refine WL.step (WO.storeS (enc := encMutexProcess) (a := x13) (a' := (MutexProcess.mk (x13.step + 1) x13.left x13.flag x13.number x13.k)) (idx := ip12) (j := 0) cells3 (.pl rfl) (.pl rfl) rfl lenMutexProcess (i := 1) rfl (ix_get (hx13)) rfl (by decide) rfl ?_)
      refine WL.nil ?_
      obtain rfl := Option.some.inj hF
      refine W.endV (fn := Try.f86) (vs := []) Try.results86 trivial (fun _ _ h => h) (fun w hw => ?_)
      exact hR _ _ ⟨(A16, c17), trivial, rfl, (St.cong (L := ([cBx b1 165 (.slice A2 (people4).length c3 :: (.int .i64 turn5 :: (.int .i64 (in6 + 1) :: (.int .i64 (max most7 (in6 + 1)) :: (.slice A16 ((gates10 ++ ([(Gate.mk who11 true)] : List Gate))).length c17 :: []))))), cR encMutexProcess 5 A2 c3 167 (people4.set ip12.toNat (MutexProcess.mk (x13.step + 1) x13.left x13.flag x13.number x13.k)), cR encGate 2 A16 c17 172 (gates10 ++ ([(Gate.mk who11 true)] : List Gate))] ++ T)) (hw.pickK 3 [0, 1, 2] rfl) (by simp only [List.length_set, List.nil_append, List.cons_append]))⟩
    · replace hF := cneg hC11 hF
      -- region 8: mutex.go:151
      refine W.seqR fun Q14 hQ14 => ?_
      refine WL.q (Y.eql (.pl rfl) (.pl rfl)) rfl ?_
      refine WL.q (Y.assign (.pl rfl)) rfl ?_
      refine WL.next hQ14 (.cons (i := 0) rfl (.cons (i := 1) rfl (.cons (i := 2) rfl (.cons (i := 31) rfl (.nil))))) ?_
      refine W.cond (.pl rfl) (fun hC15 => ?_) (fun hC15 => ?_)
      · replace hF := cpos hC15 hF
        -- region 9: mutex.go:152
        refine W.reg ?_
        refine WL.q (Y.move (.pl rfl)) rfl ?_
        refine WL.q (Y.move (.pl rfl)) rfl ?_
        obtain ⟨r19, hr19, hF⟩ := bnd hF
        refine WL.step (WO.call (γ := (Option Addr × Nat)) (fun g => .tuple #[]) (fun g => ([cBx b1 165 (.slice A2 (people4).length c3 :: (.int .i64 turn5 :: (.int .i64 (in6 - 1) :: (.int .i64 most7 :: (.slice g.1 ((gates10 ++ ([(Gate.mk who11 false)] : List Gate))).length g.2 :: []))))), cR encMutexProcess 5 A2 c3 167 people4, cR encGate 2 g.1 g.2 172 (gates10 ++ ([(Gate.mk who11 false)] : List Gate))] ++ T)) (fun _ => True) isGo112 (.cons (.pl rfl) (.cons (.pl rfl) (.nil))) rfl (fun w hw => mutex_machine_exit_ok (T := ([] ++ T)) (hr19) (hw.pickK 3 [0, 1, 2] rfl) ) ?_)
        rintro ⟨A20, c21⟩ -
        refine WL.nil ?_
        refine W.go hK1 (.cons (i := 2) rfl (.nil)) ?_
        -- region 10: mutex.go:158
        refine W.reg ?_
        refine WL.q (Y.move (.pl rfl)) rfl ?_
        refine WL.q (Y.nilCheck (.pl rfl)) rfl ?_
        refine WL.q (Y.rowField (off := 0) (ft := 3) Try.underlying167 rfl cells3 (i' := 1) rfl (ix_lt (hx13)) (.pl rfl)) rfl ?_
        refine WL.q (Y.loadR (enc := encMutexProcess) (v := .int .i64 x13.step) (a := x13) (idx := ip12) (j := 0) Try.underlying3 rfl lenMutexProcess (i := 1) rfl (.pl rfl) (ix_get (hx13)) rfl rfl) rfl ?_
        obtain ⟨hk22, hF⟩ := ckh hF
        refine WL.q (Y.add (.pl rfl) (.pl rfl) (ok64_lt (hk22))) rfl ?_
        refine WL.q (Y.nilCheck (.pl rfl)) rfl ?_
        refine WL.q (Y.rowField (off := 0) (ft := 3) Try.underlying167 rfl cells3 (i' := 1) rfl (ix_lt (hx13)) (.pl rfl)) rfl ?_
        refine WL.step (WO.storeS (enc := encMutexProcess) (a := x13) (a' := (MutexProcess.mk (x13.step + 1) x13.left x13.flag x13.number x13.k)) (idx := ip12) (j := 0) cells3 (.pl rfl) (.pl rfl) rfl lenMutexProcess (i := 1) rfl (ix_get (hx13)) rfl (by decide) rfl ?_)
        refine WL.nil ?_
        obtain rfl := Option.some.inj hF
        refine W.endV (fn := Try.f86) (vs := []) Try.results86 trivial (fun _ _ h => h) (fun w hw => ?_)
        exact hR _ _ ⟨(A20, c21), trivial, rfl, (St.cong (L := ([cBx b1 165 (.slice A2 (people4).length c3 :: (.int .i64 turn5 :: (.int .i64 (in6 - 1) :: (.int .i64 most7 :: (.slice A20 ((gates10 ++ ([(Gate.mk who11 false)] : List Gate))).length c21 :: []))))), cR encMutexProcess 5 A2 c3 167 (people4.set ip12.toNat (MutexProcess.mk (x13.step + 1) x13.left x13.flag x13.number x13.k)), cR encGate 2 A20 c21 172 (gates10 ++ ([(Gate.mk who11 false)] : List Gate))] ++ T)) (hw.pickK 3 [0, 1, 2] rfl) (by simp only [List.length_set, List.nil_append, List.cons_append]))⟩
      · replace hF := cneg hC15 hF
        -- region 1: mutex.go:154
        refine W.seqR fun Q18 hQ18 => ?_
        refine WL.q (Y.move (.pl rfl)) rfl ?_
        refine WL.q (Y.nilCheck (.pl rfl)) rfl ?_
        refine WL.q (Y.fieldAddr0 (off := 1) (ft := 3) Try.underlying165 rfl cells3 (.pl rfl)) rfl ?_
        refine WL.step (WO.storeB (cs' := (.slice A2 (people4).length c3 :: (.int .i64 0 :: (.int .i64 in6 :: (.int .i64 most7 :: (.slice A8 (gates10).length c9 :: [])))))) cells3 (.pl rfl) (.pl rfl) rfl (i := 0) rfl (ltl (m := 5) (by decide) rfl) (rfl) ?_)
        refine WL.next hQ18 (.cons (i := 0) rfl (.cons (i := 2) rfl (.nil))) ?_
        -- region 2: mutex.go:155
        refine W.seqR fun Q19 hQ19 => ?_
        refine WL.q (Y.move (.pl rfl)) rfl ?_
        refine WL.q (Y.move (.pl rfl)) rfl ?_
        obtain ⟨r23, hr23, hF⟩ := bnd hF
        refine WL.step (WO.call (γ := Unit) (fun g => .tuple #[]) (fun g => ([cBx b1 165 (.slice A2 (r23).length c3 :: (.int .i64 0 :: (.int .i64 in6 :: (.int .i64 most7 :: (.slice A8 (gates10).length c9 :: []))))), cR encMutexProcess 5 A2 c3 167 r23, cR encGate 2 A8 c9 172 gates10] ++ T)) (fun _ => True) isGo113 (.cons (.pl rfl) (.cons (.pl rfl) (.nil))) rfl (fun w hw => mutex_machine_end_ok (T := ([] ++ T)) (hr23) (hw.pickK 3 [0, 1, 2] rfl) ) ?_)
        rintro _ -
        refine WL.next hQ19 (.nil) ?_
        obtain rfl := Option.some.inj hF
        refine W.retV (fn := Try.f86) (vs := []) Try.results86 trivial (fun _ _ h => h) (fun w hw => ?_)
        exact hR _ _ ⟨(A8, c9), trivial, rfl, (hw.pickK 3 [0, 1, 2] rfl)⟩

def mutex_Play_L5 (N : Nat) (people2 : Int) (turns3 : Int) : ((List MutexProcess) × Int) → Option (((List MutexProcess) × Int) ⊕ (List MutexProcess))
  | (people14, v15) =>
    cond (decide (v15 < (((List.replicate people2.toNat (MutexProcess.z : MutexProcess))).length : Int)))
      (bd (ix people14 v15) fun (x16 : MutexProcess) =>
      ck (ok64 (v15 + 1)) <|
      some (.inl ((people14.set v15.toNat (MutexProcess.mk x16.step turns3 x16.flag x16.number x16.k)), (v15 + 1))))
      (some (.inr people14))

def mutex_Play_L7 (N : Nat) (list4 : (List Int)) (algo1 : Int) : ((List MutexProcess) × Int × Int × Int × (List Gate) × Int) → Option (((List MutexProcess) × Int × Int × Int × (List Gate) × Int) ⊕ ((List MutexProcess) × Int × Int × Int × (List Gate)))
  | (people25, turn26, in27, most28, gates31, v32) =>
    cond (decide (v32 < ((list4).length : Int)))
      (bd (ix list4 v32) fun (x33 : Int) =>
      bd (ix people25 x33) fun (x34 : MutexProcess) =>
      cond (decide (x34.left = 0))
        (ck (ok64 (v32 + 1)) <|
        some (.inl (people25, turn26, in27, most28, gates31, (v32 + 1))))
        (cond (decide (algo1 = 1))
          (bd (mutex_machine_peterson N people25 turn26 in27 most28 gates31 x33 x33) fun (r36 : ((List MutexProcess) × Int × Int × Int × (List Gate))) =>
          ck (ok64 (v32 + 1)) <|
          some (.inl (r36.1, r36.2.1, r36.2.2.1, r36.2.2.2.1, r36.2.2.2.2, (v32 + 1))))
          (cond (decide (algo1 = 2))
            (bd (mutex_machine_bakery N people25 turn26 in27 most28 gates31 x33 x33) fun (r40 : ((List MutexProcess) × Int × Int × (List Gate))) =>
            ck (ok64 (v32 + 1)) <|
            some (.inl (r40.1, turn26, r40.2.1, r40.2.2.1, r40.2.2.2, (v32 + 1))))
            (cond (decide (algo1 = 3))
              (bd (mutex_machine_naive N people25 turn26 in27 most28 gates31 x33 x33) fun (r44 : ((List MutexProcess) × Int × Int × (List Gate))) =>
              ck (ok64 (v32 + 1)) <|
              some (.inl (r44.1, turn26, r44.2.1, r44.2.2.1, r44.2.2.2, (v32 + 1))))
              (bd (mutex_machine_swap N people25 turn26 in27 most28 gates31 x33 x33) fun (r48 : ((List MutexProcess) × Int × Int × Int × (List Gate))) =>
              ck (ok64 (v32 + 1)) <|
              some (.inl (r48.1, r48.2.1, r48.2.2.1, r48.2.2.2.1, r48.2.2.2.2, (v32 + 1))))))))
      (some (.inr (people25, turn26, in27, most28, gates31)))

def mutex_Play (N : Nat) (algo1 : Int) (people2 : Int) (turns3 : Int) (list4 : (List Int)) : Option ((List Gate) × Int × Int) :=
  bd (mutex_check N algo1 people2 turns3 list4) fun (r9 : Int) =>
  cond (!(decide (r9 = 0)))
    (some ([], 0, r9))
    (ck (mkB 40 people2) <|
    bd (α := (List MutexProcess)) (iter (mutex_Play_L5 N people2 turns3) N ((List.replicate people2.toNat (MutexProcess.z : MutexProcess)), 0)) <|
    fun (people13 : (List MutexProcess)) => 
      bd (α := ((List MutexProcess) × Int × Int × Int × (List Gate))) (iter (mutex_Play_L7 N list4 algo1) N (people13, 0, 0, 0, [], 0)) <|
      fun (people18, turn19, in20, most21, gates24) => 
        some (gates24, most21, 0))

theorem mutex_Play_ok {N : Nat} {algo1 : Int} {people2 : Int} {turns3 : Int} {list4 : (List Int)} {res : ((List Gate) × Int × Int)} (hF : mutex_Play N algo1 people2 turns3 list4 = some res) (w : World) {v8 : Value} (hs7 : SlIn (eI .i64) 1 w v8 list4) :
    Made Try.prog 43 [.int .i64 algo1, .int .i64 people2, .int .i64 turns3, v8] w (fun g : (Option Addr × Nat) => .tuple #[.slice g.1 (res.1).length g.2, .int .i64 res.2.1, .int .i64 res.2.2]) (fun g => [cR encGate 2 g.1 g.2 172 res.1]) (fun _ => True) := by
  obtain ⟨A5, c6, rfl, hcc6, hs7⟩ := hs7.form
  refine W.enter (n := 95) Try.func43 rfl rfl Sub.refl (by simp) (St.start w) fun R hR => ?_
  unfold mutex_Play at hF
  -- region 0: mutex.go:178
  refine W.seqR fun Q1 hQ1 => ?_
  refine WL.q (Y.assign (.pl rfl)) rfl ?_
  refine WL.q (Y.assign (.pl rfl)) rfl ?_
  refine WL.q (Y.assign (.pl rfl)) rfl ?_
  refine WL.next hQ1 (.cons (i := 0) rfl (.cons (i := 1) rfl (.cons (i := 2) rfl (.cons (i := 3) rfl (.nil))))) ?_
  refine W.seq fun K2 hK2 => ?_
  -- region 1: mutex.go:179
  refine W.seqR fun Q3 hQ3 => ?_
  refine WL.q (Y.move (.pl rfl)) rfl ?_
  refine WL.q (Y.move (.pl rfl)) rfl ?_
  refine WL.q (Y.move (.pl rfl)) rfl ?_
  refine WL.q (Y.move (.pl rfl)) rfl ?_
  obtain ⟨r9, hr9, hF⟩ := bnd hF
  refine WL.step (WO.callP isGo82 (.cons (.pl rfl) (.cons (.pl rfl) (.cons (.pl rfl) (.cons (.pl rfl) (.nil))))) rfl (fun w hw => mutex_check_ok (hr9) w (hs7.mono hw)) ?_)
  refine WL.q (Y.assign (.pl rfl)) rfl ?_
  refine WL.next hQ3 (.cons (i := 0) rfl (.cons (i := 1) rfl (.cons (i := 2) rfl (.cons (i := 3) rfl (.cons (i := 11) rfl (.nil)))))) ?_
  -- region 2: mutex.go:179
  refine W.seqR fun Q4 hQ4 => ?_
  refine WL.q (Y.move (.pl rfl)) rfl ?_
  refine WL.q (Y.neq (.pl rfl) (.pl rfl)) rfl ?_
  refine WL.next hQ4 (.cons (i := 0) rfl (.cons (i := 1) rfl (.cons (i := 2) rfl (.cons (i := 3) rfl (.cons (i := 11) rfl (.cons (i := 23) rfl (.nil))))))) ?_
  refine W.cond (.pl rfl) (fun hC5 => ?_) (fun hC5 => ?_)
  · replace hF := cpos hC5 hF
    -- region 3: mutex.go:180
    refine W.seqR fun Q6 hQ6 => ?_
    refine WL.q (Y.move (.pl rfl)) rfl ?_
    refine WL.q (Y.assign (.pl rfl)) rfl ?_
    refine WL.q (Y.assign (.pl rfl)) rfl ?_
    refine WL.q (Y.assign (.pl rfl)) rfl ?_
    refine WL.next hQ6 (.cons (i := 8) rfl (.cons (i := 9) rfl (.cons (i := 10) rfl (.nil)))) ?_
    obtain rfl := Option.some.inj hF
    refine W.retV (fn := Try.f43) (vs := [.slice none 0 0, .int .i64 0, .int .i64 r9]) Try.results43 ⟨.tmp rfl, ⟨.tmp rfl, ⟨.tmp rfl, trivial⟩⟩⟩ (fun _ _ h => h) (fun w hw => ?_)
    exact hR _ _ ⟨(none, 0), trivial, rfl, ((St.nilR (hw.pick [] rfl) encGate 2 172).pick [0] rfl)⟩
  · replace hF := cneg hC5 hF
    refine W.skip ?_
    refine W.go hK2 (.cons (i := 0) rfl (.cons (i := 1) rfl (.cons (i := 2) rfl (.cons (i := 3) rfl (.nil))))) ?_
    -- region 4: mutex.go:182
    refine W.seqR fun Q7 hQ7 => ?_
    refine WL.q (Y.move (.pl rfl)) rfl ?_
    obtain ⟨hk11, hF⟩ := ckh hF
    refine WL.step (WO.makeC (enc := encMutexProcess) (z := MutexProcess.z) Try.underlying163 mka167 rfl (.pl rfl) (hk11) rfl fun b10 => ?_)
    refine WL.q (Y.build (cs := (.slice (some ⟨b10, 0, none⟩) ((List.replicate people2.toNat (MutexProcess.z : MutexProcess))).length people2.toNat :: (.int .i64 0 :: (.int .i64 0 :: (.int .i64 0 :: (.slice none 0 0 :: []))))).toArray) shape165 (.cons (.pl rfl) (.nil)) (one_parts ⟨rfl, trivial⟩) rfl) rfl ?_
    refine WL.step (WO.boxA (.pl rfl) rfl fun b12 => ?_)
    refine WL.q (Y.assign (.pl rfl)) rfl ?_
    refine WL.next hQ7 (.cons (i := 0) rfl (.cons (i := 2) rfl (.cons (i := 3) rfl (.cons (i := 12) rfl (.nil))))) ?_
    obtain ⟨o8, hF8, hF⟩ := bnd hF
    refine W.join1 (Em := fun (people13 : (List MutexProcess)) => []) (M := fun people13 => [cBx b12 165 (.slice (some ⟨b10, 0, none⟩) (people13).length people2.toNat :: (.int .i64 0 :: (.int .i64 0 :: (.int .i64 0 :: (.slice none 0 0 :: []))))), cR encMutexProcess 5 (some ⟨b10, 0, none⟩) people2.toNat 167 people13]) (I := fun people13 => people13 = o8) (.cons (i := 0) rfl (.cons (i := 3) rfl (.cons (i := 12) rfl (.nil)))) (fun K9 hK9 => ?_) ?_
    · -- up to
      -- region 5: mutex.go:183
      refine W.seqR fun Q10 hQ10 => ?_
      refine WL.q (Y.move (.pl rfl)) rfl ?_
      refine WL.q (Y.nilCheck (.pl rfl)) rfl ?_
      refine WL.q (Y.fieldAddr0 (off := 0) (ft := 163) Try.underlying165 rfl cells163 (.pl rfl)) rfl ?_
      refine WL.q (Y.loadB (v := .slice (some ⟨b10, 0, none⟩) ((List.replicate people2.toNat (MutexProcess.z : MutexProcess))).length people2.toNat) Try.underlying163 rfl (.pl rfl) (i := 0) rfl (rfl)) rfl ?_
      refine WL.q (Y.len Try.underlying163 (.pl rfl)) rfl ?_
      refine WL.q (Y.move (.pl rfl)) rfl ?_
      refine WL.next hQ10 (.cons (i := 0) rfl (.cons (i := 2) rfl (.cons (i := 3) rfl (.cons (i := 12) rfl (.cons (i := 33) rfl (.cons (i := 34) rfl (.nil))))))) ?_
      refine W.block ?_
      refine W.loop2 (Em := fun (people14 : (List MutexProcess)) (v15 : Int) => [(34, .int .i64 v15)]) (M := fun people14 v15 => [cBx b12 165 (.slice (some ⟨b10, 0, none⟩) (people14).length people2.toNat :: (.int .i64 0 :: (.int .i64 0 :: (.int .i64 0 :: (.slice none 0 0 :: []))))), cR encMutexProcess 5 (some ⟨b10, 0, none⟩) people2.toNat 167 people14]) (I := fun people14 v15 k11 => iter (mutex_Play_L5 N people2 turns3) k11 (people14, v15) = some o8) (List.replicate people2.toNat (MutexProcess.z : MutexProcess)) 0 N (hF8) (.cons rfl (.nil)) (.cons (i := 0) rfl (.cons (i := 2) rfl (.cons (i := 3) rfl (.cons (i := 12) rfl (.cons (i := 33) rfl (.nil)))))) (fun w hw => hw.pick [0, 1] rfl) (fun people14 v15 k11 hI K12 hK12 => ?_)
      obtain ⟨k11, t11, rfl, hF11, hN11⟩ := iter_step hI
      -- region 6: mutex.go:183
      refine W.seqR fun Q13 hQ13 => ?_
      refine WL.q (Y.lss (.pl rfl) (.pl rfl)) rfl ?_
      refine WL.next hQ13 (.cons (i := 0) rfl (.cons (i := 2) rfl (.cons (i := 3) rfl (.cons (i := 12) rfl (.cons (i := 33) rfl (.cons (i := 34) rfl (.cons (i := 35) rfl (.nil)))))))) ?_
      refine W.seq fun K14 hK14 => ?_
      refine W.cond (.pl rfl) (fun hC15 => ?_) (fun hC15 => ?_)
      · replace hF11 := cpos hC15 hF11
        refine W.skip ?_
        refine W.go hK14 (.cons (i := 0) rfl (.cons (i := 2) rfl (.cons (i := 3) rfl (.cons (i := 12) rfl (.cons (i := 33) rfl (.cons (i := 34) rfl (.nil))))))) ?_
        refine W.seq fun K16 hK16 => ?_
        refine W.block ?_
        -- region 7: mutex.go:183
        refine W.seqR fun Q17 hQ17 => ?_
        refine WL.q (Y.move (.pl rfl)) rfl ?_
        refine WL.q (Y.assign (.pl rfl)) rfl ?_
        refine WL.next hQ17 (.cons (i := 0) rfl (.cons (i := 2) rfl (.cons (i := 3) rfl (.cons (i := 12) rfl (.cons (i := 13) rfl (.cons (i := 33) rfl (.cons (i := 34) rfl (.nil)))))))) ?_
        -- region 8: mutex.go:184
        refine W.reg ?_
        refine WL.q (Y.move (.pl rfl)) rfl ?_
        refine WL.q (Y.nilCheck (.pl rfl)) rfl ?_
        refine WL.q (Y.fieldAddr0 (off := 0) (ft := 163) Try.underlying165 rfl cells163 (.pl rfl)) rfl ?_
        refine WL.q (Y.loadB (v := .slice (some ⟨b10, 0, none⟩) (people14).length people2.toNat) Try.underlying163 rfl (.pl rfl) (i := 0) rfl (rfl)) rfl ?_
        refine WL.q (Y.move (.pl rfl)) rfl ?_
        refine WL.q (Y.move (.pl rfl)) rfl ?_
        obtain ⟨x16, hx16, hF11⟩ := bnd hF11
        refine WL.q (Y.litEl (xs := people14) Try.underlying163 cells167 (.pl rfl) rfl (.pl rfl) (ix_lt (hx16))) rfl ?_
        refine WL.q (Y.rowField (off := 1) (ft := 3) Try.underlying167 rfl cells3 (i' := 1) rfl (ix_lt (hx16)) (.pl rfl)) rfl ?_
        refine WL.step (WO.storeS (enc := encMutexProcess) (a := x16) (a' := (MutexProcess.mk x16.step turns3 x16.flag x16.number x16.k)) (idx := v15) (j := 1) cells3 (.pl rfl) (.pl rfl) rfl lenMutexProcess (i := 1) rfl (ix_get (hx16)) rfl (by decide) rfl ?_)
        refine WL.nil ?_
        refine W.go hK16 (.cons (i := 0) rfl (.cons (i := 2) rfl (.cons (i := 3) rfl (.cons (i := 12) rfl (.cons (i := 33) rfl (.cons (i := 34) rfl (.nil))))))) ?_
        -- region 9: mutex.go:183
        refine W.reg ?_
        obtain ⟨hk17, hF11⟩ := ckh hF11
        refine WL.q (Y.add (.pl rfl) (.pl rfl) (ok64_lt (hk17))) rfl ?_
        refine WL.q (Y.move (.pl rfl)) rfl ?_
        refine WL.nil ?_
        obtain rfl := Option.some.inj hF11
        exact W.again2 hK12 (people14.set v15.toNat (MutexProcess.mk x16.step turns3 x16.flag x16.number x16.k)) (v15 + 1) k11 hN11 (Nat.lt_succ_self _) (.cons rfl (.nil)) (.cons (i := 0) rfl (.cons (i := 2) rfl (.cons (i := 3) rfl (.cons (i := 12) rfl (.cons (i := 33) rfl (.nil)))))) (fun w hw => St.cong (L := [cBx b12 165 (.slice (some ⟨b10, 0, none⟩) (people14).length people2.toNat :: (.int .i64 0 :: (.int .i64 0 :: (.int .i64 0 :: (.slice none 0 0 :: []))))), cR encMutexProcess 5 (some ⟨b10, 0, none⟩) people2.toNat 167 (people14.set v15.toNat (MutexProcess.mk x16.step turns3 x16.flag x16.number x16.k))]) (hw.pick [0, 1] rfl) (by simp only [List.length_set, List.nil_append, List.cons_append]))
      · replace hF11 := cneg hC15 hF11
        refine W.exit ?_
        obtain rfl := Option.some.inj hF11
        exact W.joinAt1 hK9 people14 (einr hN11) (.nil) (.cons (i := 0) rfl (.cons (i := 3) rfl (.cons (i := 12) rfl (.nil)))) (fun w hw => hw.pick [0, 1] rfl)
    · -- behind
      rintro people13 rfl
      obtain ⟨o20, hF20, hF⟩ := bnd hF
      refine W.join7 (Em := fun (people18 : (List MutexProcess)) (turn19 : Int) (in20 : Int) (most21 : Int) (gates24 : (List Gate)) (A22 : Option Addr) (c23 : Nat) => []) (M := fun people18 turn19 in20 most21 gates24 A22 c23 => [cBx b12 165 (.slice (some ⟨b10, 0, none⟩) (people18).length people2.toNat :: (.int .i64 turn19 :: (.int .i64 in20 :: (.int .i64 most21 :: (.slice A22 (gates24).length c23 :: []))))), cR encMutexProcess 5 (some ⟨b10, 0, none⟩) people2.toNat 167 people18, cR encGate 2 A22 c23 172 gates24]) (I := fun people18 turn19 in20 most21 gates24 A22 c23 => (people18, turn19, in20, most21, gates24) = o20) (.cons (i := 12) rfl (.nil)) (fun K21 hK21 => ?_) ?_
      · -- up to
        -- region 10: mutex.go:186
        refine W.seqR fun Q22 hQ22 => ?_
        refine WL.q (Y.move (.pl rfl)) rfl ?_
        refine WL.q (Y.len Try.underlying23 (.pl rfl)) rfl ?_
        refine WL.q (Y.move (.pl rfl)) rfl ?_
        refine WL.next hQ22 (.cons (i := 0) rfl (.cons (i := 12) rfl (.cons (i := 46) rfl (.cons (i := 47) rfl (.cons (i := 48) rfl (.nil)))))) ?_
        refine W.block ?_
        refine W.loop8 (Em := fun (people25 : (List MutexProcess)) (turn26 : Int) (in27 : Int) (most28 : Int) (gates31 : (List Gate)) (v32 : Int) (A29 : Option Addr) (c30 : Nat) => [(48, .int .i64 v32)]) (M := fun people25 turn26 in27 most28 gates31 v32 A29 c30 => [cBx b12 165 (.slice (some ⟨b10, 0, none⟩) (people25).length people2.toNat :: (.int .i64 turn26 :: (.int .i64 in27 :: (.int .i64 most28 :: (.slice A29 (gates31).length c30 :: []))))), cR encMutexProcess 5 (some ⟨b10, 0, none⟩) people2.toNat 167 people25, cR encGate 2 A29 c30 172 gates31]) (I := fun people25 turn26 in27 most28 gates31 v32 A29 c30 k23 => iter (mutex_Play_L7 N list4 algo1) k23 (people25, turn26, in27, most28, gates31, v32) = some o20) people13 0 0 0 [] 0 none 0 N (hF20) (.cons rfl (.nil)) (.cons (i := 0) rfl (.cons (i := 12) rfl (.cons (i := 46) rfl (.cons (i := 47) rfl (.nil))))) (fun w hw => (St.nilR (hw.pick [0, 1] rfl) encGate 2 172).pick [1, 2, 0] rfl) (fun people25 turn26 in27 most28 gates31 v32 A29 c30 k23 hI K24 hK24 => ?_)
        obtain ⟨k23, t23, rfl, hF23, hN23⟩ := iter_step hI
        -- region 11: mutex.go:186
        refine W.seqR fun Q25 hQ25 => ?_
        refine WL.q (Y.lss (.pl rfl) (.pl rfl)) rfl ?_
        refine WL.next hQ25 (.cons (i := 0) rfl (.cons (i := 12) rfl (.cons (i := 46) rfl (.cons (i := 47) rfl (.cons (i := 48) rfl (.cons (i := 49) rfl (.nil))))))) ?_
        refine W.seq fun K26 hK26 => ?_
        refine W.cond (.pl rfl) (fun hC27 => ?_) (fun hC27 => ?_)
        · replace hF23 := cpos hC27 hF23
          refine W.skip ?_
          refine W.go hK26 (.cons (i := 0) rfl (.cons (i := 12) rfl (.cons (i := 46) rfl (.cons (i := 47) rfl (.cons (i := 48) rfl (.nil)))))) ?_
          refine W.seq fun K28 hK28 => ?_
          refine W.block ?_
          -- region 12: mutex.go:186
          refine W.seqR fun Q29 hQ29 => ?_
          obtain ⟨x33, hx33, hF23⟩ := bnd hF23
          refine WL.q (Y.slEl Try.underlying23 cells3 hs7 (.pl rfl) (.pl rfl) (ix_lt (hx33))) rfl ?_
          refine WL.q (Y.loadS (enc := (eI .i64)) (v := .int .i64 x33) (j := 0) Try.underlying3 rfl hs7 (.pl rfl) (hx33) rfl rfl) rfl ?_
          refine WL.q (Y.assign (.pl rfl)) rfl ?_
          refine WL.next hQ29 (.cons (i := 0) rfl (.cons (i := 12) rfl (.cons (i := 15) rfl (.cons (i := 46) rfl (.cons (i := 47) rfl (.cons (i := 48) rfl (.nil))))))) ?_
          -- region 13: mutex.go:187
          refine W.seqR fun Q30 hQ30 => ?_
          refine WL.q (Y.move (.pl rfl)) rfl ?_
          refine WL.q (Y.nilCheck (.pl rfl)) rfl ?_
          refine WL.q (Y.fieldAddr0 (off := 0) (ft := 163) Try.underlying165 rfl cells163 (.pl rfl)) rfl ?_
          refine WL.q (Y.loadB (v := .slice (some ⟨b10, 0, none⟩) (people25).length people2.toNat) Try.underlying163 rfl (.pl rfl) (i := 0) rfl (rfl)) rfl ?_
          refine WL.q (Y.move (.pl rfl)) rfl ?_
          obtain ⟨x34, hx34, hF23⟩ := bnd hF23
          refine WL.q (Y.litEl (xs := people25) Try.underlying163 cells167 (.pl rfl) rfl (.pl rfl) (ix_lt (hx34))) rfl ?_
          refine WL.q (Y.assign (.pl rfl)) rfl ?_
          refine WL.next hQ30 (.cons (i := 0) rfl (.cons (i := 12) rfl (.cons (i := 15) rfl (.cons (i := 16) rfl (.cons (i := 46) rfl (.cons (i := 47) rfl (.cons (i := 48) rfl (.nil)))))))) ?_
          refine W.seq fun K31 hK31 => ?_
          -- region 14: mutex.go:188
          refine W.seqR fun Q32 hQ32 => ?_
          refine WL.q (Y.move (.pl rfl)) rfl ?_
          refine WL.q (Y.nilCheck (.pl rfl)) rfl ?_
          refine WL.q (Y.rowField (off := 1) (ft := 3) Try.underlying167 rfl cells3 (i' := 1) rfl (ix_lt (hx34)) (.pl rfl)) rfl ?_
          refine WL.q (Y.loadR (enc := encMutexProcess) (v := .int .i64 x34.left) (a := x34) (idx := x33) (j := 1) Try.underlying3 rfl lenMutexProcess (i := 1) rfl (.pl rfl) (ix_get (hx34)) rfl rfl) rfl ?_
          refine WL.q (Y.eql (.pl rfl) (.pl rfl)) rfl ?_
          refine WL.next hQ32 (.cons (i := 0) rfl (.cons (i := 12) rfl (.cons (i := 15) rfl (.cons (i := 16) rfl (.cons (i := 46) rfl (.cons (i := 47) rfl (.cons (i := 48) rfl (.cons (i := 62) rfl (.nil))))))))) ?_
          refine W.cond (.pl rfl) (fun hC33 => ?_) (fun hC33 => ?_)
          · replace hF23 := cpos hC33 hF23
            refine W.exit ?_
            refine W.go hK28 (.cons (i := 0) rfl (.cons (i := 12) rfl (.cons (i := 46) rfl (.cons (i := 47) rfl (.cons (i := 48) rfl (.nil)))))) ?_
            -- region 23: mutex.go:186
            refine W.reg ?_
            obtain ⟨hk35, hF23⟩ := ckh hF23
            refine WL.q (Y.add (.pl rfl) (.pl rfl) (ok64_lt (hk35))) rfl ?_
            refine WL.q (Y.move (.pl rfl)) rfl ?_
            refine WL.nil ?_
            obtain rfl := Option.some.inj hF23
            exact W.again8 hK24 people25 turn26 in27 most28 gates31 (v32 + 1) A29 c30 k23 hN23 (Nat.lt_succ_self _) (.cons rfl (.nil)) (.cons (i := 0) rfl (.cons (i := 12) rfl (.cons (i := 46) rfl (.cons (i := 47) rfl (.nil))))) (fun w hw => hw.pick [0, 1, 2] rfl)
          · replace hF23 := cneg hC33 hF23
            refine W.skip ?_
            refine W.go hK31 (.cons (i := 0) rfl (.cons (i := 12) rfl (.cons (i := 15) rfl (.cons (i := 16) rfl (.cons (i := 46) rfl (.cons (i := 47) rfl (.cons (i := 48) rfl (.nil)))))))) ?_
            -- region 15: mutex.go:191
            refine W.seqR fun Q35 hQ35 => ?_
            refine WL.q (Y.move (.pl rfl)) rfl ?_
            refine WL.next hQ35 (.cons (i := 0) rfl (.cons (i := 12) rfl (.cons (i := 15) rfl (.cons (i := 16) rfl (.cons (i := 46) rfl (.cons (i := 47) rfl (.cons (i := 48) rfl (.cons (i := 63) rfl (.nil))))))))) ?_
            refine W.block ?_
            -- region 17: mutex.go:192
            refine W.seqR fun Q36 hQ36 => ?_
            refine WL.q (Y.eql (.pl rfl) (.pl rfl)) rfl ?_
            refine WL.q (Y.assign (.pl rfl)) rfl ?_
            refine WL.next hQ36 (.cons (i := 0) rfl (.cons (i := 12) rfl (.cons (i := 15) rfl (.cons (i := 16) rfl (.cons (i := 46) rfl (.cons (i := 47) rfl (.cons (i := 48) rfl (.cons (i := 63) rfl (.cons (i := 68) rfl (.nil)))))))))) ?_
            refine W.cond (.pl rfl) (fun hC37 => ?_) (fun hC37 => ?_)
            · replace hF23 := cpos hC37 hF23
              -- region 18: mutex.go:193
              refine W.reg ?_
              refine WL.q (Y.move (.pl rfl)) rfl ?_
              refine WL.q (Y.move (.pl rfl)) rfl ?_
              refine WL.q (Y.move (.pl rfl)) rfl ?_
              obtain ⟨r36, hr36, hF23⟩ := bnd hF23
              refine WL.step (WO.call (γ := (Option Addr × Nat)) (fun g => .tuple #[]) (fun g => [cBx b12 165 (.slice (some ⟨b10, 0, none⟩) (r36.1).length people2.toNat :: (.int .i64 r36.2.1 :: (.int .i64 r36.2.2.1 :: (.int .i64 r36.2.2.2.1 :: (.slice g.1 (r36.2.2.2.2).length g.2 :: []))))), cR encMutexProcess 5 (some ⟨b10, 0, none⟩) people2.toNat 167 r36.1, cR encGate 2 g.1 g.2 172 r36.2.2.2.2]) (fun _ => True) isGo83 (.cons (.pl rfl) (.cons (.pl rfl) (.cons (.pl rfl) (.nil)))) rfl (fun w hw => mutex_machine_peterson_ok (T := []) (hr36) (hw.pick [0, 1, 2] rfl) ) ?_)
              rintro ⟨A37, c38⟩ -
              refine WL.nil ?_
              refine W.go hK28 (.cons (i := 0) rfl (.cons (i := 12) rfl (.cons (i := 46) rfl (.cons (i := 47) rfl (.cons (i := 48) rfl (.nil)))))) ?_
              -- region 23: mutex.go:186
              refine W.reg ?_
              obtain ⟨hk39, hF23⟩ := ckh hF23
              refine WL.q (Y.add (.pl rfl) (.pl rfl) (ok64_lt (hk39))) rfl ?_
              refine WL.q (Y.move (.pl rfl)) rfl ?_
              refine WL.nil ?_
              obtain rfl := Option.some.inj hF23
              exact W.again8 hK24 r36.1 r36.2.1 r36.2.2.1 r36.2.2.2.1 r36.2.2.2.2 (v32 + 1) A37 c38 k23 hN23 (Nat.lt_succ_self _) (.cons rfl (.nil)) (.cons (i := 0) rfl (.cons (i := 12) rfl (.cons (i := 46) rfl (.cons (i := 47) rfl (.nil))))) (fun w hw => hw.pick [0, 1, 2] rfl)
            · replace hF23 := cneg hC37 hF23
              -- region 19: mutex.go:194
              refine W.seqR fun Q40 hQ40 => ?_
              refine WL.q (Y.eql (.pl rfl) (.pl rfl)) rfl ?_
              refine WL.q (Y.assign (.pl rfl)) rfl ?_
              refine WL.next hQ40 (.cons (i := 0) rfl (.cons (i := 12) rfl (.cons (i := 15) rfl (.cons (i := 16) rfl (.cons (i := 46) rfl (.cons (i := 47) rfl (.cons (i := 48) rfl (.cons (i := 63) rfl (.cons (i := 74) rfl (.nil)))))))))) ?_
              refine W.cond (.pl rfl) (fun hC41 => ?_) (fun hC41 => ?_)
              · replace hF23 := cpos hC41 hF23
                -- region 20: mutex.go:195
                refine W.reg ?_
                refine WL.q (Y.move (.pl rfl)) rfl ?_
                refine WL.q (Y.move (.pl rfl)) rfl ?_
                refine WL.q (Y.move (.pl rfl)) rfl ?_
                obtain ⟨r40, hr40, hF23⟩ := bnd hF23
                refine WL.step (WO.call (γ := (Option Addr × Nat)) (fun g => .tuple #[]) (fun g => [cBx b12 165 (.slice (some ⟨b10, 0, none⟩) (r40.1).length people2.toNat :: (.int .i64 turn26 :: (.int .i64 r40.2.1 :: (.int .i64 r40.2.2.1 :: (.slice g.1 (r40.2.2.2).length g.2 :: []))))), cR encMutexProcess 5 (some ⟨b10, 0, none⟩) people2.toNat 167 r40.1, cR encGate 2 g.1 g.2 172 r40.2.2.2]) (fun _ => True) isGo84 (.cons (.pl rfl) (.cons (.pl rfl) (.cons (.pl rfl) (.nil)))) rfl (fun w hw => mutex_machine_bakery_ok (T := []) (hr40) (hw.pick [0, 1, 2] rfl) ) ?_)
                rintro ⟨A41, c42⟩ -
                refine WL.nil ?_
                refine W.go hK28 (.cons (i := 0) rfl (.cons (i := 12) rfl (.cons (i := 46) rfl (.cons (i := 47) rfl (.cons (i := 48) rfl (.nil)))))) ?_
                -- region 23: mutex.go:186
                refine W.reg ?_
                obtain ⟨hk43, hF23⟩ := ckh hF23
                refine WL.q (Y.add (.pl rfl) (.pl rfl) (ok64_lt (hk43))) rfl ?_
                refine WL.q (Y.move (.pl rfl)) rfl ?_
                refine WL.nil ?_
                obtain rfl := Option.some.inj hF23
                exact W.again8 hK24 r40.1 turn26 r40.2.1 r40.2.2.1 r40.2.2.2 (v32 + 1) A41 c42 k23 hN23 (Nat.lt_succ_self _) (.cons rfl (.nil)) (.cons (i := 0) rfl (.cons (i := 12) rfl (.cons (i := 46) rfl (.cons (i := 47) rfl (.nil))))) (fun w hw => hw.pick [0, 1, 2] rfl)
              · replace hF23 := cneg hC41 hF23
                -- region 21: mutex.go:196
                refine W.seqR fun Q44 hQ44 => ?_
                refine WL.q (Y.eql (.pl rfl) (.pl rfl)) rfl ?_
                refine WL.q (Y.assign (.pl rfl)) rfl ?_
                refine WL.next hQ44 (.cons (i := 0) rfl (.cons (i := 12) rfl (.cons (i := 15) rfl (.cons (i := 16) rfl (.cons (i := 46) rfl (.cons (i := 47) rfl (.cons (i := 48) rfl (.cons (i := 80) rfl (.nil))))))))) ?_
                refine W.cond (.pl rfl) (fun hC45 => ?_) (fun hC45 => ?_)
                · replace hF23 := cpos hC45 hF23
                  -- region 22: mutex.go:197
                  refine W.reg ?_
                  refine WL.q (Y.move (.pl rfl)) rfl ?_
                  refine WL.q (Y.move (.pl rfl)) rfl ?_
                  refine WL.q (Y.move (.pl rfl)) rfl ?_
                  obtain ⟨r44, hr44, hF23⟩ := bnd hF23
                  refine WL.step (WO.call (γ := (Option Addr × Nat)) (fun g => .tuple #[]) (fun g => [cBx b12 165 (.slice (some ⟨b10, 0, none⟩) (r44.1).length people2.toNat :: (.int .i64 turn26 :: (.int .i64 r44.2.1 :: (.int .i64 r44.2.2.1 :: (.slice g.1 (r44.2.2.2).length g.2 :: []))))), cR encMutexProcess 5 (some ⟨b10, 0, none⟩) people2.toNat 167 r44.1, cR encGate 2 g.1 g.2 172 r44.2.2.2]) (fun _ => True) isGo85 (.cons (.pl rfl) (.cons (.pl rfl) (.cons (.pl rfl) (.nil)))) rfl (fun w hw => mutex_machine_naive_ok (T := []) (hr44) (hw.pick [0, 1, 2] rfl) ) ?_)
                  rintro ⟨A45, c46⟩ -
                  refine WL.nil ?_
                  refine W.go hK28 (.cons (i := 0) rfl (.cons (i := 12) rfl (.cons (i := 46) rfl (.cons (i := 47) rfl (.cons (i := 48) rfl (.nil)))))) ?_
                  -- region 23: mutex.go:186
                  refine W.reg ?_
                  obtain ⟨hk47, hF23⟩ := ckh hF23
                  refine WL.q (Y.add (.pl rfl) (.pl rfl) (ok64_lt (hk47))) rfl ?_
                  refine WL.q (Y.move (.pl rfl)) rfl ?_
                  refine WL.nil ?_
                  obtain rfl := Option.some.inj hF23
                  exact W.again8 hK24 r44.1 turn26 r44.2.1 r44.2.2.1 r44.2.2.2 (v32 + 1) A45 c46 k23 hN23 (Nat.lt_succ_self _) (.cons rfl (.nil)) (.cons (i := 0) rfl (.cons (i := 12) rfl (.cons (i := 46) rfl (.cons (i := 47) rfl (.nil))))) (fun w hw => hw.pick [0, 1, 2] rfl)
                · replace hF23 := cneg hC45 hF23
                  -- region 16: mutex.go:199
                  refine W.reg ?_
                  refine WL.q (Y.move (.pl rfl)) rfl ?_
                  refine WL.q (Y.move (.pl rfl)) rfl ?_
                  refine WL.q (Y.move (.pl rfl)) rfl ?_
                  obtain ⟨r48, hr48, hF23⟩ := bnd hF23
                  refine WL.step (WO.call (γ := (Option Addr × Nat)) (fun g => .tuple #[]) (fun g => [cBx b12 165 (.slice (some ⟨b10, 0, none⟩) (r48.1).length people2.toNat :: (.int .i64 r48.2.1 :: (.int .i64 r48.2.2.1 :: (.int .i64 r48.2.2.2.1 :: (.slice g.1 (r48.2.2.2.2).length g.2 :: []))))), cR encMutexProcess 5 (some ⟨b10, 0, none⟩) people2.toNat 167 r48.1, cR encGate 2 g.1 g.2 172 r48.2.2.2.2]) (fun _ => True) isGo86 (.cons (.pl rfl) (.cons (.pl rfl) (.cons (.pl rfl) (.nil)))) rfl (fun w hw => mutex_machine_swap_ok (T := []) (hr48) (hw.pick [0, 1, 2] rfl) ) ?_)
                  rintro ⟨A49, c50⟩ -
                  refine WL.nil ?_
                  refine W.go hK28 (.cons (i := 0) rfl (.cons (i := 12) rfl (.cons (i := 46) rfl (.cons (i := 47) rfl (.cons (i := 48) rfl (.nil)))))) ?_
                  -- region 23: mutex.go:186
                  refine W.reg ?_
                  obtain ⟨hk51, hF23⟩ := ckh hF23
                  refine WL.q (Y.add (.pl rfl) (.pl rfl) (ok64_lt (hk51))) rfl ?_
                  refine WL.q (Y.move (.pl rfl)) rfl ?_
                  refine WL.nil ?_
                  obtain rfl := Option.some.inj hF23
                  exact W.again8 hK24 r48.1 r48.2.1 r48.2.2.1 r48.2.2.2.1 r48.2.2.2.2 (v32 + 1) A49 c50 k23 hN23 (Nat.lt_succ_self _) (.cons rfl (.nil)) (.cons (i := 0) rfl (.cons (i := 12) rfl (.cons (i := 46) rfl (.cons (i := 47) rfl (.nil))))) (fun w hw => hw.pick [0, 1, 2] rfl)
        · replace hF23 := cneg hC27 hF23
          refine W.exit ?_
          obtain rfl := Option.some.inj hF23
          exact W.joinAt7 hK21 people25 turn26 in27 most28 gates31 A29 c30 (einr hN23) (.nil) (.cons (i := 12) rfl (.nil)) (fun w hw => hw.pick [0, 1, 2] rfl)
      · -- behind
        rintro people18 turn19 in20 most21 gates24 A22 c23 rfl
        -- region 24: mutex.go:202
        refine W.seqD (by kernel_rfl) (by kernel_rfl) fun R50 hR50 => ?_
        refine WD.q (Y.move (.pl rfl)) rfl ?_
        refine WD.q (Y.nilCheck (.pl rfl)) rfl ?_
        refine WD.q (Y.fieldAddr0 (off := 4) (ft := 84) Try.underlying165 rfl cells84 (.pl rfl)) rfl ?_
        refine WD.q (Y.loadB (v := .slice A22 (gates24).length c23) Try.underlying84 rfl (.pl rfl) (i := 0) rfl (rfl)) rfl ?_
        refine WD.q (Y.move (.pl rfl)) rfl ?_
        refine WD.q (Y.nilCheck (.pl rfl)) rfl ?_
        refine WD.q (Y.fieldAddr0 (off := 3) (ft := 3) Try.underlying165 rfl cells3 (.pl rfl)) rfl ?_
        refine WD.q (Y.loadB (v := .int .i64 most21) Try.underlying3 rfl (.pl rfl) (i := 0) rfl (rfl)) rfl ?_
        refine WD.q (Y.assign (.pl rfl)) rfl ?_
        refine WD.q (Y.assign (.pl rfl)) rfl ?_
        refine WD.q (Y.assign (.pl rfl)) rfl ?_
        refine WD.next hR50 (.cons (i := 8) rfl (.cons (i := 9) rfl (.cons (i := 10) rfl (.nil)))) ?_
        obtain rfl := Option.some.inj hF
        refine W.retV (fn := Try.f43) (vs := [.slice A22 (gates24).length c23, .int .i64 most21, .int .i64 0]) Try.results43 ⟨.tmp rfl, ⟨.tmp rfl, ⟨.tmp rfl, trivial⟩⟩⟩ (fun _ _ h => h) (fun w hw => ?_)
        exact hR _ _ ⟨(A22, c23), trivial, rfl, (hw.pick [2] rfl)⟩

def alibkeep_ok_L3 (N : Nat) (l1 : (List Int)) : Int → Option (Int ⊕ (Unit ⊕ Bool))
  | v6 =>
    cond (decide (v6 < ((l1).length : Int)))
      (bd (ix l1 v6) fun (x7 : Int) =>
      cond (!(decide (x7 = 0)))
        (some (.inr (.inr false)))
        (ck (ok64 (v6 + 1)) <|
        some (.inl (v6 + 1))))
      (some (.inr (.inl ())))

def alibkeep_ok (N : Nat) (l1 : (List Int)) : Option Bool :=
  bd (α := (Unit ⊕ Bool)) (iter (alibkeep_ok_L3 N l1) N 0) <|
  Sum.elim (fun _ => 
    some true) (fun p => some p)

theorem alibkeep_ok_ok {N : Nat} {l1 : (List Int)} {res : Bool} (hF : alibkeep_ok N l1 = some res) (w : World) {v5 : Value} (hs4 : SlIn (eI .i64) 1 w v5 l1) :
    Pure Try.prog 19 [v5] w (.bool res) := by
  obtain ⟨A2, c3, rfl, hcc3, hs4⟩ := hs4.form
  refine W.enter (n := 14) Try.func19 rfl rfl Sub.refl (by simp) (St.start w) fun R hR => ?_
  unfold alibkeep_ok at hF
  -- region 0: order.go:22
  refine W.seqR fun Q1 hQ1 => ?_
  refine WL.q (Y.assign (.pl rfl)) rfl ?_
  refine WL.next hQ1 (.cons (i := 0) rfl (.nil)) ?_
  obtain ⟨o2, hF2, hF⟩ := bnd hF
  refine W.join0 (Em := []) (M := []) (I := (.inl ()) = o2) (.nil) (fun K3 hK3 => ?_) ?_
  · -- up to
    -- region 1: order.go:23
    refine W.seqR fun Q4 hQ4 => ?_
    refine WL.q (Y.move (.pl rfl)) rfl ?_
    refine WL.q (Y.len Try.underlying106 (.pl rfl)) rfl ?_
    refine WL.q (Y.move (.pl rfl)) rfl ?_
    refine WL.next hQ4 (.cons (i := 5) rfl (.cons (i := 6) rfl (.cons (i := 7) rfl (.nil)))) ?_
    refine W.block ?_
    refine W.loop1 (Em := fun (v6 : Int) => [(7, .int .i64 v6)]) (M := fun v6 => []) (I := fun v6 k5 => iter (alibkeep_ok_L3 N l1) k5 v6 = some o2) 0 N (hF2) (.cons rfl (.nil)) (.cons (i := 5) rfl (.cons (i := 6) rfl (.nil))) (fun w hw => hw.pick [] rfl) (fun v6 k5 hI K6 hK6 => ?_)
    obtain ⟨k5, t5, rfl, hF5, hN5⟩ := iter_step hI
    -- region 2: order.go:23
    refine W.seqR fun Q7 hQ7 => ?_
    refine WL.q (Y.lss (.pl rfl) (.pl rfl)) rfl ?_
    refine WL.next hQ7 (.cons (i := 5) rfl (.cons (i := 6) rfl (.cons (i := 7) rfl (.cons (i := 8) rfl (.nil))))) ?_
    refine W.seq fun K8 hK8 => ?_
    refine W.cond (.pl rfl) (fun hC9 => ?_) (fun hC9 => ?_)
    · replace hF5 := cpos hC9 hF5
      refine W.skip ?_
      refine W.go hK8 (.cons (i := 5) rfl (.cons (i := 6) rfl (.cons (i := 7) rfl (.nil)))) ?_
      refine W.seq fun K10 hK10 => ?_
      refine W.block ?_
      -- region 3: order.go:23
      refine W.seqR fun Q11 hQ11 => ?_
      obtain ⟨x7, hx7, hF5⟩ := bnd hF5
      refine WL.q (Y.slEl Try.underlying106 cells24 hs4 (.pl rfl) (.pl rfl) (ix_lt (hx7))) rfl ?_
      refine WL.q (Y.loadS (enc := (eI .i64)) (v := .int .i64 x7) (j := 0) Try.underlying24 rfl hs4 (.pl rfl) (hx7) rfl rfl) rfl ?_
      refine WL.q (Y.assign (.pl rfl)) rfl ?_
      refine WL.next hQ11 (.cons (i := 4) rfl (.cons (i := 5) rfl (.cons (i := 6) rfl (.cons (i := 7) rfl (.nil))))) ?_
      -- region 4: order.go:24
      refine W.seqR fun Q12 hQ12 => ?_
      refine WL.q (Y.move (.pl rfl)) rfl ?_
      refine WL.q (Y.neq (.pl rfl) (.pl rfl)) rfl ?_
      refine WL.next hQ12 (.cons (i := 5) rfl (.cons (i := 6) rfl (.cons (i := 7) rfl (.cons (i := 12) rfl (.nil))))) ?_
      refine W.cond (.pl rfl) (fun hC13 => ?_) (fun hC13 => ?_)
      · replace hF5 := cpos hC13 hF5
        -- region 5: order.go:25
        refine W.seqR fun Q14 hQ14 => ?_
        refine WL.q (Y.assign (.pl rfl)) rfl ?_
        refine WL.next hQ14 (.cons (i := 2) rfl (.nil)) ?_
        obtain rfl := Option.some.inj hF5
        obtain rfl := einr hN5
        obtain rfl := Option.some.inj hF
        refine W.retV (fn := Try.f19) (vs := [.bool false]) Try.results19 ⟨.tmp rfl, trivial⟩ (fun _ _ h => h) (fun w hw => ?_)
        exact hR _ _ ⟨rfl, (hw.pick [] rfl)⟩
      · replace hF5 := cneg hC13 hF5
        refine W.skip ?_
        refine W.go hK10 (.cons (i := 5) rfl (.cons (i := 6) rfl (.cons (i := 7) rfl (.nil)))) ?_
        -- region 6: order.go:23
        refine W.reg ?_
        obtain ⟨hk8, hF5⟩ := ckh hF5
        refine WL.q (Y.add (.pl rfl) (.pl rfl) (ok64_lt (hk8))) rfl ?_
        refine WL.q (Y.move (.pl rfl)) rfl ?_
        refine WL.nil ?_
        obtain rfl := Option.some.inj hF5
        exact W.again1 hK6 (v6 + 1) k5 hN5 (Nat.lt_succ_self _) (.cons rfl (.nil)) (.cons (i := 5) rfl (.cons (i := 6) rfl (.nil))) (fun w hw => hw.pick [] rfl)
    · replace hF5 := cneg hC9 hF5
      refine W.exit ?_
      obtain rfl := Option.some.inj hF5
      exact W.joinAt0 hK3  (einr hN5) (.nil) (.nil) (fun w hw => hw.pick [] rfl)
  · -- behind
    rintro  rfl
    -- region 7: order.go:28
    refine W.seqR fun Q16 hQ16 => ?_
    refine WL.q (Y.assign (.pl rfl)) rfl ?_
    refine WL.next hQ16 (.cons (i := 2) rfl (.nil)) ?_
    obtain rfl := Option.some.inj hF
    refine W.retV (fn := Try.f19) (vs := [.bool true]) Try.results19 ⟨.tmp rfl, trivial⟩ (fun _ _ h => h) (fun w hw => ?_)
    exact hR _ _ ⟨rfl, (hw.pick [] rfl)⟩

def slices_Equal_api_Gate_api_Gate_L3 (N : Nat) (s11 : (List Gate)) (s26 : (List Gate)) : Int → Option (Int ⊕ (Unit ⊕ Bool))
  | v11 =>
    cond (decide (v11 < ((s11).length : Int)))
      (bd (ix s11 v11) fun (x12 : Gate) =>
      bd (ix s26 v11) fun (x13 : Gate) =>
      cond (!(decide (x12 = x13)))
        (some (.inr (.inr false)))
        (ck (ok64 (v11 + 1)) <|
        some (.inl (v11 + 1))))
      (some (.inr (.inl ())))

def slices_Equal_api_Gate_api_Gate (N : Nat) (s11 : (List Gate)) (s26 : (List Gate)) : Option Bool :=
  cond (!(decide (((s11).length : Int) = ((s26).length : Int))))
    (some false)
    (bd (α := (Unit ⊕ Bool)) (iter (slices_Equal_api_Gate_api_Gate_L3 N s11 s26) N 0) <|
    Sum.elim (fun _ => 
      some true) (fun p => some p))

theorem slices_Equal_api_Gate_api_Gate_ok {N : Nat} {s11 : (List Gate)} {s26 : (List Gate)} {res : Bool} (hF : slices_Equal_api_Gate_api_Gate N s11 s26 = some res) (w : World) {v5 : Value} (hs4 : SlIn encGate 2 w v5 s11) {v10 : Value} (hs9 : SlIn encGate 2 w v10 s26) :
    Pure Try.prog 87 [v5, v10] w (.bool res) := by
  obtain ⟨A2, c3, rfl, hcc3, hs4⟩ := hs4.form
  obtain ⟨A7, c8, rfl, hcc8, hs9⟩ := hs9.form
  refine W.enter (n := 26) Try.func87 rfl rfl Sub.refl (by simp) (St.start w) fun R hR => ?_
  unfold slices_Equal_api_Gate_api_Gate at hF
  -- region 0: slices.go:20
  refine W.seqR fun Q1 hQ1 => ?_
  refine WL.q (Y.assign (.pl rfl)) rfl ?_
  refine WL.next hQ1 (.cons (i := 0) rfl (.cons (i := 1) rfl (.nil))) ?_
  refine W.seq fun K2 hK2 => ?_
  -- region 1: slices.go:21
  refine W.seqR fun Q3 hQ3 => ?_
  refine WL.q (Y.move (.pl rfl)) rfl ?_
  refine WL.q (Y.len Try.underlying84 (.pl rfl)) rfl ?_
  refine WL.q (Y.move (.pl rfl)) rfl ?_
  refine WL.q (Y.len Try.underlying84 (.pl rfl)) rfl ?_
  refine WL.q (Y.neq (.pl rfl) (.pl rfl)) rfl ?_
  refine WL.next hQ3 (.cons (i := 0) rfl (.cons (i := 1) rfl (.cons (i := 10) rfl (.nil)))) ?_
  refine W.cond (.pl rfl) (fun hC4 => ?_) (fun hC4 => ?_)
  · replace hF := cpos hC4 hF
    -- region 2: slices.go:22
    refine W.seqR fun Q5 hQ5 => ?_
    refine WL.q (Y.assign (.pl rfl)) rfl ?_
    refine WL.next hQ5 (.cons (i := 4) rfl (.nil)) ?_
    obtain rfl := Option.some.inj hF
    refine W.retV (fn := Try.f87) (vs := [.bool false]) Try.results87 ⟨.tmp rfl, trivial⟩ (fun _ _ h => h) (fun w hw => ?_)
    exact hR _ _ ⟨rfl, (hw.pick [] rfl)⟩
  · replace hF := cneg hC4 hF
    refine W.skip ?_
    refine W.go hK2 (.cons (i := 0) rfl (.cons (i := 1) rfl (.nil))) ?_
    obtain ⟨o6, hF6, hF⟩ := bnd hF
    refine W.join0 (Em := []) (M := []) (I := (.inl ()) = o6) (.nil) (fun K7 hK7 => ?_) ?_
    · -- up to
      -- region 3: slices.go:24
      refine W.seqR fun Q8 hQ8 => ?_
      refine WL.q (Y.move (.pl rfl)) rfl ?_
      refine WL.q (Y.len Try.underlying84 (.pl rfl)) rfl ?_
      refine WL.q (Y.move (.pl rfl)) rfl ?_
      refine WL.next hQ8 (.cons (i := 0) rfl (.cons (i := 1) rfl (.cons (i := 12) rfl (.cons (i := 13) rfl (.nil))))) ?_
      refine W.block ?_
      refine W.loop1 (Em := fun (v11 : Int) => [(13, .int .i64 v11)]) (M := fun v11 => []) (I := fun v11 k9 => iter (slices_Equal_api_Gate_api_Gate_L3 N s11 s26) k9 v11 = some o6) 0 N (hF6) (.cons rfl (.nil)) (.cons (i := 0) rfl (.cons (i := 1) rfl (.cons (i := 12) rfl (.nil)))) (fun w hw => hw.pick [] rfl) (fun v11 k9 hI K10 hK10 => ?_)
      obtain ⟨k9, t9, rfl, hF9, hN9⟩ := iter_step hI
      -- region 4: slices.go:24
      refine W.seqR fun Q11 hQ11 => ?_
      refine WL.q (Y.lss (.pl rfl) (.pl rfl)) rfl ?_
      refine WL.next hQ11 (.cons (i := 0) rfl (.cons (i := 1) rfl (.cons (i := 12) rfl (.cons (i := 13) rfl (.cons (i := 14) rfl (.nil)))))) ?_
      refine W.seq fun K12 hK12 => ?_
      refine W.cond (.pl rfl) (fun hC13 => ?_) (fun hC13 => ?_)
      · replace hF9 := cpos hC13 hF9
        refine W.skip ?_
        refine W.go hK12 (.cons (i := 0) rfl (.cons (i := 1) rfl (.cons (i := 12) rfl (.cons (i := 13) rfl (.nil))))) ?_
        refine W.seq fun K14 hK14 => ?_
        refine W.block ?_
        -- region 5: slices.go:24
        refine W.seqR fun Q15 hQ15 => ?_
        refine WL.q (Y.move (.pl rfl)) rfl ?_
        refine WL.q (Y.assign (.pl rfl)) rfl ?_
        refine WL.next hQ15 (.cons (i := 0) rfl (.cons (i := 1) rfl (.cons (i := 5) rfl (.cons (i := 12) rfl (.cons (i := 13) rfl (.nil)))))) ?_
        -- region 6: slices.go:25
        refine W.seqD (by kernel_rfl) (by kernel_rfl) fun R16 hR16 => ?_
        refine WD.q (Y.move (.pl rfl)) rfl ?_
        refine WD.q (Y.move (.pl rfl)) rfl ?_
        obtain ⟨x12, hx12, hF9⟩ := bnd hF9
        refine WD.q (Y.slEl Try.underlying84 cells172 hs4 (.pl rfl) (.pl rfl) (ix_lt (hx12))) rfl ?_
        refine WD.q (Y.loadSA (enc := encGate) (ds := (encGate x12)) (j := 0) Try.underlying172 rfl cells172 hs4 (.pl rfl) (hx12) rfl rfl subW) rfl ?_
        refine WD.q (Y.move (.pl rfl)) rfl ?_
        refine WD.q (Y.move (.pl rfl)) rfl ?_
        obtain ⟨x13, hx13, hF9⟩ := bnd hF9
        refine WD.q (Y.slEl Try.underlying84 cells172 hs9 (.pl rfl) (.pl rfl) (ix_lt (hx13))) rfl ?_
        refine WD.q (Y.loadSA (enc := encGate) (ds := (encGate x13)) (j := 0) Try.underlying172 rfl cells172 hs9 (.pl rfl) (hx13) rfl rfl subW) rfl ?_
        refine WD.q (Y.neqS eqs172 (.pl rfl) (.pl rfl) (eqGate x12 x13)) rfl ?_
        refine WD.next hR16 (.cons (i := 0) rfl (.cons (i := 1) rfl (.cons (i := 12) rfl (.cons (i := 13) rfl (.cons (i := 24) rfl (.nil)))))) ?_
        refine W.cond (.pl rfl) (fun hC17 => ?_) (fun hC17 => ?_)
        · replace hF9 := cpos hC17 hF9
          -- region 7: slices.go:26
          refine W.seqR fun Q18 hQ18 => ?_
          refine WL.q (Y.assign (.pl rfl)) rfl ?_
          refine WL.next hQ18 (.cons (i := 4) rfl (.nil)) ?_
          obtain rfl := Option.some.inj hF9
          obtain rfl := einr hN9
          obtain rfl := Option.some.inj hF
          refine W.retV (fn := Try.f87) (vs := [.bool false]) Try.results87 ⟨.tmp rfl, trivial⟩ (fun _ _ h => h) (fun w hw => ?_)
          exact hR _ _ ⟨rfl, (hw.pick [] rfl)⟩
        · replace hF9 := cneg hC17 hF9
          refine W.skip ?_
          refine W.go hK14 (.cons (i := 0) rfl (.cons (i := 1) rfl (.cons (i := 12) rfl (.cons (i := 13) rfl (.nil))))) ?_
          -- region 8: slices.go:24
          refine W.reg ?_
          obtain ⟨hk14, hF9⟩ := ckh hF9
          refine WL.q (Y.add (.pl rfl) (.pl rfl) (ok64_lt (hk14))) rfl ?_
          refine WL.q (Y.move (.pl rfl)) rfl ?_
          refine WL.nil ?_
          obtain rfl := Option.some.inj hF9
          exact W.again1 hK10 (v11 + 1) k9 hN9 (Nat.lt_succ_self _) (.cons rfl (.nil)) (.cons (i := 0) rfl (.cons (i := 1) rfl (.cons (i := 12) rfl (.nil)))) (fun w hw => hw.pick [] rfl)
      · replace hF9 := cneg hC13 hF9
        refine W.exit ?_
        obtain rfl := Option.some.inj hF9
        exact W.joinAt0 hK7  (einr hN9) (.nil) (.nil) (fun w hw => hw.pick [] rfl)
    · -- behind
      rintro  rfl
      -- region 9: slices.go:29
      refine W.seqR fun Q20 hQ20 => ?_
      refine WL.q (Y.assign (.pl rfl)) rfl ?_
      refine WL.next hQ20 (.cons (i := 4) rfl (.nil)) ?_
      obtain rfl := Option.some.inj hF
      refine W.retV (fn := Try.f87) (vs := [.bool true]) Try.results87 ⟨.tmp rfl, trivial⟩ (fun _ _ h => h) (fun w hw => ?_)
      exact hR _ _ ⟨rfl, (hw.pick [] rfl)⟩

def alibkeep_mutexLives (N : Nat) : Option Bool :=
  bd (mutex_Play N 1 2 1 ([0, 0, 1, 1, 1, 0, 0, 0, 1] : List Int)) fun (r2 : ((List Gate) × Int × Int)) =>
  bd (mutex_Play N 3 2 1 ([0, 1, 0, 1, 0, 1] : List Int)) fun (r6 : ((List Gate) × Int × Int)) =>
  bd (α := Bool) (bd (alibkeep_ok N ([r2.2.2, r6.2.2] : List Int)) fun (r11 : Bool) =>
    cond (((r11 && (decide (r2.2.1 = 1))) && (decide (r6.2.1 = 2))) == true)
      (bd (slices_Equal_api_Gate_api_Gate N r2.1 ([(Gate.mk 0 true), (Gate.mk 0 false), (Gate.mk 1 true)] : List Gate)) fun (r13 : Bool) =>
      some (((r11 && (decide (r2.2.1 = 1))) && (decide (r6.2.1 = 2))) && r13))
      (some (((r11 && (decide (r2.2.1 = 1))) && (decide (r6.2.1 = 2))) && false))) <|
  fun (v9 : Bool) => 
    some v9

theorem alibkeep_mutexLives_ok {N : Nat} {res : Bool} (hF : alibkeep_mutexLives N = some res) (w : World) :
    Pure Try.prog 44 [] w (.bool res) := by
  refine W.enter (n := 39) Try.func44 rfl rfl Sub.refl (by simp) (St.start w) fun R hR => ?_
  unfold alibkeep_mutexLives at hF
  -- region 0: mutex.go:11
  refine W.seqR fun Q1 hQ1 => ?_
  refine WL.q (Y.assign (.pl rfl)) rfl ?_
  refine WL.next hQ1 (.nil) ?_
  -- region 1: mutex.go:12
  refine W.seqR fun Q2 hQ2 => ?_
  refine WL.step (WO.bsliceC (enc := (eI .i64)) (ys := ([0, 0, 1, 1, 1, 0, 0, 0, 1] : List Int)) Try.underlying23 bz3 (.cons (.pl rfl) (.cons (.pl rfl) (.cons (.pl rfl) (.cons (.pl rfl) (.cons (.pl rfl) (.cons (.pl rfl) (.cons (.pl rfl) (.cons (.pl rfl) (.cons (.pl rfl) (.nil)))))))))) rfl (fun _ => rfl) rfl rfl (by decide) (by decide) rfl fun b1 => ?_)
  obtain ⟨r2, hr2, hF⟩ := bnd hF
  refine WL.step (WO.callM isGo43 (.cons (.pl rfl) (.cons (.pl rfl) (.cons (.pl rfl) (.cons (.pl rfl) (.nil))))) rfl (fun w hw => mutex_Play_ok (hr2) w (SlIn.ofRow (fun _ => rfl) hw (i := 0) rfl)) ?_)
  rintro ⟨A3, c4⟩ -
  refine WL.q (Y.move (.pl rfl)) rfl ?_
  refine WL.q (Y.extract (.pl rfl) rfl) rfl ?_
  refine WL.q (Y.extract (.pl rfl) rfl) rfl ?_
  refine WL.q (Y.extract (.pl rfl) rfl) rfl ?_
  refine WL.q (Y.assign (.pl rfl)) rfl ?_
  refine WL.q (Y.assign (.pl rfl)) rfl ?_
  refine WL.q (Y.assign (.pl rfl)) rfl ?_
  refine WL.next hQ2 (.cons (i := 1) rfl (.cons (i := 2) rfl (.cons (i := 3) rfl (.nil)))) ?_
  -- region 2: mutex.go:13
  refine W.seqR fun Q3 hQ3 => ?_
  refine WL.step (WO.bsliceC (enc := (eI .i64)) (ys := ([0, 1, 0, 1, 0, 1] : List Int)) Try.underlying23 bz3 (.cons (.pl rfl) (.cons (.pl rfl) (.cons (.pl rfl) (.cons (.pl rfl) (.cons (.pl rfl) (.cons (.pl rfl) (.nil))))))) rfl (fun _ => rfl) rfl rfl (by decide) (by decide) rfl fun b5 => ?_)
  obtain ⟨r6, hr6, hF⟩ := bnd hF
  refine WL.step (WO.callM isGo43 (.cons (.pl rfl) (.cons (.pl rfl) (.cons (.pl rfl) (.cons (.pl rfl) (.nil))))) rfl (fun w hw => mutex_Play_ok (hr6) w (SlIn.ofRow (fun _ => rfl) hw (i := 0) rfl)) ?_)
  rintro ⟨A7, c8⟩ -
  refine WL.q (Y.move (.pl rfl)) rfl ?_
  refine WL.q (Y.extract (.pl rfl) rfl) rfl ?_
  refine WL.q (Y.extract (.pl rfl) rfl) rfl ?_
  refine WL.q (Y.extract (.pl rfl) rfl) rfl ?_
  refine WL.q (Y.assign (.pl rfl)) rfl ?_
  refine WL.q (Y.assign (.pl rfl)) rfl ?_
  refine WL.q (Y.assign (.pl rfl)) rfl ?_
  refine WL.next hQ3 (.cons (i := 1) rfl (.cons (i := 2) rfl (.cons (i := 3) rfl (.cons (i := 5) rfl (.cons (i := 6) rfl (.nil)))))) ?_
  obtain ⟨o4, hF4, hF⟩ := bnd hF
  refine W.join1 (Em := fun (v9 : Bool) => [(0, .bool v9)]) (M := fun v9 => []) (I := fun v9 => v9 = o4) (.nil) (fun K5 hK5 => ?_) ?_
  · -- up to
    -- region 3: mutex.go:14
    refine W.reg ?_
    refine WL.q (Y.move (.pl rfl)) rfl ?_
    refine WL.q (Y.move (.pl rfl)) rfl ?_
    refine WL.step (WO.bsliceC (enc := (eI .i64)) (ys := ([r2.2.2, r6.2.2] : List Int)) Try.underlying106 bz24 (.cons (.pl rfl) (.cons (.pl rfl) (.nil))) rfl (fun _ => rfl) rfl rfl (by decide) (by decide) rfl fun b10 => ?_)
    obtain ⟨r11, hr11, hF4⟩ := bnd hF4
    refine WL.step (WO.callP isGo19 (.cons (.pl rfl) (.nil)) rfl (fun w hw => alibkeep_ok_ok (hr11) w (SlIn.ofRow (fun _ => rfl) hw (i := 0) rfl)) ?_)
    refine WL.q (Y.move (.pl rfl)) rfl ?_
    refine WL.g (.pl rfl rfl rfl) (fun hg => Y.move (.pl rfl)) rfl ?_
    refine WL.g (.pl rfl rfl rfl) (fun hg => Y.eql (.gd (hg) rfl) (.pl rfl)) rfl ?_
    refine WL.q (Y.and (.pl rfl) (fun h2 => .gd (eqt h2) rfl)) rfl ?_
    refine WL.q (Y.move (.pl rfl)) rfl ?_
    refine WL.g (.pl rfl rfl rfl) (fun hg => Y.move (.pl rfl)) rfl ?_
    refine WL.g (.pl rfl rfl rfl) (fun hg => Y.eql (.gd (hg) rfl) (.pl rfl)) rfl ?_
    refine WL.q (Y.and (.pl rfl) (fun h2 => .gd (eqt h2) rfl)) rfl ?_
    refine WL.q (Y.move (.pl rfl)) rfl ?_
    refine WL.g (.pl rfl rfl rfl) (fun hg => Y.move (.pl rfl)) rfl ?_
    refine WL.g (.pl rfl rfl rfl) (fun hg => Y.build (cs := (encGate (Gate.mk 0 true)).toArray) shape172 (.cons (.pl rfl) (.cons (.pl rfl) (.nil))) (one_parts ⟨rfl, ⟨rfl, trivial⟩⟩) rfl) rfl ?_
    refine WL.g (.pl rfl rfl rfl) (fun hg => Y.build (cs := (encGate (Gate.mk 0 false)).toArray) shape172 (.cons (.pl rfl) (.nil)) (one_parts ⟨rfl, trivial⟩) rfl) rfl ?_
    refine WL.g (.pl rfl rfl rfl) (fun hg => Y.build (cs := (encGate (Gate.mk 1 true)).toArray) shape172 (.cons (.pl rfl) (.cons (.pl rfl) (.nil))) (one_parts ⟨rfl, ⟨rfl, trivial⟩⟩) rfl) rfl ?_
    refine bsplit (((r11 && (decide (r2.2.1 = 1))) && (decide (r6.2.1 = 2))) == true) (fun hg6 => ?_) (fun hg6 => ?_)
    · replace hF4 := cpos hg6 hF4
      refine WL.gd (.pl rfl rfl rfl) (hg6) ?_
      refine WL.step (WO.bsliceC (enc := encGate) (ys := ([(Gate.mk 0 true), (Gate.mk 0 false), (Gate.mk 1 true)] : List Gate)) Try.underlying84 bz172 (.cons (.gd (hg6) rfl) (.cons (.gd (hg6) rfl) (.cons (.gd (hg6) rfl) (.nil)))) rfl lenGate rfl rfl (by decide) (by decide) rfl fun b12 => ?_)
      refine WL.gd (.pl rfl rfl rfl) (hg6) ?_
      obtain ⟨r13, hr13, hF4⟩ := bnd hF4
      refine WL.step (WO.callP isGo87 (.cons (.gd (hg6) rfl) (.cons (.pl rfl) (.nil))) rfl (fun w hw => slices_Equal_api_Gate_api_Gate_ok (hr13) w (SlIn.ofRow lenGate hw (i := 4) rfl) (SlIn.ofRow lenGate hw (i := 0) rfl)) ?_)
      refine WL.q (Y.and (.pl rfl) (fun _ => .pl rfl)) rfl ?_
      refine WL.q (Y.assign (.pl rfl)) rfl ?_
      refine WL.nil ?_
      exact W.joinAt1 hK5 (((r11 && (decide (r2.2.1 = 1))) && (decide (r6.2.1 = 2))) && r13) (Option.some.inj hF4) (.cons rfl (.nil)) (.nil) (fun w hw => hw.pick [] rfl)
    · replace hF4 := cneg hg6 hF4
      refine WL.gn (.pl rfl rfl rfl) hg6 rfl ?_
      refine WL.gn (.pl rfl rfl rfl) hg6 rfl ?_
      refine WL.q (Y.and (b := false) (.pl rfl) (fun h2 => (gabsA hg6 h2).elim)) rfl ?_
      refine WL.q (Y.assign (.pl rfl)) rfl ?_
      refine WL.nil ?_
      exact W.joinAt1 hK5 (((r11 && (decide (r2.2.1 = 1))) && (decide (r6.2.1 = 2))) && false) (Option.some.inj hF4) (.cons rfl (.nil)) (.nil) (fun w hw => hw.pick [] rfl)
  · -- behind
    rintro v9 rfl
    obtain rfl := Option.some.inj hF
    refine W.retV (fn := Try.f44) (vs := [.bool v9]) Try.results44 ⟨.tmp rfl, trivial⟩ (fun _ _ h => h) (fun w hw => ?_)
    exact hR _ _ ⟨rfl, (hw.pick [] rfl)⟩

/-- slices.Clone -/
theorem slices_Clone_int_int_ok {xs : List Int} (hb : limB 8 xs.length = true) (w : World) {v : Value} (h : SlIn (eI .i64) 1 w v xs) :
    Made Try.prog 36 [v] w (fun g : Option Addr × Nat => .slice g.1 xs.length g.2) (fun g => [cR (eI .i64) 1 g.1 g.2 3 xs]) (fun _ => True) := by
  obtain ⟨A1, c1, rfl, hc1, hs⟩ := h.form
  refine W.enter (n := 8) Try.func36 rfl rfl Sub.refl (by simp) (St.start w) fun R hR => ?_
  refine W.seqR fun Q1 hQ1 => ?_
  refine WL.q (Y.assign (.pl rfl)) rfl ?_
  refine WL.next hQ1 (.cons (i := 0) rfl (.nil)) ?_
  refine W.seq fun K2 hK2 => ?_
  refine W.seqR fun Q3 hQ3 => ?_
  refine WL.q (Y.move (.pl rfl)) rfl ?_
  refine WL.q (Y.eqNil Try.underlying23 (.pl rfl)) rfl ?_
  refine WL.next hQ3 (.cons (i := 0) rfl (.cons (i := 4) rfl (.nil))) ?_
  refine W.cond (.pl rfl) (fun hC => ?_) (fun hC => ?_)
  · refine W.seqR fun Q4 hQ4 => ?_
    refine WL.q (Y.assign (.pl rfl)) rfl ?_
    refine WL.next hQ4 (.cons (i := 2) rfl (.nil)) ?_
    have hx : xs = [] := by
      cases xs with
      | nil => rfl
      | cons a r =>
        have := (hs.okA' (idx := 0) ⟨Int.le_refl _, by simp⟩).1
        rw [Option.isNone_iff_eq_none] at hC
        rw [hC] at this; cases this
    subst hx
    refine W.retV (fn := Try.f36) (vs := [.slice none 0 0]) Try.results36 ⟨.tmp rfl, trivial⟩ (fun _ _ h => h) (fun w hw => ?_)
    exact hR _ _ ⟨(none, 0), trivial, rfl, St.nilR hw (eI .i64) 1 3⟩
  · refine W.skip ?_
    refine W.go hK2 (.cons (i := 0) rfl (.nil)) ?_
    obtain ⟨a1, rfl⟩ : ∃ a, A1 = some a := by cases A1 with
      | none => cases hC
      | some a => exact ⟨a, rfl⟩
    refine W.seqR fun Q5 hQ5 => ?_
    refine WL.step (WO.bsliceC (enc := (eI .i64)) (ys := []) Try.underlying23 bz3 (.nil) rfl (fun _ => rfl) rfl rfl (by decide) (by decide) rfl fun b => ?_)
    refine WL.q (Y.move (.pl rfl)) rfl ?_
    refine WL.step (WO.appendS (enc := (eI .i64)) (ys := xs) (xs := []) Try.underlying23 ap3 (fun _ => rfl) oneI (.pl rfl) rfl (.pl rfl) (i := 0) rfl (fun w hw => hs.mono hw) (by simpa using hb) rfl fun A c => ?_)
    refine WL.q (Y.assign (.pl rfl)) rfl ?_
    refine WL.next hQ5 (.cons (i := 2) rfl (.nil)) ?_
    refine W.retV (fn := Try.f36) (vs := [.slice A xs.length c]) Try.results36 ⟨.tmp rfl, trivial⟩ (fun _ _ h => h) (fun w hw => ?_)
    exact hR _ _ ⟨(A, c), trivial, rfl, hw⟩

def alibkeep_MutexGoes_L15 (N : Nat) (people2 : Int) : ((List Int) × Int) → Option (((List Int) × Int) ⊕ (List Int))
  | (all26, v27) =>
    cond (decide (v27 < people2))
      (ck (limB 8 ((all26).length + (([v27] : List Int)).length)) <|
      ck (ok64 (v27 + 1)) <|
      some (.inl ((all26 ++ ([v27] : List Int)), (v27 + 1))))
      (some (.inr all26))

def alibkeep_MutexGoes_L14 (N : Nat) (people2 : Int) : (List Int) → Option ((List Int) ⊕ (List Int))
  | all22 =>
    ck (ok64 (((all22).length : Int) + people2)) <|
    cond (decide ((((all22).length : Int) + people2) ≤ 600))
      (bd (α := (List Int)) (iter (alibkeep_MutexGoes_L15 N people2) N (all22, 0)) <| fun p => some (.inl p))
      (some (.inr all22))

def alibkeep_MutexGoes (N : Nat) (algo1 : Int) (people2 : Int) (turns3 : Int) (list4 : (List Int)) : Option Bool :=
  bd (mutex_Play N algo1 people2 turns3 list4) fun (r9 : ((List Gate) × Int × Int)) =>
  bd (alibkeep_mutexLives N) fun (r12 : Bool) =>
  cond (((!r12) || (!(decide (r9.2.2 = 0)))) || (decide (algo1 = 3)))
    (bd (alibkeep_mutexLives N) fun (r13 : Bool) =>
    some r13)
    (ck (limB 8 (list4).length) <|
    bd (α := (List Int)) (iter (alibkeep_MutexGoes_L14 N people2) N list4) <|
    fun (all19 : (List Int)) => 
      ck (ok64 (((all19).length : Int) - ((list4).length : Int))) <|
      ck (ok64 (people2 * people2)) <|
      ck (ok64 ((people2 * people2) * turns3)) <|
      ck (ok64 (((people2 * people2) * turns3) * 12)) <|
      cond (decide ((((all19).length : Int) - ((list4).length : Int)) < (((people2 * people2) * turns3) * 12)))
        (some true)
        (bd (mutex_Play N algo1 people2 turns3 all19) fun (r37 : ((List Gate) × Int × Int)) =>
        ck (!((decide (r37.2.2 = 0)) == true) || (ok64 (2 * people2))) <|
        ck (!((decide (r37.2.2 = 0)) == true) || (ok64 ((2 * people2) * turns3))) <|
        some ((decide (r37.2.2 = 0)) && (decide (((r37.1).length : Int) = ((2 * people2) * turns3))))))

theorem alibkeep_MutexGoes_ok {N : Nat} {algo1 : Int} {people2 : Int} {turns3 : Int} {list4 : (List Int)} {res : Bool} (hF : alibkeep_MutexGoes N algo1 people2 turns3 list4 = some res) (w : World) {v8 : Value} (hs7 : SlIn (eI .i64) 1 w v8 list4) :
    Pure Try.prog 11 [.int .i64 algo1, .int .i64 people2, .int .i64 turns3, v8] w (.bool res) := by
  obtain ⟨A5, c6, rfl, hcc6, hs7⟩ := hs7.form
  refine W.enter (n := 85) Try.func11 rfl rfl Sub.refl (by simp) (St.start w) fun R hR => ?_
  unfold alibkeep_MutexGoes at hF
  -- region 0: mutex.go:38
  refine W.seqR fun Q1 hQ1 => ?_
  refine WL.q (Y.assign (.pl rfl)) rfl ?_
  refine WL.next hQ1 (.cons (i := 0) rfl (.cons (i := 1) rfl (.cons (i := 2) rfl (.cons (i := 3) rfl (.nil))))) ?_
  -- region 1: mutex.go:39
  refine W.seqR fun Q2 hQ2 => ?_
  refine WL.q (Y.move (.pl rfl)) rfl ?_
  refine WL.q (Y.move (.pl rfl)) rfl ?_
  refine WL.q (Y.move (.pl rfl)) rfl ?_
  refine WL.q (Y.move (.pl rfl)) rfl ?_
  obtain ⟨r9, hr9, hF⟩ := bnd hF
  refine WL.step (WO.callM isGo43 (.cons (.pl rfl) (.cons (.pl rfl) (.cons (.pl rfl) (.cons (.pl rfl) (.nil))))) rfl (fun w hw => mutex_Play_ok (hr9) w (hs7.mono hw)) ?_)
  rintro ⟨A10, c11⟩ -
  refine WL.q (Y.move (.pl rfl)) rfl ?_
  refine WL.q (Y.extract (.pl rfl) rfl) rfl ?_
  refine WL.q (Y.extract (.pl rfl) rfl) rfl ?_
  refine WL.q (Y.extract (.pl rfl) rfl) rfl ?_
  refine WL.q (Y.assign (.pl rfl)) rfl ?_
  refine WL.q (Y.assign (.pl rfl)) rfl ?_
  refine WL.q (Y.assign (.pl rfl)) rfl ?_
  refine WL.next hQ2 (.cons (i := 0) rfl (.cons (i := 1) rfl (.cons (i := 2) rfl (.cons (i := 3) rfl (.cons (i := 11) rfl (.nil)))))) ?_
  refine W.seq fun K3 hK3 => ?_
  -- region 2: mutex.go:40
  refine W.seqR fun Q4 hQ4 => ?_
  obtain ⟨r12, hr12, hF⟩ := bnd hF
  refine WL.step (WO.callP isGo44 (.nil) rfl (fun w hw => alibkeep_mutexLives_ok (hr12) w ) ?_)
  refine WL.q (Y.not (.pl rfl)) rfl ?_
  refine WL.q (Y.move (.pl rfl)) rfl ?_
  refine WL.g (.pl rfl rfl rfl) (fun hg => Y.move (.pl rfl)) rfl ?_
  refine WL.g (.pl rfl rfl rfl) (fun hg => Y.neq (.gd (hg) rfl) (.pl rfl)) rfl ?_
  refine WL.q (Y.or (.pl rfl) (fun h2 => .gd (eqf h2) rfl)) rfl ?_
  refine WL.q (Y.move (.pl rfl)) rfl ?_
  refine WL.g (.pl rfl rfl rfl) (fun hg => Y.move (.pl rfl)) rfl ?_
  refine WL.g (.pl rfl rfl rfl) (fun hg => Y.eql (.gd (hg) rfl) (.pl rfl)) rfl ?_
  refine WL.q (Y.or (.pl rfl) (fun h2 => .gd (eqf h2) rfl)) rfl ?_
  refine WL.next hQ4 (.cons (i := 0) rfl (.cons (i := 1) rfl (.cons (i := 2) rfl (.cons (i := 3) rfl (.cons (i := 35) rfl (.nil)))))) ?_
  refine W.cond (.pl rfl) (fun hC5 => ?_) (fun hC5 => ?_)
  · replace hF := cpos hC5 hF
    -- region 3: mutex.go:41
    refine W.seqR fun Q6 hQ6 => ?_
    obtain ⟨r13, hr13, hF⟩ := bnd hF
    refine WL.step (WO.callP isGo44 (.nil) rfl (fun w hw => alibkeep_mutexLives_ok (hr13) w ) ?_)
    refine WL.q (Y.assign (.pl rfl)) rfl ?_
    refine WL.next hQ6 (.cons (i := 8) rfl (.nil)) ?_
    obtain rfl := Option.some.inj hF
    refine W.retV (fn := Try.f11) (vs := [.bool r13]) Try.results11 ⟨.tmp rfl, trivial⟩ (fun _ _ h => h) (fun w hw => ?_)
    exact hR _ _ ⟨rfl, (hw.pick [] rfl)⟩
  · replace hF := cneg hC5 hF
    refine W.skip ?_
    refine W.go hK3 (.cons (i := 0) rfl (.cons (i := 1) rfl (.cons (i := 2) rfl (.cons (i := 3) rfl (.nil))))) ?_
    -- region 4: mutex.go:43
    refine W.seqR fun Q7 hQ7 => ?_
    refine WL.q (Y.move (.pl rfl)) rfl ?_
    obtain ⟨hk14, hF⟩ := ckh hF
    refine WL.step (WO.callM isGo36 (.cons (.pl rfl) (.nil)) rfl (fun w hw => slices_Clone_int_int_ok (hk14) w (hs7.mono hw)) ?_)
    rintro ⟨A15, c16⟩ -
    refine WL.q (Y.assign (.pl rfl)) rfl ?_
    refine WL.next hQ7 (.cons (i := 0) rfl (.cons (i := 1) rfl (.cons (i := 2) rfl (.cons (i := 3) rfl (.cons (i := 12) rfl (.nil)))))) ?_
    obtain ⟨o8, hF8, hF⟩ := bnd hF
    refine W.join3 (Em := fun (all19 : (List Int)) (A17 : Option Addr) (c18 : Nat) => [(12, .slice A17 (all19).length c18)]) (M := fun all19 A17 c18 => [cR (eI .i64) 1 A17 c18 3 all19]) (I := fun all19 A17 c18 => all19 = o8) (.cons (i := 0) rfl (.cons (i := 1) rfl (.cons (i := 2) rfl (.cons (i := 3) rfl (.nil))))) (fun K9 hK9 => ?_) ?_
    · -- up to
      refine W.block ?_
      refine W.loop3 (Em := fun (all22 : (List Int)) (A20 : Option Addr) (c21 : Nat) => [(12, .slice A20 (all22).length c21)]) (M := fun all22 A20 c21 => [cR (eI .i64) 1 A20 c21 3 all22]) (I := fun all22 A20 c21 k10 => iter (alibkeep_MutexGoes_L14 N people2) k10 all22 = some o8) list4 A15 c16 N (hF8) (.cons rfl (.nil)) (.cons (i := 0) rfl (.cons (i := 1) rfl (.cons (i := 2) rfl (.cons (i := 3) rfl (.nil))))) (fun w hw => hw.pick [0] rfl) (fun all22 A20 c21 k10 hI K11 hK11 => ?_)
      obtain ⟨k10, t10, rfl, hF10, hN10⟩ := iter_step hI
      refine W.seq fun K12 hK12 => ?_
      -- region 5: mutex.go:44
      refine W.seqR fun Q13 hQ13 => ?_
      refine WL.q (Y.move (.pl rfl)) rfl ?_
      refine WL.q (Y.len Try.underlying23 (.pl rfl)) rfl ?_
      refine WL.q (Y.move (.pl rfl)) rfl ?_
      obtain ⟨hk23, hF10⟩ := ckh hF10
      refine WL.q (Y.add (.pl rfl) (.pl rfl) (ok64_lt (hk23))) rfl ?_
      refine WL.q (Y.leq (.pl rfl) (.pl rfl)) rfl ?_
      refine WL.next hQ13 (.cons (i := 0) rfl (.cons (i := 1) rfl (.cons (i := 2) rfl (.cons (i := 3) rfl (.cons (i := 12) rfl (.cons (i := 43) rfl (.nil))))))) ?_
      refine W.cond (.pl rfl) (fun hC14 => ?_) (fun hC14 => ?_)
      · replace hF10 := cpos hC14 hF10
        refine W.skip ?_
        refine W.go hK12 (.cons (i := 0) rfl (.cons (i := 1) rfl (.cons (i := 2) rfl (.cons (i := 3) rfl (.cons (i := 12) rfl (.nil)))))) ?_
        refine W.block ?_
        -- region 6: mutex.go:45
        refine W.seqR fun Q15 hQ15 => ?_
        refine WL.q (Y.move (.pl rfl)) rfl ?_
        refine WL.q (Y.move (.pl rfl)) rfl ?_
        refine WL.next hQ15 (.cons (i := 0) rfl (.cons (i := 1) rfl (.cons (i := 2) rfl (.cons (i := 3) rfl (.cons (i := 12) rfl (.cons (i := 44) rfl (.cons (i := 45) rfl (.nil)))))))) ?_
        refine W.block ?_
        obtain ⟨o16, hL16, hF10⟩ := bnd hF10
        refine W.loop4 (Em := fun (all26 : (List Int)) (v27 : Int) (A24 : Option Addr) (c25 : Nat) => [(12, .slice A24 (all26).length c25), (45, .int .i64 v27)]) (M := fun all26 v27 A24 c25 => [cR (eI .i64) 1 A24 c25 3 all26]) (I := fun all26 v27 A24 c25 k16 => iter (alibkeep_MutexGoes_L15 N people2) k16 (all26, v27) = some o16) all22 0 A20 c21 N (hL16) (.cons rfl (.cons rfl (.nil))) (.cons (i := 0) rfl (.cons (i := 1) rfl (.cons (i := 2) rfl (.cons (i := 3) rfl (.cons (i := 44) rfl (.nil)))))) (fun w hw => hw.pick [0] rfl) (fun all26 v27 A24 c25 k16 hI K17 hK17 => ?_)
        obtain ⟨k16, t16, rfl, hF16, hN16⟩ := iter_step hI
        -- region 7: mutex.go:45
        refine W.seqR fun Q18 hQ18 => ?_
        refine WL.q (Y.lss (.pl rfl) (.pl rfl)) rfl ?_
        refine WL.next hQ18 (.cons (i := 0) rfl (.cons (i := 1) rfl (.cons (i := 2) rfl (.cons (i := 3) rfl (.cons (i := 12) rfl (.cons (i := 44) rfl (.cons (i := 45) rfl (.cons (i := 46) rfl (.nil))))))))) ?_
        refine W.seq fun K19 hK19 => ?_
        refine W.cond (.pl rfl) (fun hC20 => ?_) (fun hC20 => ?_)
        · replace hF16 := cpos hC20 hF16
          refine W.skip ?_
          refine W.go hK19 (.cons (i := 0) rfl (.cons (i := 1) rfl (.cons (i := 2) rfl (.cons (i := 3) rfl (.cons (i := 12) rfl (.cons (i := 44) rfl (.cons (i := 45) rfl (.nil)))))))) ?_
          refine W.seq fun K21 hK21 => ?_
          refine W.block ?_
          -- region 8: mutex.go:45
          refine W.seqR fun Q22 hQ22 => ?_
          refine WL.q (Y.move (.pl rfl)) rfl ?_
          refine WL.q (Y.assign (.pl rfl)) rfl ?_
          refine WL.next hQ22 (.cons (i := 0) rfl (.cons (i := 1) rfl (.cons (i := 2) rfl (.cons (i := 3) rfl (.cons (i := 12) rfl (.cons (i := 13) rfl (.cons (i := 44) rfl (.cons (i := 45) rfl (.nil))))))))) ?_
          -- region 9: mutex.go:46
          refine W.reg ?_
          refine WL.q (Y.move (.pl rfl)) rfl ?_
          refine WL.q (Y.move (.pl rfl)) rfl ?_
          refine WL.step (WO.bsliceC (enc := (eI .i64)) (ys := ([v27] : List Int)) Try.underlying23 bz3 (.cons (.pl rfl) (.nil)) rfl (fun _ => rfl) rfl rfl (by decide) (by decide) rfl fun b28 => ?_)
          obtain ⟨hk31, hF16⟩ := ckh hF16
          refine WL.step (WO.appendC (enc := (eI .i64)) Try.underlying23 ap3 (fun _ => rfl) oneI (.pl rfl) rfl (.pl rfl) (i := 1) rfl (m2 := 0) rfl (hk31) rfl fun A29 c30 => ?_)
          refine WL.q (Y.assign (.pl rfl)) rfl ?_
          refine WL.nil ?_
          refine W.go hK21 (.cons (i := 0) rfl (.cons (i := 1) rfl (.cons (i := 2) rfl (.cons (i := 3) rfl (.cons (i := 12) rfl (.cons (i := 44) rfl (.cons (i := 45) rfl (.nil)))))))) ?_
          -- region 10: mutex.go:45
          refine W.reg ?_
          obtain ⟨hk32, hF16⟩ := ckh hF16
          refine WL.q (Y.add (.pl rfl) (.pl rfl) (ok64_lt (hk32))) rfl ?_
          refine WL.q (Y.move (.pl rfl)) rfl ?_
          refine WL.nil ?_
          obtain rfl := Option.some.inj hF16
          exact W.again4 hK17 (all26 ++ ([v27] : List Int)) (v27 + 1) A29 c30 k16 hN16 (Nat.lt_succ_self _) (.cons rfl (.cons rfl (.nil))) (.cons (i := 0) rfl (.cons (i := 1) rfl (.cons (i := 2) rfl (.cons (i := 3) rfl (.cons (i := 44) rfl (.nil)))))) (fun w hw => hw.pick [1] rfl)
        · replace hF16 := cneg hC20 hF16
          refine W.exit ?_
          obtain rfl := Option.some.inj hF16
          obtain rfl := einr hN16
          obtain rfl := Option.some.inj hF10
          exact W.again3 hK11 all26 A24 c25 k10 hN10 (Nat.lt_succ_self _) (.cons rfl (.nil)) (.cons (i := 0) rfl (.cons (i := 1) rfl (.cons (i := 2) rfl (.cons (i := 3) rfl (.nil))))) (fun w hw => hw.pick [0] rfl)
      · replace hF10 := cneg hC14 hF10
        refine W.exit ?_
        obtain rfl := Option.some.inj hF10
        exact W.joinAt3 hK9 all22 A20 c21 (einr hN10) (.cons rfl (.nil)) (.cons (i := 0) rfl (.cons (i := 1) rfl (.cons (i := 2) rfl (.cons (i := 3) rfl (.nil))))) (fun w hw => hw.pick [0] rfl)
    · -- behind
      rintro all19 A17 c18 rfl
      refine W.seq fun K25 hK25 => ?_
      -- region 11: mutex.go:49
      refine W.seqR fun Q26 hQ26 => ?_
      refine WL.q (Y.move (.pl rfl)) rfl ?_
      refine WL.q (Y.len Try.underlying23 (.pl rfl)) rfl ?_
      refine WL.q (Y.move (.pl rfl)) rfl ?_
      refine WL.q (Y.len Try.underlying23 (.pl rfl)) rfl ?_
      obtain ⟨hk33, hF⟩ := ckh hF
      refine WL.q (Y.sub (.pl rfl) (.pl rfl) (ok64_lt (hk33))) rfl ?_
      refine WL.q (Y.move (.pl rfl)) rfl ?_
      refine WL.q (Y.move (.pl rfl)) rfl ?_
      obtain ⟨hk34, hF⟩ := ckh hF
      refine WL.q (Y.mul (.pl rfl) (.pl rfl) (ok64_lt (hk34))) rfl ?_
      refine WL.q (Y.move (.pl rfl)) rfl ?_
      obtain ⟨hk35, hF⟩ := ckh hF
      refine WL.q (Y.mul (.pl rfl) (.pl rfl) (ok64_lt (hk35))) rfl ?_
      obtain ⟨hk36, hF⟩ := ckh hF
      refine WL.q (Y.mul (.pl rfl) (.pl rfl) (ok64_lt (hk36))) rfl ?_
      refine WL.q (Y.lss (.pl rfl) (.pl rfl)) rfl ?_
      refine WL.next hQ26 (.cons (i := 0) rfl (.cons (i := 1) rfl (.cons (i := 2) rfl (.cons (i := 12) rfl (.cons (i := 64) rfl (.nil)))))) ?_
      refine W.cond (.pl rfl) (fun hC27 => ?_) (fun hC27 => ?_)
      · replace hF := cpos hC27 hF
        -- region 12: mutex.go:50
        refine W.seqR fun Q28 hQ28 => ?_
        refine WL.q (Y.assign (.pl rfl)) rfl ?_
        refine WL.next hQ28 (.cons (i := 8) rfl (.nil)) ?_
        obtain rfl := Option.some.inj hF
        refine W.retV (fn := Try.f11) (vs := [.bool true]) Try.results11 ⟨.tmp rfl, trivial⟩ (fun _ _ h => h) (fun w hw => ?_)
        exact hR _ _ ⟨rfl, (hw.pick [] rfl)⟩
      · replace hF := cneg hC27 hF
        refine W.skip ?_
        refine W.go hK25 (.cons (i := 0) rfl (.cons (i := 1) rfl (.cons (i := 2) rfl (.cons (i := 12) rfl (.nil))))) ?_
        -- region 13: mutex.go:52
        refine W.seqR fun Q29 hQ29 => ?_
        refine WL.q (Y.move (.pl rfl)) rfl ?_
        refine WL.q (Y.move (.pl rfl)) rfl ?_
        refine WL.q (Y.move (.pl rfl)) rfl ?_
        refine WL.q (Y.move (.pl rfl)) rfl ?_
        obtain ⟨r37, hr37, hF⟩ := bnd hF
        refine WL.step (WO.callM isGo43 (.cons (.pl rfl) (.cons (.pl rfl) (.cons (.pl rfl) (.cons (.pl rfl) (.nil))))) rfl (fun w hw => mutex_Play_ok (hr37) w (SlIn.ofRow (fun _ => rfl) hw (i := 0) rfl)) ?_)
        rintro ⟨A38, c39⟩ -
        refine WL.q (Y.move (.pl rfl)) rfl ?_
        refine WL.q (Y.extract (.pl rfl) rfl) rfl ?_
        refine WL.q (Y.extract (.pl rfl) rfl) rfl ?_
        refine WL.q (Y.extract (.pl rfl) rfl) rfl ?_
        refine WL.q (Y.assign (.pl rfl)) rfl ?_
        refine WL.q (Y.assign (.pl rfl)) rfl ?_
        refine WL.q (Y.assign (.pl rfl)) rfl ?_
        refine WL.next hQ29 (.cons (i := 1) rfl (.cons (i := 2) rfl (.cons (i := 14) rfl (.cons (i := 16) rfl (.nil))))) ?_
        -- region 14: mutex.go:53
        refine W.seqR fun Q30 hQ30 => ?_
        refine WL.q (Y.move (.pl rfl)) rfl ?_
        refine WL.q (Y.eql (.pl rfl) (.pl rfl)) rfl ?_
        refine WL.q (Y.move (.pl rfl)) rfl ?_
        refine WL.g (.pl rfl rfl rfl) (fun hg => Y.move (.pl rfl)) rfl ?_
        refine WL.g (.pl rfl rfl rfl) (fun hg => Y.len Try.underlying84 (.gd (hg) rfl)) rfl ?_
        refine WL.g (.pl rfl rfl rfl) (fun hg => Y.move (.pl rfl)) rfl ?_
        obtain ⟨hk40, hF⟩ := ckh hF
        refine WL.g (.pl rfl rfl rfl) (fun hg => Y.mul (.pl rfl) (.gd (hg) rfl) (ok64_lt (gor hg hk40))) rfl ?_
        refine WL.g (.pl rfl rfl rfl) (fun hg => Y.move (.pl rfl)) rfl ?_
        obtain ⟨hk41, hF⟩ := ckh hF
        refine WL.g (.pl rfl rfl rfl) (fun hg => Y.mul (.gd (hg) rfl) (.gd (hg) rfl) (ok64_lt (gor hg hk41))) rfl ?_
        refine WL.g (.pl rfl rfl rfl) (fun hg => Y.eql (.gd (hg) rfl) (.gd (hg) rfl)) rfl ?_
        refine WL.q (Y.and (.pl rfl) (fun h2 => .gd (eqt h2) rfl)) rfl ?_
        refine WL.q (Y.assign (.pl rfl)) rfl ?_
        refine WL.next hQ30 (.cons (i := 8) rfl (.nil)) ?_
        obtain rfl := Option.some.inj hF
        refine W.retV (fn := Try.f11) (vs := [.bool ((decide (r37.2.2 = 0)) && (decide (((r37.1).length : Int) = ((2 * people2) * turns3))))]) Try.results11 ⟨.tmp rfl, trivial⟩ (fun _ _ h => h) (fun w hw => ?_)
        exact hR _ _ ⟨rfl, (hw.pick [] rfl)⟩

end Go.Proofs.Ytkccgokdahlmeaa
