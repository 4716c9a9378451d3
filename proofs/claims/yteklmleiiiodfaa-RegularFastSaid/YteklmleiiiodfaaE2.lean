/- Sites live: what the code computes, and the walks. -/
import Derived.Test.YteklmleiiiodfaaE1
set_option linter.unusedVariables false
set_option linter.unusedSimpArgs false
set_option linter.unusedSectionVars false
set_option maxRecDepth 100000
namespace Go.Proofs.Yteklmleiiiodfaa
open Go.RowKit
theorem cells23 : Try.prog.cellsOf 23 = 0 + 1 := by kernel_rfl
theorem cells34 : Try.prog.cellsOf 34 = 3 + 1 := by kernel_rfl
theorem isGo20 : IsGo Try.prog 20 := ⟨_, Try.func20, by kernel_rfl, rfl⟩
theorem isGo26 : IsGo Try.prog 26 := ⟨_, Try.func26, by kernel_rfl, rfl⟩
theorem isGo32 : IsGo Try.prog 32 := ⟨_, Try.func32, by kernel_rfl, rfl⟩
theorem isGo62 : IsGo Try.prog 62 := ⟨_, Try.func62, by kernel_rfl, rfl⟩
theorem bz23 : ∃ i, Try.prog.info? 23 = some i ∧ i.zero = some (Value.slice none 0 0) ∧ i.size = 1 := ⟨_, rfl, by kernel_rfl, by kernel_rfl⟩
theorem bz25 : ∃ i, Try.prog.info? 25 = some i ∧ i.zero = some (Value.agg #[(Value.int .i64 0), (Value.int .i64 0)]) ∧ i.size = 2 := ⟨_, rfl, by kernel_rfl, by kernel_rfl⟩
theorem bz41 : ∃ i, Try.prog.info? 41 = some i ∧ i.zero = some (Value.slice none 0 0) ∧ i.size = 1 := ⟨_, rfl, by kernel_rfl, by kernel_rfl⟩
theorem bz58 : ∃ i, Try.prog.info? 58 = some i ∧ i.zero = some (Value.agg #[(Value.int .i64 0), (Value.int .i64 0), (Value.int .i64 0)]) ∧ i.size = 3 := ⟨_, rfl, by kernel_rfl, by kernel_rfl⟩
theorem mka25 : ∃ i z, Try.prog.info? 25 = some i ∧ i.zero = some z ∧ i.size = 2 ∧ i.bytes = 16 ∧ z.cells = ([(Value.int .i64 0), (Value.int .i64 0)] : List Value).toArray ∧ ([(Value.int .i64 0), (Value.int .i64 0)] : List Value).length = 2 ∧ 0 < 2 := ⟨_, (Value.agg #[(Value.int .i64 0), (Value.int .i64 0)]), rfl, by kernel_rfl, by kernel_rfl, by kernel_rfl, rfl, rfl, by decide⟩
theorem eqs34 : EqShape Try.prog 34 [true, true, true, true] := ⟨_, Try.underlying34, by kernel_rfl, by kernel_rfl, by kernel_rfl⟩
theorem eqs39 : EqShape Try.prog 39 [true, true, true, false] := ⟨_, Try.underlying39, by kernel_rfl, by kernel_rfl, by kernel_rfl⟩
theorem ap25 : ∃ i z, Try.prog.info? 25 = some i ∧ i.zero = some z ∧ i.size = 2 ∧ i.bytes = 16 ∧ z.cells.size = 2 ∧ 0 < 2 := ⟨_, (Value.agg #[(Value.int .i64 0), (Value.int .i64 0)]), rfl, by kernel_rfl, by kernel_rfl, by kernel_rfl, by kernel_rfl, by decide⟩
theorem shape25 : Shape Try.prog 25 [(0, 1), (1, 1)] #[(Value.int .i64 0), (Value.int .i64 0)] := ⟨_, _, Value.agg #[(Value.int .i64 0), (Value.int .i64 0)], Try.underlying25, rfl, by kernel_rfl, rfl, by kernel_rfl, by decide⟩
theorem shape39 : Shape Try.prog 39 [(0, 1), (1, 1), (2, 1), (3, 1)] #[(Value.int .i64 0), (Value.int .i64 0), (Value.int .i64 0), (Value.bool false)] := ⟨_, _, Value.agg #[(Value.int .i64 0), (Value.int .i64 0), (Value.int .i64 0), (Value.bool false)], Try.underlying39, rfl, by kernel_rfl, rfl, by kernel_rfl, by decide⟩
theorem shape58 : Shape Try.prog 58 [(0, 1), (1, 1), (2, 1)] #[(Value.int .i64 0), (Value.int .i64 0), (Value.int .i64 0)] := ⟨_, _, Value.agg #[(Value.int .i64 0), (Value.int .i64 0), (Value.int .i64 0)], Try.underlying58, rfl, by kernel_rfl, rfl, by kernel_rfl, by decide⟩
def alibkeep_letters_L3 (N : Nat) (from1 : Int) (many2 : Int) : ((List Act) × Int) → Option (((List Act) × Int) ⊕ (List Act))
  | (out8, k9) =>
    ck (ok64 (from1 + many2)) <|
    cond (decide (k9 < (from1 + many2)))
      (ck (limB 16 ((out8).length + (([(Act.mk 2 k9), (Act.mk 3 k9)] : List Act)).length)) <|
      ck (ok64 (k9 + 1)) <|
      some (.inl ((out8 ++ ([(Act.mk 2 k9), (Act.mk 3 k9)] : List Act)), (k9 + 1))))
      (some (.inr out8))

def alibkeep_letters (N : Nat) (from1 : Int) (many2 : Int) : Option (List Act) :=
  bd (α := (List Act)) (iter (alibkeep_letters_L3 N from1 many2) N ([], from1)) <|
  fun (out5 : (List Act)) => 
    some out5

theorem alibkeep_letters_ok {N : Nat} {from1 : Int} {many2 : Int} {res : (List Act)} (hF : alibkeep_letters N from1 many2 = some res) (w : World) :
    Made Try.prog 26 [.int .i64 from1, .int .i64 many2] w (fun g : (Option Addr × Nat) => .slice g.1 (res).length g.2) (fun g => [cR encAct 2 g.1 g.2 25 res]) (fun g => True) := by
  refine W.enter (n := 23) Try.func26 rfl rfl Sub.refl (by simp) (St.start w) fun R hR => ?_
  unfold alibkeep_letters at hF
  -- region 0: sites.go:13
  refine W.seqR fun Q1 hQ1 => ?_
  refine WL.q (Y.assign (.pl rfl)) rfl ?_
  refine WL.next hQ1 (.cons (i := 0) rfl (.cons (i := 1) rfl (.nil))) ?_
  -- region 1: sites.go:14
  refine W.seqR fun Q2 hQ2 => ?_
  refine WL.q (Y.assign (.pl rfl)) rfl ?_
  refine WL.next hQ2 (.cons (i := 0) rfl (.cons (i := 1) rfl (.cons (i := 5) rfl (.nil)))) ?_
  obtain ⟨o3, hF3, hF⟩ := bnd hF
  refine W.join3 (Em := fun (out5 : (List Act)) (A3 : Option Addr) (c4 : Nat) => [(5, .slice A3 (out5).length c4)]) (M := fun out5 A3 c4 => [cR encAct 2 A3 c4 25 out5]) (I := fun out5 A3 c4 => out5 = o3) (.nil) (fun K4 hK4 => ?_) ?_
  · -- up to
    -- region 2: sites.go:15
    refine W.seqR fun Q5 hQ5 => ?_
    refine WL.q (Y.move (.pl rfl)) rfl ?_
    refine WL.q (Y.assign (.pl rfl)) rfl ?_
    refine WL.next hQ5 (.cons (i := 0) rfl (.cons (i := 1) rfl (.cons (i := 5) rfl (.cons (i := 6) rfl (.nil))))) ?_
    refine W.block ?_
    refine W.loop4 (Em := fun (out8 : (List Act)) (k9 : Int) (A6 : Option Addr) (c7 : Nat) => [(5, .slice A6 (out8).length c7), (6, .int .i64 k9)]) (M := fun out8 k9 A6 c7 => [cR encAct 2 A6 c7 25 out8]) (I := fun out8 k9 A6 c7 k6 => iter (alibkeep_letters_L3 N from1 many2) k6 (out8, k9) = some o3) [] from1 none 0 N (hF3) (.cons rfl (.cons rfl (.nil))) (.cons (i := 0) rfl (.cons (i := 1) rfl (.nil))) (fun wz hw => (St.nilR (hw.pick [] rfl) encAct 2 25).pick [0] rfl) (fun out8 k9 A6 c7 k6 hI K7 hK7 => ?_)
    obtain ⟨k6, t6, rfl, hF6, hN6⟩ := iter_step hI
    refine W.seq fun K8 hK8 => ?_
    -- region 3: sites.go:15
    refine W.seqR fun Q9 hQ9 => ?_
    refine WL.q (Y.move (.pl rfl)) rfl ?_
    refine WL.q (Y.move (.pl rfl)) rfl ?_
    refine WL.q (Y.move (.pl rfl)) rfl ?_
    obtain ⟨hk10, hF6⟩ := ckh hF6
    refine WL.q (Y.add (.pl rfl) (.pl rfl) (ok64_lt (hk10))) rfl ?_
    refine WL.q (Y.lss (.pl rfl) (.pl rfl)) rfl ?_
    refine WL.next hQ9 (.cons (i := 0) rfl (.cons (i := 1) rfl (.cons (i := 5) rfl (.cons (i := 6) rfl (.cons (i := 12) rfl (.nil)))))) ?_
    refine W.cond (.pl rfl) (fun hC10 => ?_) (fun hC10 => ?_)
    · replace hF6 := cpos hC10 hF6
      refine W.skip ?_
      refine W.go hK8 (.cons (i := 0) rfl (.cons (i := 1) rfl (.cons (i := 5) rfl (.cons (i := 6) rfl (.nil))))) ?_
      refine W.seq fun K11 hK11 => ?_
      refine W.block ?_
      -- region 5: sites.go:16
      refine W.reg ?_
      refine WL.q (Y.move (.pl rfl)) rfl ?_
      refine WL.q (Y.move (.pl rfl)) rfl ?_
      refine WL.q (Y.build (cs := (encAct (Act.mk 2 k9)).toArray) shape25 (.cons (.pl rfl) (.cons (.pl rfl) (.nil))) (one_parts ⟨rfl, ⟨rfl, trivial⟩⟩) rfl) rfl ?_
      refine WL.q (Y.move (.pl rfl)) rfl ?_
      refine WL.q (Y.build (cs := (encAct (Act.mk 3 k9)).toArray) shape25 (.cons (.pl rfl) (.cons (.pl rfl) (.nil))) (one_parts ⟨rfl, ⟨rfl, trivial⟩⟩) rfl) rfl ?_
      refine WL.step (WO.bsliceC (enc := encAct) (ys := ([(Act.mk 2 k9), (Act.mk 3 k9)] : List Act)) Try.underlying23 bz25 (.cons (.pl rfl) (.cons (.pl rfl) (.nil))) rfl lenAct rfl rfl (by decide) (by decide) rfl fun b11 => ?_)
      obtain ⟨hk14, hF6⟩ := ckh hF6
      refine WL.step (WO.appendC (enc := encAct) Try.underlying23 ap25 lenAct oneAct (.pl rfl) rfl (.pl rfl) (i := 1) rfl (m2 := 0) rfl (hk14) rfl fun A12 c13 => ?_)
      refine WL.q (Y.assign (.pl rfl)) rfl ?_
      refine WL.nil ?_
      refine W.go hK11 (.cons (i := 0) rfl (.cons (i := 1) rfl (.cons (i := 5) rfl (.cons (i := 6) rfl (.nil))))) ?_
      -- region 4: sites.go:15
      refine W.reg ?_
      refine WL.q (Y.move (.pl rfl)) rfl ?_
      obtain ⟨hk15, hF6⟩ := ckh hF6
      refine WL.q (Y.add (.pl rfl) (.pl rfl) (ok64_lt (hk15))) rfl ?_
      refine WL.q (Y.assign (.pl rfl)) rfl ?_
      refine WL.nil ?_
      obtain rfl := Option.some.inj hF6
      exact W.again4 hK7 (out8 ++ ([(Act.mk 2 k9), (Act.mk 3 k9)] : List Act)) (k9 + 1) A12 c13 k6 hN6 (Nat.lt_succ_self _) (.cons rfl (.cons rfl (.nil))) (.cons (i := 0) rfl (.cons (i := 1) rfl (.nil))) (fun wz hw => hw.pick [1] rfl)
    · replace hF6 := cneg hC10 hF6
      refine W.exit ?_
      obtain rfl := Option.some.inj hF6
      exact W.joinAt3 hK4 out8 A6 c7 (einr hN6) (.cons rfl (.nil)) (.nil) (fun wz hw => hw.pick [0] rfl)
  · -- behind
    rintro out5 A3 c4 rfl
    -- region 6: sites.go:18
    refine W.seqR fun Q14 hQ14 => ?_
    refine WL.q (Y.move (.pl rfl)) rfl ?_
    refine WL.q (Y.assign (.pl rfl)) rfl ?_
    refine WL.next hQ14 (.cons (i := 4) rfl (.nil)) ?_
    obtain rfl := Option.some.inj hF
    refine W.retV (fn := Try.f26) (vs := [.slice A3 (out5).length c4]) Try.results26 ⟨.tmp rfl, trivial⟩ (fun _ _ h => h) (fun wz hw => ?_)
    exact hR _ _ ⟨(A3, c4), trivial, rfl, (hw.pick [0] rfl)⟩

def slices_Grow_api_Act_api_Act (N : Nat) (n1 : Int) : Option (List Act) :=
  bd (α := Unit) (cond (decide (n1 < 0))
      (none)
      (some ())) <|
  fun _ => 
    ck (ok64 (((0 : Nat) : Int) - ((0 : Nat) : Int))) <|
    ck (ok64 (n1 - (((0 : Nat) : Int) - ((0 : Nat) : Int)))) <|
    cond (decide (0 < (n1 - (((0 : Nat) : Int) - ((0 : Nat) : Int)))))
      (ck (slB 0 0 ((0 : Nat) : Int)) <|
      ck (decide (1 ≤ (n1 - (((0 : Nat) : Int) - ((0 : Nat) : Int))))) <|
      ck (mkB 16 (n1 - (((0 : Nat) : Int) - ((0 : Nat) : Int)))) <|
      ck (slB ((List.replicate (n1 - (((0 : Nat) : Int) - ((0 : Nat) : Int))).toNat (Act.z : Act))).length 0 ((0 : Nat) : Int)) <|
      some ((List.replicate (n1 - (((0 : Nat) : Int) - ((0 : Nat) : Int))).toNat (Act.z : Act)).take ((0 : Nat) : Int).toNat))
      (some [])

theorem slices_Grow_api_Act_api_Act_ok {N : Nat} {n1 : Int} {res : (List Act)} (hF : slices_Grow_api_Act_api_Act N n1 = some res) (w : World) :
    Made Try.prog 62 [.slice none 0 0, .int .i64 n1] w (fun g : (Option Addr × Nat) => .slice g.1 (res).length g.2) (fun g => [cR encAct 2 g.1 g.2 25 res]) (fun g => True) := by
  refine W.enter (n := 27) Try.func62 rfl rfl Sub.refl (by simp) (St.start w) fun R hR => ?_
  unfold slices_Grow_api_Act_api_Act at hF
  -- region 0: slices.go:422
  refine W.seqR fun Q1 hQ1 => ?_
  refine WL.q (Y.assign (.pl rfl)) rfl ?_
  refine WL.next hQ1 (.cons (i := 0) rfl (.cons (i := 1) rfl (.nil))) ?_
  obtain ⟨o2, hF2, hF⟩ := bnd hF
  refine W.join0 (Em := []) (M := []) (I := () = o2) (.cons (i := 0) rfl (.cons (i := 1) rfl (.nil))) (fun K3 hK3 => ?_) ?_
  · -- up to
    -- region 1: slices.go:423
    refine W.seqR fun Q4 hQ4 => ?_
    refine WL.q (Y.move (.pl rfl)) rfl ?_
    refine WL.q (Y.lss (.pl rfl) (.pl rfl)) rfl ?_
    refine WL.next hQ4 (.cons (i := 0) rfl (.cons (i := 1) rfl (.cons (i := 6) rfl (.nil)))) ?_
    refine W.cond (.pl rfl) (fun hC5 => ?_) (fun hC5 => ?_)
    · replace hF2 := cpos hC5 hF2
      exact nomatch hF2
    · replace hF2 := cneg hC5 hF2
      refine W.skip ?_
      exact W.joinAt0 hK3  (Option.some.inj hF2) (.nil) (.cons (i := 0) rfl (.cons (i := 1) rfl (.nil))) (fun wz hw => hw.pick [] rfl)
  · -- behind
    rintro  rfl
    refine W.seq fun K6 hK6 => ?_
    -- region 3: slices.go:426
    refine W.seqR fun Q7 hQ7 => ?_
    refine WL.q (Y.move (.pl rfl)) rfl ?_
    refine WL.q (Y.move (.pl rfl)) rfl ?_
    refine WL.q (Y.capNil Try.underlying23 (.pl rfl)) rfl ?_
    refine WL.q (Y.move (.pl rfl)) rfl ?_
    refine WL.q (Y.len Try.underlying23 (.pl rfl)) rfl ?_
    obtain ⟨hk2, hF⟩ := ckh hF
    refine WL.q (Y.sub (.pl rfl) (.pl rfl) (ok64_lt (hk2))) rfl ?_
    obtain ⟨hk3, hF⟩ := ckh hF
    refine WL.q (Y.sub (.pl rfl) (.pl rfl) (ok64_lt (hk3))) rfl ?_
    refine WL.q (Y.assign (.pl rfl)) rfl ?_
    refine WL.next hQ7 (.cons (i := 0) rfl (.cons (i := 1) rfl (.nil))) ?_
    -- region 4: slices.go:426
    refine W.seqR fun Q8 hQ8 => ?_
    refine WL.q (Y.move (.pl rfl)) rfl ?_
    refine WL.q (Y.gtr (.pl rfl) (.pl rfl)) rfl ?_
    refine WL.next hQ8 (.cons (i := 0) rfl (.cons (i := 1) rfl (.cons (i := 16) rfl (.nil)))) ?_
    refine W.cond (.pl rfl) (fun hC9 => ?_) (fun hC9 => ?_)
    · replace hF := cpos hC9 hF
      -- region 5: slices.go:428
      refine W.reg ?_
      refine WL.q (Y.move (.pl rfl)) rfl ?_
      refine WL.q (Y.move (.pl rfl)) rfl ?_
      refine WL.q (Y.capNil Try.underlying23 (.pl rfl)) rfl ?_
      obtain ⟨hk4, hF⟩ := ckh hF
      refine WL.q (Y.sliceNil Try.underlying23 cells25 (.pl rfl) (.pl rfl) (hk4)) rfl ?_
      refine WL.q (Y.move (.pl rfl)) rfl ?_
      obtain ⟨hk5, hF⟩ := ckh hF
      obtain ⟨hk6, hF⟩ := ckh hF
      refine WL.step (WO.appendMk (enc := encAct) (zd := Act.z) Try.underlying23 Try.underlying3 mka25 rfl lenAct (.pl rfl) (.pl rfl) (hk5) (hk6) rfl fun A7 c8 => ?_)
      refine WL.q (Y.move (.pl rfl)) rfl ?_
      refine WL.q (Y.len Try.underlying23 (.pl rfl)) rfl ?_
      obtain ⟨hk9, hF⟩ := ckh hF
      refine WL.q (Y.sliceR0 Try.underlying23 cells25 (i := 0) rfl (.pl rfl) rfl (.pl rfl) (hk9)) rfl ?_
      refine WL.q (Y.assign (.pl rfl)) rfl ?_
      refine WL.nil ?_
      refine W.go hK6 (.cons (i := 0) rfl (.nil)) ?_
      -- region 6: slices.go:430
      refine W.seqR fun Q11 hQ11 => ?_
      refine WL.q (Y.move (.pl rfl)) rfl ?_
      refine WL.q (Y.assign (.pl rfl)) rfl ?_
      refine WL.next hQ11 (.cons (i := 4) rfl (.nil)) ?_
      obtain rfl := Option.some.inj hF
      refine W.retV (fn := Try.f62) (vs := [.slice A7 (((List.replicate (n1 - (((0 : Nat) : Int) - ((0 : Nat) : Int))).toNat (Act.z : Act)).take ((0 : Nat) : Int).toNat)).length c8]) Try.results62 ⟨.tmp rfl, trivial⟩ (fun _ _ h => h) (fun wz hw => ?_)
      exact hR _ _ ⟨(A7, c8), trivial, rfl, ((St.trunc (enc := encAct) (sz := 2) (j := ((0 : Nat) : Int).toNat) hw lenAct (i := 0) rfl).pick [0] rfl)⟩
    · replace hF := cneg hC9 hF
      refine W.skip ?_
      refine W.go hK6 (.cons (i := 0) rfl (.nil)) ?_
      -- region 6: slices.go:430
      refine W.seqR fun Q12 hQ12 => ?_
      refine WL.q (Y.move (.pl rfl)) rfl ?_
      refine WL.q (Y.assign (.pl rfl)) rfl ?_
      refine WL.next hQ12 (.cons (i := 4) rfl (.nil)) ?_
      obtain rfl := Option.some.inj hF
      refine W.retV (fn := Try.f62) (vs := [.slice none 0 0]) Try.results62 ⟨.tmp rfl, trivial⟩ (fun _ _ h => h) (fun wz hw => ?_)
      exact hR _ _ ⟨(none, 0), trivial, rfl, ((St.nilR (hw.pick [] rfl) encAct 2 25).pick [0] rfl)⟩

def slices_Concat_api_Act_api_Act_L5 (N : Nat) (slices1 : (List (List Act))) : (Int × Int) → Option ((Int × Int) ⊕ Int)
  | (size7, v8) =>
    cond (decide (v8 < ((slices1).length : Int)))
      (bd (ix slices1 v8) fun (x9 : (List Act)) =>
      ck (ok64 (size7 + ((x9).length : Int))) <|
      cond (decide ((size7 + ((x9).length : Int)) < 0))
        (none)
        (ck (ok64 (v8 + 1)) <|
        some (.inl ((size7 + ((x9).length : Int)), (v8 + 1)))))
      (some (.inr size7))

def slices_Concat_api_Act_api_Act_L7 (N : Nat) (slices1 : (List (List Act))) : ((List Act) × Int) → Option (((List Act) × Int) ⊕ (List Act))
  | (newslice20, v21) =>
    cond (decide (v21 < ((slices1).length : Int)))
      (bd (ix slices1 v21) fun (x22 : (List Act)) =>
      ck (limB 16 ((newslice20).length + (x22).length)) <|
      ck (ok64 (v21 + 1)) <|
      some (.inl ((newslice20 ++ x22), (v21 + 1))))
      (some (.inr newslice20))

def slices_Concat_api_Act_api_Act (N : Nat) (slices1 : (List (List Act))) : Option (List Act) :=
  bd (α := Int) (iter (slices_Concat_api_Act_api_Act_L5 N slices1) N (0, 0)) <|
  fun (size6 : Int) => 
    bd (slices_Grow_api_Act_api_Act N size6) fun (r12 : (List Act)) =>
    bd (α := (List Act)) (iter (slices_Concat_api_Act_api_Act_L7 N slices1) N (r12, 0)) <|
    fun (newslice17 : (List Act)) => 
      some newslice17

theorem slices_Concat_api_Act_api_Act_ok {N : Nat} {slices1 : (List (List Act))} {A2 : Option Addr} {c3 : Nat} {hd4 : List Hd} {res : (List Act)} (hF : slices_Concat_api_Act_api_Act N slices1 = some res) (w : World) (hs5 : SlNN encAct 2 w A2 c3 hd4 slices1) :
    Made Try.prog 32 [.slice A2 (slices1).length c3] w (fun g : (Option Addr × Nat) => .slice g.1 (res).length g.2) (fun g => [cR encAct 2 g.1 g.2 25 res]) (fun g => True) := by
  refine W.enter (n := 36) Try.func32 rfl rfl Sub.refl (by simp) (St.start w) fun R hR => ?_
  unfold slices_Concat_api_Act_api_Act at hF
  -- region 0: slices.go:491
  refine W.seqR fun Q1 hQ1 => ?_
  refine WL.q (Y.assign (.pl rfl)) rfl ?_
  refine WL.next hQ1 (.cons (i := 0) rfl (.nil)) ?_
  -- region 1: slices.go:492
  refine W.seqR fun Q2 hQ2 => ?_
  refine WL.q (Y.assign (.pl rfl)) rfl ?_
  refine WL.next hQ2 (.cons (i := 0) rfl (.cons (i := 3) rfl (.nil))) ?_
  obtain ⟨o3, hF3, hF⟩ := bnd hF
  refine W.join1 (Em := fun (size6 : Int) => [(3, .int .i64 size6)]) (M := fun size6 => []) (I := fun size6 => size6 = o3) (.cons (i := 0) rfl (.nil)) (fun K4 hK4 => ?_) ?_
  · -- up to
    -- region 2: slices.go:493
    refine W.seqR fun Q5 hQ5 => ?_
    refine WL.q (Y.move (.pl rfl)) rfl ?_
    refine WL.q (Y.len Try.underlying120 (.pl rfl)) rfl ?_
    refine WL.q (Y.move (.pl rfl)) rfl ?_
    refine WL.next hQ5 (.cons (i := 0) rfl (.cons (i := 3) rfl (.cons (i := 9) rfl (.cons (i := 10) rfl (.cons (i := 11) rfl (.nil)))))) ?_
    refine W.block ?_
    refine W.loop2 (Em := fun (size7 : Int) (v8 : Int) => [(3, .int .i64 size7), (11, .int .i64 v8)]) (M := fun size7 v8 => []) (I := fun size7 v8 k6 => iter (slices_Concat_api_Act_api_Act_L5 N slices1) k6 (size7, v8) = some o3) 0 0 N (hF3) (.cons rfl (.cons rfl (.nil))) (.cons (i := 0) rfl (.cons (i := 9) rfl (.cons (i := 10) rfl (.nil)))) (fun wz hw => hw.pick [] rfl) (fun size7 v8 k6 hI K7 hK7 => ?_)
    obtain ⟨k6, t6, rfl, hF6, hN6⟩ := iter_step hI
    -- region 3: slices.go:493
    refine W.seqR fun Q8 hQ8 => ?_
    refine WL.q (Y.lss (.pl rfl) (.pl rfl)) rfl ?_
    refine WL.next hQ8 (.cons (i := 0) rfl (.cons (i := 3) rfl (.cons (i := 9) rfl (.cons (i := 10) rfl (.cons (i := 11) rfl (.cons (i := 12) rfl (.nil))))))) ?_
    refine W.seq fun K9 hK9 => ?_
    refine W.cond (.pl rfl) (fun hC10 => ?_) (fun hC10 => ?_)
    · replace hF6 := cpos hC10 hF6
      refine W.skip ?_
      refine W.go hK9 (.cons (i := 0) rfl (.cons (i := 3) rfl (.cons (i := 9) rfl (.cons (i := 10) rfl (.cons (i := 11) rfl (.nil)))))) ?_
      refine W.seq fun K11 hK11 => ?_
      refine W.block ?_
      -- region 4: slices.go:493
      refine W.seqR fun Q12 hQ12 => ?_
      obtain ⟨x9, hx9, hF6⟩ := bnd hF6
      refine WL.q (Y.nnEl Try.underlying120 cells23 hs5 (.pl rfl) (.pl rfl) (ix_lt (hx9))) rfl ?_
      refine WL.q (Y.loadNN Try.underlying23 rfl hs5 (.pl rfl) (hx9) rfl) rfl ?_
      refine WL.q (Y.assign (.pl rfl)) rfl ?_
      refine WL.next hQ12 (.cons (i := 0) rfl (.cons (i := 3) rfl (.cons (i := 5) rfl (.cons (i := 9) rfl (.cons (i := 10) rfl (.cons (i := 11) rfl (.nil))))))) ?_
      -- region 5: slices.go:494
      refine W.seqR fun Q13 hQ13 => ?_
      refine WL.q (Y.move (.pl rfl)) rfl ?_
      refine WL.q (Y.move (.pl rfl)) rfl ?_
      refine WL.q (Y.len Try.underlying23 (.pl rfl)) rfl ?_
      obtain ⟨hk10, hF6⟩ := ckh hF6
      refine WL.q (Y.add (.pl rfl) (.pl rfl) (ok64_lt (hk10))) rfl ?_
      refine WL.q (Y.assign (.pl rfl)) rfl ?_
      refine WL.next hQ13 (.cons (i := 0) rfl (.cons (i := 3) rfl (.cons (i := 9) rfl (.cons (i := 10) rfl (.cons (i := 11) rfl (.nil)))))) ?_
      -- region 6: slices.go:495
      refine W.seqR fun Q14 hQ14 => ?_
      refine WL.q (Y.move (.pl rfl)) rfl ?_
      refine WL.q (Y.lss (.pl rfl) (.pl rfl)) rfl ?_
      refine WL.next hQ14 (.cons (i := 0) rfl (.cons (i := 3) rfl (.cons (i := 9) rfl (.cons (i := 10) rfl (.cons (i := 11) rfl (.cons (i := 20) rfl (.nil))))))) ?_
      refine W.cond (.pl rfl) (fun hC15 => ?_) (fun hC15 => ?_)
      · replace hF6 := cpos hC15 hF6
        exact nomatch hF6
      · replace hF6 := cneg hC15 hF6
        refine W.skip ?_
        refine W.go hK11 (.cons (i := 0) rfl (.cons (i := 3) rfl (.cons (i := 9) rfl (.cons (i := 10) rfl (.cons (i := 11) rfl (.nil)))))) ?_
        -- region 8: slices.go:493
        refine W.reg ?_
        obtain ⟨hk11, hF6⟩ := ckh hF6
        refine WL.q (Y.add (.pl rfl) (.pl rfl) (ok64_lt (hk11))) rfl ?_
        refine WL.q (Y.move (.pl rfl)) rfl ?_
        refine WL.nil ?_
        obtain rfl := Option.some.inj hF6
        exact W.again2 hK7 (size7 + ((x9).length : Int)) (v8 + 1) k6 hN6 (Nat.lt_succ_self _) (.cons rfl (.cons rfl (.nil))) (.cons (i := 0) rfl (.cons (i := 9) rfl (.cons (i := 10) rfl (.nil)))) (fun wz hw => hw.pick [] rfl)
    · replace hF6 := cneg hC10 hF6
      refine W.exit ?_
      obtain rfl := Option.some.inj hF6
      exact W.joinAt1 hK4 size7 (einr hN6) (.cons rfl (.nil)) (.cons (i := 0) rfl (.nil)) (fun wz hw => hw.pick [] rfl)
  · -- behind
    rintro size6 rfl
    -- region 9: slices.go:502
    refine W.seqR fun Q17 hQ17 => ?_
    refine WL.q (Y.move (.pl rfl)) rfl ?_
    obtain ⟨r12, hr12, hF⟩ := bnd hF
    refine WL.step (WO.callM isGo62 (.cons (.pl rfl) (.cons (.pl rfl) (.nil))) rfl (fun wz hw => slices_Grow_api_Act_api_Act_ok (hr12) wz ) ?_)
    rintro ⟨A13, c14⟩ -
    refine WL.q (Y.assign (.pl rfl)) rfl ?_
    refine WL.next hQ17 (.cons (i := 0) rfl (.cons (i := 6) rfl (.nil))) ?_
    obtain ⟨o18, hF18, hF⟩ := bnd hF
    refine W.join3 (Em := fun (newslice17 : (List Act)) (A15 : Option Addr) (c16 : Nat) => [(6, .slice A15 (newslice17).length c16)]) (M := fun newslice17 A15 c16 => [cR encAct 2 A15 c16 25 newslice17]) (I := fun newslice17 A15 c16 => newslice17 = o18) (.nil) (fun K19 hK19 => ?_) ?_
    · -- up to
      -- region 10: slices.go:503
      refine W.seqR fun Q20 hQ20 => ?_
      refine WL.q (Y.move (.pl rfl)) rfl ?_
      refine WL.q (Y.len Try.underlying120 (.pl rfl)) rfl ?_
      refine WL.q (Y.move (.pl rfl)) rfl ?_
      refine WL.next hQ20 (.cons (i := 6) rfl (.cons (i := 25) rfl (.cons (i := 26) rfl (.cons (i := 27) rfl (.nil))))) ?_
      refine W.block ?_
      refine W.loop4 (Em := fun (newslice20 : (List Act)) (v21 : Int) (A18 : Option Addr) (c19 : Nat) => [(6, .slice A18 (newslice20).length c19), (27, .int .i64 v21)]) (M := fun newslice20 v21 A18 c19 => [cR encAct 2 A18 c19 25 newslice20]) (I := fun newslice20 v21 A18 c19 k21 => iter (slices_Concat_api_Act_api_Act_L7 N slices1) k21 (newslice20, v21) = some o18) r12 0 A13 c14 N (hF18) (.cons rfl (.cons rfl (.nil))) (.cons (i := 25) rfl (.cons (i := 26) rfl (.nil))) (fun wz hw => hw.pick [0] rfl) (fun newslice20 v21 A18 c19 k21 hI K22 hK22 => ?_)
      obtain ⟨k21, t21, rfl, hF21, hN21⟩ := iter_step hI
      -- region 11: slices.go:503
      refine W.seqR fun Q23 hQ23 => ?_
      refine WL.q (Y.lss (.pl rfl) (.pl rfl)) rfl ?_
      refine WL.next hQ23 (.cons (i := 6) rfl (.cons (i := 25) rfl (.cons (i := 26) rfl (.cons (i := 27) rfl (.cons (i := 28) rfl (.nil)))))) ?_
      refine W.seq fun K24 hK24 => ?_
      refine W.cond (.pl rfl) (fun hC25 => ?_) (fun hC25 => ?_)
      · replace hF21 := cpos hC25 hF21
        refine W.skip ?_
        refine W.go hK24 (.cons (i := 6) rfl (.cons (i := 25) rfl (.cons (i := 26) rfl (.cons (i := 27) rfl (.nil))))) ?_
        refine W.seq fun K26 hK26 => ?_
        refine W.block ?_
        -- region 12: slices.go:503
        refine W.seqR fun Q27 hQ27 => ?_
        obtain ⟨x22, hx22, hF21⟩ := bnd hF21
        refine WL.q (Y.nnEl Try.underlying120 cells23 hs5 (.pl rfl) (.pl rfl) (ix_lt (hx22))) rfl ?_
        refine WL.q (Y.loadNN Try.underlying23 rfl hs5 (.pl rfl) (hx22) rfl) rfl ?_
        refine WL.q (Y.assign (.pl rfl)) rfl ?_
        refine WL.next hQ27 (.cons (i := 6) rfl (.cons (i := 8) rfl (.cons (i := 25) rfl (.cons (i := 26) rfl (.cons (i := 27) rfl (.nil)))))) ?_
        -- region 13: slices.go:504
        refine W.reg ?_
        refine WL.q (Y.move (.pl rfl)) rfl ?_
        refine WL.q (Y.move (.pl rfl)) rfl ?_
        obtain ⟨hk25, hF21⟩ := ckh hF21
        refine WL.step (WO.appendSO (enc := encAct) (ys := x22) (xs := newslice20) Try.underlying23 ap25 lenAct oneAct (.pl rfl) rfl (.pl rfl) (i := 0) rfl (fun wz hw => ((hs5.at (hx22)).mono hw)) (hk25) rfl fun A23 c24 => ?_)
        refine WL.q (Y.assign (.pl rfl)) rfl ?_
        refine WL.nil ?_
        refine W.go hK26 (.cons (i := 6) rfl (.cons (i := 25) rfl (.cons (i := 26) rfl (.cons (i := 27) rfl (.nil))))) ?_
        -- region 14: slices.go:503
        refine W.reg ?_
        obtain ⟨hk26, hF21⟩ := ckh hF21
        refine WL.q (Y.add (.pl rfl) (.pl rfl) (ok64_lt (hk26))) rfl ?_
        refine WL.q (Y.move (.pl rfl)) rfl ?_
        refine WL.nil ?_
        obtain rfl := Option.some.inj hF21
        exact W.again4 hK22 (newslice20 ++ x22) (v21 + 1) A23 c24 k21 hN21 (Nat.lt_succ_self _) (.cons rfl (.cons rfl (.nil))) (.cons (i := 25) rfl (.cons (i := 26) rfl (.nil))) (fun wz hw => hw.pick [0] rfl)
      · replace hF21 := cneg hC25 hF21
        refine W.exit ?_
        obtain rfl := Option.some.inj hF21
        exact W.joinAt3 hK19 newslice20 A18 c19 (einr hN21) (.cons rfl (.nil)) (.nil) (fun wz hw => hw.pick [0] rfl)
    · -- behind
      rintro newslice17 A15 c16 rfl
      -- region 15: slices.go:506
      refine W.seqR fun Q30 hQ30 => ?_
      refine WL.q (Y.move (.pl rfl)) rfl ?_
      refine WL.q (Y.assign (.pl rfl)) rfl ?_
      refine WL.next hQ30 (.cons (i := 2) rfl (.nil)) ?_
      obtain rfl := Option.some.inj hF
      refine W.retV (fn := Try.f32) (vs := [.slice A15 (newslice17).length c16]) Try.results32 ⟨.tmp rfl, trivial⟩ (fun _ _ h => h) (fun wz hw => ?_)
      exact hR _ _ ⟨(A15, c16), trivial, rfl, (hw.pick [0] rfl)⟩

def sites_Play_1_L5 (N : Nat) (people3 : (List (List Ask))) : ((List SitesProcess) × Int) → Option (((List SitesProcess) × Int) ⊕ (List SitesProcess))
  | (people23, v25) =>
    cond (decide (v25 < ((people3).length : Int)))
      (bd (ix people3 v25) fun (x26 : (List Ask)) =>
      ck (limB 80 ((people23).length + (([(SitesProcess.mk x26 false 0 false 0 (SitesTag.mk 0 0) 0)] : List SitesProcess)).length)) <|
      ck (ok64 (v25 + 1)) <|
      some (.inl ((people23 ++ ([(SitesProcess.mk x26 false 0 false 0 (SitesTag.mk 0 0) 0)] : List SitesProcess)), (v25 + 1))))
      (some (.inr people23))

def sites_Play_1_L7 (N : Nat) (acts8 : (List Act)) (fast2 : Bool) : ((List Site) × (List SitesProcess) × (List SitesLetter) × (List Event) × Int) → Option (((List Site) × (List SitesProcess) × (List SitesLetter) × (List Event) × Int) ⊕ ((List Site) × (List SitesProcess) × (List SitesLetter) × (List Event)))
  | (sites41, people42, letters46, events49, v50) =>
    cond (decide (v50 < ((acts8).length : Int)))
      (bd (ix acts8 v50) fun (x51 : Act) =>
      cond (decide (x51.kind = 1))
        (bd (sites_net_call N fast2 sites41 people42 letters46 events49 x51.a) fun (r53 : ((List SitesProcess) × (List SitesLetter) × (List Event))) =>
        ck (ok64 (v50 + 1)) <|
        some (.inl (sites41, r53.1, r53.2.1, r53.2.2, (v50 + 1))))
        (cond (decide (x51.kind = 2))
          (bd (sites_net_hand N fast2 sites41 people42 letters46 events49 x51.a) fun (r59 : ((List Site) × (List SitesLetter))) =>
          ck (ok64 (v50 + 1)) <|
          some (.inl (r59.1, people42, r59.2, events49, (v50 + 1))))
          (cond (decide (x51.kind = 3))
            (bd (sites_net_back N fast2 sites41 people42 letters46 events49 x51.a) fun (r61 : ((List SitesProcess) × (List SitesLetter) × (List Event))) =>
            ck (ok64 (v50 + 1)) <|
            some (.inl (sites41, r61.1, r61.2.1, r61.2.2, (v50 + 1))))
            (bd (ix sites41 x51.a) fun (x68 : Site) =>
            ck (ok64 (v50 + 1)) <|
            some (.inl ((sites41.set x51.a.toNat (Site.mk x68.stamp x68.who x68.value true)), people42, letters46, events49, (v50 + 1)))))))
      (some (.inr (sites41, people42, letters46, events49)))

def sites_Play_1 (N : Nat) (sites1 : Int) (fast2 : Bool) (people3 : (List (List Ask))) (acts8 : (List Act)) : Option ((List Event) × (List Site) × Int) :=
  bd (sites_check N sites1 people3 acts8) fun (r13 : Int) =>
  cond (!(decide (r13 = 0)))
    (some ([], [], r13))
    (ck (mkB 32 sites1) <|
    bd (α := (List SitesProcess)) (iter (sites_Play_1_L5 N people3) N ([], 0)) <|
    fun (people19 : (List SitesProcess)) => 
      bd (α := ((List Site) × (List SitesProcess) × (List SitesLetter) × (List Event))) (iter (sites_Play_1_L7 N acts8 fast2) N ((List.replicate sites1.toNat (Site.z : Site)), people19, [], [], 0)) <|
      fun (sites32, people33, letters37, events40) => 
        some (events40, sites32, 0))

theorem sites_Play_1_ok {N : Nat} {sites1 : Int} {fast2 : Bool} {people3 : (List (List Ask))} {acts8 : (List Act)} {A4 : Option Addr} {c5 : Nat} {hd6 : List Hd} {res : ((List Event) × (List Site) × Int)} (hF : sites_Play_1 N sites1 fast2 people3 acts8 = some res) (w : World) (hs7 : SlNN encAsk 3 w A4 c5 hd6 people3) {v12 : Value} (hs11 : SlIn encAct 2 w v12 acts8) :
    Made Try.prog 20 [.int .i64 sites1, .bool fast2, .slice A4 (people3).length c5, v12] w (fun g : (Option Addr × Nat × Option Addr × Nat) => .tuple #[.slice g.1 (res.1).length g.2.1, .slice g.2.2.1 (res.2.1).length g.2.2.2, .int .i64 res.2.2]) (fun g => [cR encEvent 4 g.1 g.2.1 34 res.1, cR encSite 4 g.2.2.1 g.2.2.2 39 res.2.1]) (fun g => True) := by
  obtain ⟨A9, c10, rfl, hcc10, hs11⟩ := hs11.form
  refine W.enter (n := 90) Try.func20 rfl rfl Sub.refl (by simp) (St.start w) fun R hR => ?_
  unfold sites_Play_1 at hF
  -- region 0: sites.go:166
  refine W.seqR fun Q1 hQ1 => ?_
  refine WL.q (Y.assign (.pl rfl)) rfl ?_
  refine WL.q (Y.assign (.pl rfl)) rfl ?_
  refine WL.q (Y.assign (.pl rfl)) rfl ?_
  refine WL.next hQ1 (.cons (i := 0) rfl (.cons (i := 1) rfl (.cons (i := 2) rfl (.cons (i := 3) rfl (.nil))))) ?_
  refine W.seq fun K2 hK2 => ?_
  -- region 1: sites.go:167
  refine W.seqR fun Q3 hQ3 => ?_
  refine WL.q (Y.move (.pl rfl)) rfl ?_
  refine WL.q (Y.move (.pl rfl)) rfl ?_
  refine WL.q (Y.move (.pl rfl)) rfl ?_
  obtain ⟨r13, hr13, hF⟩ := bnd hF
  refine WL.step (WO.callP isGo51 (.cons (.pl rfl) (.cons (.pl rfl) (.cons (.pl rfl) (.nil)))) rfl (fun wz hw => sites_check_ok (hr13) wz (hs7.mono hw) (hs11.mono hw)) ?_)
  refine WL.q (Y.assign (.pl rfl)) rfl ?_
  refine WL.next hQ3 (.cons (i := 0) rfl (.cons (i := 1) rfl (.cons (i := 2) rfl (.cons (i := 3) rfl (.cons (i := 11) rfl (.nil)))))) ?_
  -- region 2: sites.go:167
  refine W.seqR fun Q4 hQ4 => ?_
  refine WL.q (Y.move (.pl rfl)) rfl ?_
  refine WL.q (Y.neq (.pl rfl) (.pl rfl)) rfl ?_
  refine WL.next hQ4 (.cons (i := 0) rfl (.cons (i := 1) rfl (.cons (i := 2) rfl (.cons (i := 3) rfl (.cons (i := 11) rfl (.cons (i := 22) rfl (.nil))))))) ?_
  refine W.cond (.pl rfl) (fun hC5 => ?_) (fun hC5 => ?_)
  · replace hF := cpos hC5 hF
    -- region 3: sites.go:168
    refine W.seqR fun Q6 hQ6 => ?_
    refine WL.q (Y.move (.pl rfl)) rfl ?_
    refine WL.q (Y.assign (.pl rfl)) rfl ?_
    refine WL.q (Y.assign (.pl rfl)) rfl ?_
    refine WL.q (Y.assign (.pl rfl)) rfl ?_
    refine WL.next hQ6 (.cons (i := 8) rfl (.cons (i := 9) rfl (.cons (i := 10) rfl (.nil)))) ?_
    obtain rfl := Option.some.inj hF
    refine W.retV (fn := Try.f20) (vs := [.slice none 0 0, .slice none 0 0, .int .i64 r13]) Try.results20 ⟨.tmp rfl, ⟨.tmp rfl, ⟨.tmp rfl, trivial⟩⟩⟩ (fun _ _ h => h) (fun wz hw => ?_)
    exact hR _ _ ⟨(none, 0, none, 0), trivial, rfl, ((St.nilR (St.nilR (hw.pick [] rfl) encEvent 4 34) encSite 4 39).pick [1, 0] rfl)⟩
  · replace hF := cneg hC5 hF
    refine W.skip ?_
    refine W.go hK2 (.cons (i := 0) rfl (.cons (i := 1) rfl (.cons (i := 2) rfl (.cons (i := 3) rfl (.nil))))) ?_
    -- region 4: sites.go:170
    refine W.seqR fun Q7 hQ7 => ?_
    refine WL.q (Y.move (.pl rfl)) rfl ?_
    refine WL.q (Y.move (.pl rfl)) rfl ?_
    obtain ⟨hk15, hF⟩ := ckh hF
    refine WL.step (WO.makeC (enc := encSite) (z := Site.z) Try.underlying27 mka39 rfl (.pl rfl) (hk15) rfl fun b14 => ?_)
    refine WL.q (Y.build (cs := (Value.bool fast2 :: (Value.slice (some ⟨b14, 0, none⟩) ((List.replicate sites1.toNat (Site.z : Site))).length sites1.toNat :: (Value.slice none 0 0 :: (Value.slice none 0 0 :: (Value.slice none 0 0 :: []))))).toArray) shape95 (.cons (.pl rfl) (.cons (.pl rfl) (.nil))) (one_parts ⟨rfl, ⟨rfl, trivial⟩⟩) rfl) rfl ?_
    refine WL.step (WO.boxA (.pl rfl) rfl fun b16 => ?_)
    refine WL.q (Y.assign (.pl rfl)) rfl ?_
    refine WL.next hQ7 (.cons (i := 2) rfl (.cons (i := 3) rfl (.cons (i := 12) rfl (.nil)))) ?_
    obtain ⟨o8, hF8, hF⟩ := bnd hF
    refine W.join4 (Em := fun (people19 : (List SitesProcess)) (A17 : Option Addr) (c18 : Nat) (hd20 : List Hd) => []) (M := fun people19 A17 c18 hd20 => [cBx b16 95 (Value.bool fast2 :: (Value.slice (some ⟨b14, 0, none⟩) ((List.replicate sites1.toNat (Site.z : Site))).length sites1.toNat :: (Value.slice A17 (people19).length c18 :: (Value.slice none 0 0 :: (Value.slice none 0 0 :: []))))), cR encSite 4 (some ⟨b14, 0, none⟩) sites1.toNat 39 (List.replicate sites1.toNat (Site.z : Site)), cN encNSitesProcess (innNSitesProcess w) 8 A17 c18 99 hd20 people19]) (I := fun people19 A17 c18 hd20 => people19 = o8) (.cons (i := 3) rfl (.cons (i := 12) rfl (.nil))) (fun K9 hK9 => ?_) ?_
    · -- up to
      -- region 5: sites.go:171
      refine W.seqR fun Q10 hQ10 => ?_
      refine WL.q (Y.move (.pl rfl)) rfl ?_
      refine WL.q (Y.len Try.underlying22 (.pl rfl)) rfl ?_
      refine WL.q (Y.move (.pl rfl)) rfl ?_
      refine WL.next hQ10 (.cons (i := 3) rfl (.cons (i := 12) rfl (.cons (i := 29) rfl (.cons (i := 30) rfl (.cons (i := 31) rfl (.nil)))))) ?_
      refine W.block ?_
      refine W.loop5 (Em := fun (people23 : (List SitesProcess)) (v25 : Int) (A21 : Option Addr) (c22 : Nat) (hd24 : List Hd) => [(31, .int .i64 v25)]) (M := fun people23 v25 A21 c22 hd24 => [cBx b16 95 (Value.bool fast2 :: (Value.slice (some ⟨b14, 0, none⟩) ((List.replicate sites1.toNat (Site.z : Site))).length sites1.toNat :: (Value.slice A21 (people23).length c22 :: (Value.slice none 0 0 :: (Value.slice none 0 0 :: []))))), cR encSite 4 (some ⟨b14, 0, none⟩) sites1.toNat 39 (List.replicate sites1.toNat (Site.z : Site)), cN encNSitesProcess (innNSitesProcess w) 8 A21 c22 99 hd24 people23]) (I := fun people23 v25 A21 c22 hd24 k11 => iter (sites_Play_1_L5 N people3) k11 (people23, v25) = some o8) [] 0 none 0 [] N (hF8) (.cons rfl (.nil)) (.cons (i := 3) rfl (.cons (i := 12) rfl (.cons (i := 29) rfl (.cons (i := 30) rfl (.nil))))) (fun wz hw => (St.nilN (hw.pick [0, 1] rfl) encNSitesProcess (innNSitesProcess w) 8 99).pick [1, 2, 0] rfl) (fun people23 v25 A21 c22 hd24 k11 hI K12 hK12 => ?_)
      obtain ⟨k11, t11, rfl, hF11, hN11⟩ := iter_step hI
      -- region 6: sites.go:171
      refine W.know (fun wz hwz => bor_of (h0 := ((none, 0) : Hd)) (q := fun h a => SlIn encAsk 3 w (.slice h.1 a.program.length h.2) a.program) hwz (i := 2) rfl (fun _ _ => .head _)) (fun hbor14 => ?_)
      refine W.seqR fun Q13 hQ13 => ?_
      refine WL.q (Y.lss (.pl rfl) (.pl rfl)) rfl ?_
      refine WL.next hQ13 (.cons (i := 3) rfl (.cons (i := 12) rfl (.cons (i := 29) rfl (.cons (i := 30) rfl (.cons (i := 31) rfl (.cons (i := 32) rfl (.nil))))))) ?_
      refine W.seq fun K15 hK15 => ?_
      refine W.cond (.pl rfl) (fun hC16 => ?_) (fun hC16 => ?_)
      · replace hF11 := cpos hC16 hF11
        refine W.skip ?_
        refine W.go hK15 (.cons (i := 3) rfl (.cons (i := 12) rfl (.cons (i := 29) rfl (.cons (i := 30) rfl (.cons (i := 31) rfl (.nil)))))) ?_
        refine W.seq fun K17 hK17 => ?_
        refine W.block ?_
        -- region 7: sites.go:171
        refine W.seqR fun Q18 hQ18 => ?_
        obtain ⟨x26, hx26, hF11⟩ := bnd hF11
        refine WL.q (Y.nnEl Try.underlying22 cells41 hs7 (.pl rfl) (.pl rfl) (ix_lt (hx26))) rfl ?_
        refine WL.q (Y.loadNN Try.underlying41 rfl hs7 (.pl rfl) (hx26) rfl) rfl ?_
        refine WL.q (Y.assign (.pl rfl)) rfl ?_
        refine WL.next hQ18 (.cons (i := 3) rfl (.cons (i := 12) rfl (.cons (i := 14) rfl (.cons (i := 29) rfl (.cons (i := 30) rfl (.cons (i := 31) rfl (.nil))))))) ?_
        -- region 8: sites.go:172
        refine W.reg ?_
        refine WL.q (Y.move (.pl rfl)) rfl ?_
        refine WL.q (Y.move (.pl rfl)) rfl ?_
        refine WL.q (Y.nilCheck (.pl rfl)) rfl ?_
        refine WL.q (Y.fieldAddr0 (off := 2) (ft := 92) Try.underlying95 rfl cells92 (.pl rfl)) rfl ?_
        refine WL.q (Y.loadB (v := .slice A21 (people23).length c22) Try.underlying92 rfl (.pl rfl) (i := 0) rfl (rfl)) rfl ?_
        refine WL.q (Y.move (.pl rfl)) rfl ?_
        refine WL.q (Y.build (cs := (Value.slice (hd6.getD v25.toNat (none, 0)).1 (x26).length (hd6.getD v25.toNat (none, 0)).2 :: (Value.bool false :: (Value.int .i64 0 :: (Value.bool false :: (Value.int .i64 0 :: ((encSitesTag (SitesTag.mk 0 0)) ++ (Value.int .i64 0 :: []))))))).toArray) shape99 (.cons (.pl rfl) (.nil)) (one_parts ⟨rfl, trivial⟩) rfl) rfl ?_
        refine WL.step (WO.bsliceN (enc := encNSitesProcess) (inn := (innNSitesProcess w)) (hs := ([(((hd6.getD v25.toNat (none, 0)).1, (hd6.getD v25.toNat (none, 0)).2) : Hd)] : List Hd)) (xs := ([(SitesProcess.mk x26 false 0 false 0 (SitesTag.mk 0 0) 0)] : List SitesProcess)) Try.underlying92 bz99 (.cons (.pl rfl) (.nil)) rfl rfl rfl rfl rfl lenNSitesProcess (by decide) (by decide) (.trans (.fact ((hs7.at (hx26)))) (.pick [0, 1, 2, 3] rfl)) rfl fun b27 => ?_)
        obtain ⟨hk30, hF11⟩ := ckh hF11
        refine WL.step (WO.appendN (enc := encNSitesProcess) (inn := (innNSitesProcess w)) (hs := hd24) Try.underlying92 ap99 lenNSitesProcess oneNSitesProcess (.pl rfl) rfl (.pl rfl) (i := 2) rfl (hk30) rfl fun A28 c29 => ?_)
        refine WL.q (Y.nilCheck (.pl rfl)) rfl ?_
        refine WL.q (Y.fieldAddr0 (off := 2) (ft := 92) Try.underlying95 rfl cells92 (.pl rfl)) rfl ?_
        refine WL.step (WO.storeB (cs' := (Value.bool fast2 :: (Value.slice (some ⟨b14, 0, none⟩) ((List.replicate sites1.toNat (Site.z : Site))).length sites1.toNat :: (Value.slice A28 ((people23 ++ ([(SitesProcess.mk x26 false 0 false 0 (SitesTag.mk 0 0) 0)] : List SitesProcess))).length c29 :: (Value.slice none 0 0 :: (Value.slice none 0 0 :: [])))))) cells92 (.pl rfl) (.pl rfl) rfl (i := 1) rfl (ltl (m := 5) (by decide) rfl) (rfl) ?_)
        refine WL.nil ?_
        refine W.go hK17 (.cons (i := 3) rfl (.cons (i := 12) rfl (.cons (i := 29) rfl (.cons (i := 30) rfl (.cons (i := 31) rfl (.nil)))))) ?_
        -- region 9: sites.go:171
        refine W.know (fun wz hwz => bor_of (h0 := ((none, 0) : Hd)) (q := fun h a => SlIn encAsk 3 w (.slice h.1 a.program.length h.2) a.program) hwz (i := 0) rfl (fun _ _ => .head _)) (fun hbor21 => ?_)
        refine W.reg ?_
        obtain ⟨hk31, hF11⟩ := ckh hF11
        refine WL.q (Y.add (.pl rfl) (.pl rfl) (ok64_lt (hk31))) rfl ?_
        refine WL.q (Y.move (.pl rfl)) rfl ?_
        refine WL.nil ?_
        obtain rfl := Option.some.inj hF11
        exact W.again5 hK12 (people23 ++ ([(SitesProcess.mk x26 false 0 false 0 (SitesTag.mk 0 0) 0)] : List SitesProcess)) (v25 + 1) A28 c29 (hd24 ++ ([(((hd6.getD v25.toNat (none, 0)).1, (hd6.getD v25.toNat (none, 0)).2) : Hd)] : List Hd)) k11 hN11 (Nat.lt_succ_self _) (.cons rfl (.nil)) (.cons (i := 3) rfl (.cons (i := 12) rfl (.cons (i := 29) rfl (.cons (i := 30) rfl (.nil))))) (fun wz hw => hw.pick [1, 2, 0] rfl)
      · replace hF11 := cneg hC16 hF11
        refine W.exit ?_
        obtain rfl := Option.some.inj hF11
        exact W.joinAt4 hK9 people23 A21 c22 hd24 (einr hN11) (.nil) (.cons (i := 3) rfl (.cons (i := 12) rfl (.nil))) (fun wz hw => hw.pick [0, 1, 2] rfl)
    · -- behind
      rintro people19 A17 c18 hd20 rfl
      obtain ⟨o22, hF22, hF⟩ := bnd hF
      refine W.join9 (Em := fun (sites32 : (List Site)) (people33 : (List SitesProcess)) (letters37 : (List SitesLetter)) (events40 : (List Event)) (hd34 : List Hd) (A35 : Option Addr) (c36 : Nat) (A38 : Option Addr) (c39 : Nat) => []) (M := fun sites32 people33 letters37 events40 hd34 A35 c36 A38 c39 => [cBx b16 95 (Value.bool fast2 :: (Value.slice (some ⟨b14, 0, none⟩) (sites32).length sites1.toNat :: (Value.slice A17 (people33).length c18 :: (Value.slice A35 (letters37).length c36 :: (Value.slice A38 (events40).length c39 :: []))))), cR encSite 4 (some ⟨b14, 0, none⟩) sites1.toNat 39 sites32, cN encNSitesProcess (innNSitesProcess w) 8 A17 c18 99 hd34 people33, cR encSitesLetter 9 A35 c36 172 letters37, cR encEvent 4 A38 c39 34 events40]) (I := fun sites32 people33 letters37 events40 hd34 A35 c36 A38 c39 => (sites32, people33, letters37, events40) = o22) (.cons (i := 12) rfl (.nil)) (fun K23 hK23 => ?_) ?_
      · -- up to
        -- region 10: sites.go:174
        refine W.know (fun wz hwz => bor_of (h0 := ((none, 0) : Hd)) (q := fun h a => SlIn encAsk 3 w (.slice h.1 a.program.length h.2) a.program) hwz (i := 2) rfl (fun _ _ => .head _)) (fun hbor25 => ?_)
        refine W.seqR fun Q24 hQ24 => ?_
        refine WL.q (Y.move (.pl rfl)) rfl ?_
        refine WL.q (Y.len Try.underlying23 (.pl rfl)) rfl ?_
        refine WL.q (Y.move (.pl rfl)) rfl ?_
        refine WL.next hQ24 (.cons (i := 12) rfl (.cons (i := 47) rfl (.cons (i := 48) rfl (.cons (i := 49) rfl (.nil))))) ?_
        refine W.block ?_
        refine W.loop10 (Em := fun (sites41 : (List Site)) (people42 : (List SitesProcess)) (letters46 : (List SitesLetter)) (events49 : (List Event)) (v50 : Int) (hd43 : List Hd) (A44 : Option Addr) (c45 : Nat) (A47 : Option Addr) (c48 : Nat) => [(49, .int .i64 v50)]) (M := fun sites41 people42 letters46 events49 v50 hd43 A44 c45 A47 c48 => [cBx b16 95 (Value.bool fast2 :: (Value.slice (some ⟨b14, 0, none⟩) (sites41).length sites1.toNat :: (Value.slice A17 (people42).length c18 :: (Value.slice A44 (letters46).length c45 :: (Value.slice A47 (events49).length c48 :: []))))), cR encSite 4 (some ⟨b14, 0, none⟩) sites1.toNat 39 sites41, cN encNSitesProcess (innNSitesProcess w) 8 A17 c18 99 hd43 people42, cR encSitesLetter 9 A44 c45 172 letters46, cR encEvent 4 A47 c48 34 events49]) (I := fun sites41 people42 letters46 events49 v50 hd43 A44 c45 A47 c48 k26 => iter (sites_Play_1_L7 N acts8 fast2) k26 (sites41, people42, letters46, events49, v50) = some o22) (List.replicate sites1.toNat (Site.z : Site)) people19 [] [] 0 hd20 none 0 none 0 N (hF22) (.cons rfl (.nil)) (.cons (i := 12) rfl (.cons (i := 47) rfl (.cons (i := 48) rfl (.nil)))) (fun wz hw => (St.nilR (St.nilR (hw.pick [0, 1, 2] rfl) encSitesLetter 9 172) encEvent 4 34).pick [2, 3, 4, 1, 0] rfl) (fun sites41 people42 letters46 events49 v50 hd43 A44 c45 A47 c48 k26 hI K27 hK27 => ?_)
        obtain ⟨k26, t26, rfl, hF26, hN26⟩ := iter_step hI
        -- region 11: sites.go:174
        refine W.know (fun wz hwz => bor_of (h0 := ((none, 0) : Hd)) (q := fun h a => SlIn encAsk 3 w (.slice h.1 a.program.length h.2) a.program) hwz (i := 2) rfl (fun _ _ => .head _)) (fun hbor29 => ?_)
        refine W.seqR fun Q28 hQ28 => ?_
        refine WL.q (Y.lss (.pl rfl) (.pl rfl)) rfl ?_
        refine WL.next hQ28 (.cons (i := 12) rfl (.cons (i := 47) rfl (.cons (i := 48) rfl (.cons (i := 49) rfl (.cons (i := 50) rfl (.nil)))))) ?_
        refine W.seq fun K30 hK30 => ?_
        refine W.cond (.pl rfl) (fun hC31 => ?_) (fun hC31 => ?_)
        · replace hF26 := cpos hC31 hF26
          refine W.skip ?_
          refine W.go hK30 (.cons (i := 12) rfl (.cons (i := 47) rfl (.cons (i := 48) rfl (.cons (i := 49) rfl (.nil))))) ?_
          refine W.seq fun K32 hK32 => ?_
          refine W.block ?_
          -- region 12: sites.go:174
          refine W.seqR fun Q33 hQ33 => ?_
          obtain ⟨x51, hx51, hF26⟩ := bnd hF26
          refine WL.q (Y.slEl Try.underlying23 cells25 hs11 (.pl rfl) (.pl rfl) (ix_lt (hx51))) rfl ?_
          refine WL.q (Y.loadSA (enc := encAct) (ds := (encAct x51)) (j := 0) Try.underlying25 rfl cells25 hs11 (.pl rfl) (hx51) rfl rfl subW) rfl ?_
          refine WL.step (WO.alloc (cs := (encAct (Act.mk 0 0)).toArray) zero25 rfl rfl fun b52 => ?_)
          refine WL.step (WO.storeBA (ds := (encAct x51)) (cs' := (encAct x51)) cells25 (.pl rfl) (.pl rfl) rfl (oneAct _) (i := 0) rfl (lel (o := 0) (l := 2) (m := 2) (by decide) rfl rfl) (putW rfl) ?_)
          refine WL.next hQ33 (.cons (i := 12) rfl (.cons (i := 16) rfl (.cons (i := 47) rfl (.cons (i := 48) rfl (.cons (i := 49) rfl (.nil)))))) ?_
          -- region 13: sites.go:175
          refine W.seqR fun Q34 hQ34 => ?_
          refine WL.q (Y.fieldAddr0 (off := 0) (ft := 3) Try.underlying25 rfl cells3 (.pl rfl)) rfl ?_
          refine WL.q (Y.loadB (v := .int .i64 x51.kind) Try.underlying3 rfl (.pl rfl) (i := 0) rfl (rfl)) rfl ?_
          refine WL.next hQ34 (.cons (i := 12) rfl (.cons (i := 16) rfl (.cons (i := 47) rfl (.cons (i := 48) rfl (.cons (i := 49) rfl (.cons (i := 54) rfl (.nil))))))) ?_
          refine W.block ?_
          -- region 15: sites.go:176
          refine W.seqR fun Q35 hQ35 => ?_
          refine WL.q (Y.eql (.pl rfl) (.pl rfl)) rfl ?_
          refine WL.q (Y.assign (.pl rfl)) rfl ?_
          refine WL.next hQ35 (.cons (i := 12) rfl (.cons (i := 16) rfl (.cons (i := 47) rfl (.cons (i := 48) rfl (.cons (i := 49) rfl (.cons (i := 54) rfl (.cons (i := 63) rfl (.nil)))))))) ?_
          refine W.cond (.pl rfl) (fun hC36 => ?_) (fun hC36 => ?_)
          · replace hF26 := cpos hC36 hF26
            -- region 16: sites.go:177
            refine W.reg ?_
            refine WL.q (Y.move (.pl rfl)) rfl ?_
            refine WL.q (Y.fieldAddr0 (off := 1) (ft := 3) Try.underlying25 rfl cells3 (.pl rfl)) rfl ?_
            refine WL.q (Y.loadB (v := .int .i64 x51.a) Try.underlying3 rfl (.pl rfl) (i := 0) rfl (rfl)) rfl ?_
            obtain ⟨r53, hr53, hF26⟩ := bnd hF26
            refine WL.step (WO.call (γ := (Option Addr × Nat × Option Addr × Nat)) (fun g => .tuple #[]) (fun g => [cBx b16 95 (Value.bool fast2 :: (Value.slice (some ⟨b14, 0, none⟩) (sites41).length sites1.toNat :: (Value.slice A17 (r53.1).length c18 :: (Value.slice g.1 (r53.2.1).length g.2.1 :: (Value.slice g.2.2.1 (r53.2.2).length g.2.2.2 :: []))))), cR encSite 4 (some ⟨b14, 0, none⟩) sites1.toNat 39 sites41, cN encNSitesProcess (innNSitesProcess w) 8 A17 c18 99 hd43 r53.1, cR encSitesLetter 9 g.1 g.2.1 172 r53.2.1, cR encEvent 4 g.2.2.1 g.2.2.2 34 r53.2.2, cBx b52 25 (encAct x51)]) (fun g => True) isGo52 (.cons (.pl rfl) (.cons (.pl rfl) (.nil))) rfl (fun wz hw => sites_net_call_ok (T := [cBx b52 25 (encAct x51)]) (hr53) (hw.pick [1, 2, 3, 4, 5, 0] rfl) ) ?_)
            rintro ⟨A54, c55, A56, c57⟩ -
            refine WL.nil ?_
            refine W.go hK32 (.cons (i := 12) rfl (.cons (i := 47) rfl (.cons (i := 48) rfl (.cons (i := 49) rfl (.nil))))) ?_
            -- region 21: sites.go:174
            refine W.know (fun wz hwz => bor_of (h0 := ((none, 0) : Hd)) (q := fun h a => SlIn encAsk 3 w (.slice h.1 a.program.length h.2) a.program) hwz (i := 2) rfl (fun _ _ => .head _)) (fun hbor39 => ?_)
            refine W.reg ?_
            obtain ⟨hk58, hF26⟩ := ckh hF26
            refine WL.q (Y.add (.pl rfl) (.pl rfl) (ok64_lt (hk58))) rfl ?_
            refine WL.q (Y.move (.pl rfl)) rfl ?_
            refine WL.nil ?_
            obtain rfl := Option.some.inj hF26
            exact W.again10 hK27 sites41 r53.1 r53.2.1 r53.2.2 (v50 + 1) hd43 A54 c55 A56 c57 k26 hN26 (Nat.lt_succ_self _) (.cons rfl (.nil)) (.cons (i := 12) rfl (.cons (i := 47) rfl (.cons (i := 48) rfl (.nil)))) (fun wz hw => hw.pick [0, 1, 2, 3, 4] rfl)
          · replace hF26 := cneg hC36 hF26
            -- region 17: sites.go:178
            refine W.seqR fun Q40 hQ40 => ?_
            refine WL.q (Y.eql (.pl rfl) (.pl rfl)) rfl ?_
            refine WL.q (Y.assign (.pl rfl)) rfl ?_
            refine WL.next hQ40 (.cons (i := 12) rfl (.cons (i := 16) rfl (.cons (i := 47) rfl (.cons (i := 48) rfl (.cons (i := 49) rfl (.cons (i := 54) rfl (.cons (i := 69) rfl (.nil)))))))) ?_
            refine W.cond (.pl rfl) (fun hC41 => ?_) (fun hC41 => ?_)
            · replace hF26 := cpos hC41 hF26
              -- region 18: sites.go:179
              refine W.reg ?_
              refine WL.q (Y.move (.pl rfl)) rfl ?_
              refine WL.q (Y.fieldAddr0 (off := 1) (ft := 3) Try.underlying25 rfl cells3 (.pl rfl)) rfl ?_
              refine WL.q (Y.loadB (v := .int .i64 x51.a) Try.underlying3 rfl (.pl rfl) (i := 0) rfl (rfl)) rfl ?_
              obtain ⟨r59, hr59, hF26⟩ := bnd hF26
              refine WL.step (WO.call (γ := Unit) (fun g => .tuple #[]) (fun g => [cBx b16 95 (Value.bool fast2 :: (Value.slice (some ⟨b14, 0, none⟩) (r59.1).length sites1.toNat :: (Value.slice A17 (people42).length c18 :: (Value.slice A44 (r59.2).length c45 :: (Value.slice A47 (events49).length c48 :: []))))), cR encSite 4 (some ⟨b14, 0, none⟩) sites1.toNat 39 r59.1, cN encNSitesProcess (innNSitesProcess w) 8 A17 c18 99 hd43 people42, cR encSitesLetter 9 A44 c45 172 r59.2, cR encEvent 4 A47 c48 34 events49, cBx b52 25 (encAct x51)]) (fun g => True) isGo53 (.cons (.pl rfl) (.cons (.pl rfl) (.nil))) rfl (fun wz hw => sites_net_hand_ok (T := [cBx b52 25 (encAct x51)]) (hr59) (hw.pick [1, 2, 3, 4, 5, 0] rfl) ) ?_)
              rintro _ -
              refine WL.nil ?_
              refine W.go hK32 (.cons (i := 12) rfl (.cons (i := 47) rfl (.cons (i := 48) rfl (.cons (i := 49) rfl (.nil))))) ?_
              -- region 21: sites.go:174
              refine W.reg ?_
              obtain ⟨hk60, hF26⟩ := ckh hF26
              refine WL.q (Y.add (.pl rfl) (.pl rfl) (ok64_lt (hk60))) rfl ?_
              refine WL.q (Y.move (.pl rfl)) rfl ?_
              refine WL.nil ?_
              obtain rfl := Option.some.inj hF26
              exact W.again10 hK27 r59.1 people42 r59.2 events49 (v50 + 1) hd43 A44 c45 A47 c48 k26 hN26 (Nat.lt_succ_self _) (.cons rfl (.nil)) (.cons (i := 12) rfl (.cons (i := 47) rfl (.cons (i := 48) rfl (.nil)))) (fun wz hw => hw.pick [0, 1, 2, 3, 4] rfl)
            · replace hF26 := cneg hC41 hF26
              -- region 19: sites.go:180
              refine W.seqR fun Q44 hQ44 => ?_
              refine WL.q (Y.eql (.pl rfl) (.pl rfl)) rfl ?_
              refine WL.q (Y.assign (.pl rfl)) rfl ?_
              refine WL.next hQ44 (.cons (i := 12) rfl (.cons (i := 16) rfl (.cons (i := 47) rfl (.cons (i := 48) rfl (.cons (i := 49) rfl (.cons (i := 75) rfl (.nil))))))) ?_
              refine W.cond (.pl rfl) (fun hC45 => ?_) (fun hC45 => ?_)
              · replace hF26 := cpos hC45 hF26
                -- region 20: sites.go:181
                refine W.reg ?_
                refine WL.q (Y.move (.pl rfl)) rfl ?_
                refine WL.q (Y.fieldAddr0 (off := 1) (ft := 3) Try.underlying25 rfl cells3 (.pl rfl)) rfl ?_
                refine WL.q (Y.loadB (v := .int .i64 x51.a) Try.underlying3 rfl (.pl rfl) (i := 0) rfl (rfl)) rfl ?_
                obtain ⟨r61, hr61, hF26⟩ := bnd hF26
                refine WL.step (WO.call (γ := (List Hd × Option Addr × Nat × Option Addr × Nat)) (fun g => .tuple #[]) (fun g => [cBx b16 95 (Value.bool fast2 :: (Value.slice (some ⟨b14, 0, none⟩) (sites41).length sites1.toNat :: (Value.slice A17 (r61.1).length c18 :: (Value.slice g.2.1 (r61.2.1).length g.2.2.1 :: (Value.slice g.2.2.2.1 (r61.2.2).length g.2.2.2.2 :: []))))), cR encSite 4 (some ⟨b14, 0, none⟩) sites1.toNat 39 sites41, cN encNSitesProcess (innNSitesProcess w) 8 A17 c18 99 g.1 r61.1, cR encSitesLetter 9 g.2.1 g.2.2.1 172 r61.2.1, cR encEvent 4 g.2.2.2.1 g.2.2.2.2 34 r61.2.2, cBx b52 25 (encAct x51)]) (fun g => True) isGo54 (.cons (.pl rfl) (.cons (.pl rfl) (.nil))) rfl (fun wz hw => sites_net_back_ok (T := [cBx b52 25 (encAct x51)]) (hr61) (hw.pick [1, 2, 3, 4, 5, 0] rfl) ) ?_)
                rintro ⟨hd62, A63, c64, A65, c66⟩ -
                refine WL.nil ?_
                refine W.go hK32 (.cons (i := 12) rfl (.cons (i := 47) rfl (.cons (i := 48) rfl (.cons (i := 49) rfl (.nil))))) ?_
                -- region 21: sites.go:174
                refine W.know (fun wz hwz => bor_of (h0 := ((none, 0) : Hd)) (q := fun h a => SlIn encAsk 3 w (.slice h.1 a.program.length h.2) a.program) hwz (i := 2) rfl (fun _ _ => .head _)) (fun hbor48 => ?_)
                refine W.reg ?_
                obtain ⟨hk67, hF26⟩ := ckh hF26
                refine WL.q (Y.add (.pl rfl) (.pl rfl) (ok64_lt (hk67))) rfl ?_
                refine WL.q (Y.move (.pl rfl)) rfl ?_
                refine WL.nil ?_
                obtain rfl := Option.some.inj hF26
                exact W.again10 hK27 sites41 r61.1 r61.2.1 r61.2.2 (v50 + 1) hd62 A63 c64 A65 c66 k26 hN26 (Nat.lt_succ_self _) (.cons rfl (.nil)) (.cons (i := 12) rfl (.cons (i := 47) rfl (.cons (i := 48) rfl (.nil)))) (fun wz hw => hw.pick [0, 1, 2, 3, 4] rfl)
              · replace hF26 := cneg hC45 hF26
                -- region 14: sites.go:183
                refine W.regT 8 (by kernel_rfl) (by kernel_rfl) ?_
                refine WS.q (Y.move (.pl rfl)) rfl ?_
                refine WS.q (Y.nilCheck (.pl rfl)) rfl ?_
                refine WS.q (Y.fieldAddr0 (off := 1) (ft := 27) Try.underlying95 rfl cells27 (.pl rfl)) rfl ?_
                refine WS.q (Y.loadB (v := .slice (some ⟨b14, 0, none⟩) (sites41).length sites1.toNat) Try.underlying27 rfl (.pl rfl) (i := 1) rfl (rfl)) rfl ?_
                refine WS.q (Y.fieldAddr0 (off := 1) (ft := 3) Try.underlying25 rfl cells3 (.pl rfl)) rfl ?_
                refine WS.q (Y.loadB (v := .int .i64 x51.a) Try.underlying3 rfl (.pl rfl) (i := 0) rfl (rfl)) rfl ?_
                obtain ⟨x68, hx68, hF26⟩ := bnd hF26
                refine WS.q (Y.litEl (xs := sites41) Try.underlying27 cells39 (.pl rfl) rfl (.pl rfl) (ix_lt (hx68))) rfl ?_
                refine WS.q (Y.rowField (off := 3) (ft := 4) Try.underlying39 rfl cells4 (i' := 2) rfl (ix_lt (hx68)) (.pl rfl)) rfl ?_
                refine WS.tail ?_
                refine WL.step (WO.storeS (enc := encSite) (a := x68) (a' := (Site.mk x68.stamp x68.who x68.value true)) (idx := x51.a) (j := 3) cells4 (.pl rfl) (.pl rfl) rfl lenSite (i := 2) rfl (ix_get (hx68)) rfl (by decide) rfl ?_)
                refine WL.nil ?_
                refine W.go hK32 (.cons (i := 12) rfl (.cons (i := 47) rfl (.cons (i := 48) rfl (.cons (i := 49) rfl (.nil))))) ?_
                -- region 21: sites.go:174
                refine W.reg ?_
                obtain ⟨hk69, hF26⟩ := ckh hF26
                refine WL.q (Y.add (.pl rfl) (.pl rfl) (ok64_lt (hk69))) rfl ?_
                refine WL.q (Y.move (.pl rfl)) rfl ?_
                refine WL.nil ?_
                obtain rfl := Option.some.inj hF26
                exact W.again10 hK27 (sites41.set x51.a.toNat (Site.mk x68.stamp x68.who x68.value true)) people42 letters46 events49 (v50 + 1) hd43 A44 c45 A47 c48 k26 hN26 (Nat.lt_succ_self _) (.cons rfl (.nil)) (.cons (i := 12) rfl (.cons (i := 47) rfl (.cons (i := 48) rfl (.nil)))) (fun wz hw => St.cong (L := [cBx b16 95 (Value.bool fast2 :: (Value.slice (some ⟨b14, 0, none⟩) (sites41).length sites1.toNat :: (Value.slice A17 (people42).length c18 :: (Value.slice A44 (letters46).length c45 :: (Value.slice A47 (events49).length c48 :: []))))), cR encSite 4 (some ⟨b14, 0, none⟩) sites1.toNat 39 (sites41.set x51.a.toNat (Site.mk x68.stamp x68.who x68.value true)), cN encNSitesProcess (innNSitesProcess w) 8 A17 c18 99 hd43 people42, cR encSitesLetter 9 A44 c45 172 letters46, cR encEvent 4 A47 c48 34 events49]) (hw.pick [1, 2, 3, 4, 5] rfl) (by simp only [List.length_set, List.nil_append, List.cons_append]))
        · replace hF26 := cneg hC31 hF26
          refine W.exit ?_
          obtain rfl := Option.some.inj hF26
          exact W.joinAt9 hK23 sites41 people42 letters46 events49 hd43 A44 c45 A47 c48 (einr hN26) (.nil) (.cons (i := 12) rfl (.nil)) (fun wz hw => hw.pick [0, 1, 2, 3, 4] rfl)
      · -- behind
        rintro sites32 people33 letters37 events40 hd34 A35 c36 A38 c39 rfl
        -- region 22: sites.go:186
        refine W.know (fun wz hwz => bor_of (h0 := ((none, 0) : Hd)) (q := fun h a => SlIn encAsk 3 w (.slice h.1 a.program.length h.2) a.program) hwz (i := 2) rfl (fun _ _ => .head _)) (fun hbor52 => ?_)
        refine W.seqD (by kernel_rfl) (by kernel_rfl) fun R51 hR51 => ?_
        refine WD.q (Y.move (.pl rfl)) rfl ?_
        refine WD.q (Y.nilCheck (.pl rfl)) rfl ?_
        refine WD.q (Y.fieldAddr0 (off := 4) (ft := 26) Try.underlying95 rfl cells26 (.pl rfl)) rfl ?_
        refine WD.q (Y.loadB (v := .slice A38 (events40).length c39) Try.underlying26 rfl (.pl rfl) (i := 0) rfl (rfl)) rfl ?_
        refine WD.q (Y.move (.pl rfl)) rfl ?_
        refine WD.q (Y.nilCheck (.pl rfl)) rfl ?_
        refine WD.q (Y.fieldAddr0 (off := 1) (ft := 27) Try.underlying95 rfl cells27 (.pl rfl)) rfl ?_
        refine WD.q (Y.loadB (v := .slice (some ⟨b14, 0, none⟩) (sites32).length sites1.toNat) Try.underlying27 rfl (.pl rfl) (i := 0) rfl (rfl)) rfl ?_
        refine WD.q (Y.assign (.pl rfl)) rfl ?_
        refine WD.q (Y.assign (.pl rfl)) rfl ?_
        refine WD.q (Y.assign (.pl rfl)) rfl ?_
        refine WD.next hR51 (.cons (i := 8) rfl (.cons (i := 9) rfl (.cons (i := 10) rfl (.nil)))) ?_
        obtain rfl := Option.some.inj hF
        refine W.retV (fn := Try.f20) (vs := [.slice A38 (events40).length c39, .slice (some ⟨b14, 0, none⟩) (sites32).length sites1.toNat, .int .i64 0]) Try.results20 ⟨.tmp rfl, ⟨.tmp rfl, ⟨.tmp rfl, trivial⟩⟩⟩ (fun _ _ h => h) (fun wz hw => ?_)
        exact hR _ _ ⟨(A38, c39, (some ⟨b14, 0, none⟩), sites1.toNat), trivial, rfl, (hw.pick [4, 1] rfl)⟩

def alibkeep_sitesLives (N : Nat) : Option Bool :=
  bd (alibkeep_letters N 0 6) fun (r5 : (List Act)) =>
  bd (alibkeep_letters N 6 6) fun (r9 : (List Act)) =>
  bd (slices_Concat_api_Act_api_Act N ([([(Act.mk 4 0), (Act.mk 1 0)] : List Act), r5, ([(Act.mk 1 1)] : List Act), r9] : List (List Act))) fun (r13 : (List Act)) =>
  bd (sites_Play_1 N 3 false ([([(Ask.mk 0 1 5)] : List Ask), ([(Ask.mk 0 2 0)] : List Ask)] : List (List Ask)) r13) fun (r16 : ((List Event) × (List Site) × Int)) =>
  bd ((cond (((decide (r16.2.2 = 0)) && (decide (((r16.1).length : Int) = 4))) == true) (ix r16.1 3) (some Event.z))) fun (x21 : Event) =>
  bd ((cond (((((decide (r16.2.2 = 0)) && (decide (((r16.1).length : Int) = 4))) && (decide (x21 = (Event.mk 1 0 0 5)))) && (decide (((r16.2.1).length : Int) = 3))) == true) (ix r16.2.1 0) (some Site.z))) fun (x22 : Site) =>
  bd ((cond ((((((decide (r16.2.2 = 0)) && (decide (((r16.1).length : Int) = 4))) && (decide (x21 = (Event.mk 1 0 0 5)))) && (decide (((r16.2.1).length : Int) = 3))) && (decide (x22 = (Site.mk 0 0 0 true)))) == true) (ix r16.2.1 2) (some Site.z))) fun (x23 : Site) =>
  some ((((((decide (r16.2.2 = 0)) && (decide (((r16.1).length : Int) = 4))) && (decide (x21 = (Event.mk 1 0 0 5)))) && (decide (((r16.2.1).length : Int) = 3))) && (decide (x22 = (Site.mk 0 0 0 true)))) && (decide (x23 = (Site.mk 1 0 5 false))))

theorem alibkeep_sitesLives_ok {N : Nat} {res : Bool} (hF : alibkeep_sitesLives N = some res) (w : World) :
    Pure Try.prog 21 [] w (.bool res) := by
  refine W.enter (n := 60) Try.func21 rfl rfl Sub.refl (by simp) (St.start w) fun R hR => ?_
  unfold alibkeep_sitesLives at hF
  -- region 0: sites.go:22
  refine W.seqR fun Q1 hQ1 => ?_
  refine WL.q (Y.assign (.pl rfl)) rfl ?_
  refine WL.next hQ1 (.nil) ?_
  -- region 1: sites.go:23
  refine W.seqR fun Q2 hQ2 => ?_
  refine WL.q (Y.build (cs := (encAsk (Ask.mk 0 1 5)).toArray) shape58 (.cons (.pl rfl) (.cons (.pl rfl) (.nil))) (one_parts ⟨rfl, ⟨rfl, trivial⟩⟩) rfl) rfl ?_
  refine WL.step (WO.bsliceC (enc := encAsk) (ys := ([(Ask.mk 0 1 5)] : List Ask)) Try.underlying41 bz58 (.cons (.pl rfl) (.nil)) rfl lenAsk rfl rfl (by decide) (by decide) rfl fun b1 => ?_)
  refine WL.q (Y.build (cs := (encAsk (Ask.mk 0 2 0)).toArray) shape58 (.cons (.pl rfl) (.nil)) (one_parts ⟨rfl, trivial⟩) rfl) rfl ?_
  refine WL.step (WO.bsliceC (enc := encAsk) (ys := ([(Ask.mk 0 2 0)] : List Ask)) Try.underlying41 bz58 (.cons (.pl rfl) (.nil)) rfl lenAsk rfl rfl (by decide) (by decide) rfl fun b2 => ?_)
  refine WL.step (WO.bsliceN (enc := encSl) (inn := (innSl encAsk 3 58)) (hs := ([(((some ⟨b1, 0, none⟩), (([(Ask.mk 0 1 5)] : List Ask)).length) : Hd), (((some ⟨b2, 0, none⟩), (([(Ask.mk 0 2 0)] : List Ask)).length) : Hd)] : List Hd)) (xs := ([([(Ask.mk 0 1 5)] : List Ask), ([(Ask.mk 0 2 0)] : List Ask)] : List (List Ask))) Try.underlying22 bz41 (.cons (.pl rfl) (.cons (.pl rfl) (.nil))) rfl rfl rfl rfl rfl lenSl (by decide) (by decide) (.pick [1, 0] rfl) rfl fun b3 => ?_)
  refine WL.q (Y.assign (.pl rfl)) rfl ?_
  refine WL.next hQ2 (.cons (i := 1) rfl (.nil)) ?_
  -- region 2: sites.go:24
  refine W.seqR fun Q3 hQ3 => ?_
  refine WL.q (Y.build (cs := (encAct (Act.mk 4 0)).toArray) shape25 (.cons (.pl rfl) (.cons (.pl rfl) (.nil))) (one_parts ⟨rfl, ⟨rfl, trivial⟩⟩) rfl) rfl ?_
  refine WL.q (Y.build (cs := (encAct (Act.mk 1 0)).toArray) shape25 (.cons (.pl rfl) (.nil)) (one_parts ⟨rfl, trivial⟩) rfl) rfl ?_
  refine WL.step (WO.bsliceC (enc := encAct) (ys := ([(Act.mk 4 0), (Act.mk 1 0)] : List Act)) Try.underlying23 bz25 (.cons (.pl rfl) (.cons (.pl rfl) (.nil))) rfl lenAct rfl rfl (by decide) (by decide) rfl fun b4 => ?_)
  obtain ⟨r5, hr5, hF⟩ := bnd hF
  refine WL.step (WO.callM isGo26 (.cons (.pl rfl) (.cons (.pl rfl) (.nil))) rfl (fun wz hw => alibkeep_letters_ok (hr5) wz ) ?_)
  rintro ⟨A6, c7⟩ -
  refine WL.q (Y.build (cs := (encAct (Act.mk 1 1)).toArray) shape25 (.cons (.pl rfl) (.cons (.pl rfl) (.nil))) (one_parts ⟨rfl, ⟨rfl, trivial⟩⟩) rfl) rfl ?_
  refine WL.step (WO.bsliceC (enc := encAct) (ys := ([(Act.mk 1 1)] : List Act)) Try.underlying23 bz25 (.cons (.pl rfl) (.nil)) rfl lenAct rfl rfl (by decide) (by decide) rfl fun b8 => ?_)
  obtain ⟨r9, hr9, hF⟩ := bnd hF
  refine WL.step (WO.callM isGo26 (.cons (.pl rfl) (.cons (.pl rfl) (.nil))) rfl (fun wz hw => alibkeep_letters_ok (hr9) wz ) ?_)
  rintro ⟨A10, c11⟩ -
  refine WL.step (WO.bsliceN (enc := encSl) (inn := (innSl encAct 2 25)) (hs := ([(((some ⟨b4, 0, none⟩), (([(Act.mk 4 0), (Act.mk 1 0)] : List Act)).length) : Hd), ((A6, c7) : Hd), (((some ⟨b8, 0, none⟩), (([(Act.mk 1 1)] : List Act)).length) : Hd), ((A10, c11) : Hd)] : List Hd)) (xs := ([([(Act.mk 4 0), (Act.mk 1 0)] : List Act), r5, ([(Act.mk 1 1)] : List Act), r9] : List (List Act))) Try.underlying120 bz23 (.cons (.pl rfl) (.cons (.pl rfl) (.cons (.pl rfl) (.cons (.pl rfl) (.nil))))) rfl rfl rfl rfl rfl lenSl (by decide) (by decide) (.pick [3, 2, 1, 0, 4] rfl) rfl fun b12 => ?_)
  obtain ⟨r13, hr13, hF⟩ := bnd hF
  refine WL.step (WO.callM isGo32 (.cons (.pl rfl) (.nil)) rfl (fun wz hw => slices_Concat_api_Act_api_Act_ok (hr13) wz (SlNN.ofN lenAct hw (i := 0) rfl)) ?_)
  rintro ⟨A14, c15⟩ -
  refine WL.q (Y.assign (.pl rfl)) rfl ?_
  refine WL.next hQ3 (.cons (i := 1) rfl (.cons (i := 2) rfl (.nil))) ?_
  -- region 3: sites.go:25
  refine W.seqR fun Q4 hQ4 => ?_
  refine WL.q (Y.move (.pl rfl)) rfl ?_
  refine WL.q (Y.move (.pl rfl)) rfl ?_
  obtain ⟨r16, hr16, hF⟩ := bnd hF
  refine WL.step (WO.callM isGo20 (.cons (.pl rfl) (.cons (.pl rfl) (.cons (.pl rfl) (.cons (.pl rfl) (.nil))))) rfl (fun wz hw => sites_Play_1_ok (hr16) wz (SlNN.ofN lenAsk hw (i := 2) rfl) (SlIn.ofRow lenAct hw (i := 0) rfl)) ?_)
  rintro ⟨A17, c18, A19, c20⟩ -
  refine WL.q (Y.move (.pl rfl)) rfl ?_
  refine WL.q (Y.extract (.pl rfl) rfl) rfl ?_
  refine WL.q (Y.extract (.pl rfl) rfl) rfl ?_
  refine WL.q (Y.extract (.pl rfl) rfl) rfl ?_
  refine WL.q (Y.assign (.pl rfl)) rfl ?_
  refine WL.q (Y.assign (.pl rfl)) rfl ?_
  refine WL.q (Y.assign (.pl rfl)) rfl ?_
  refine WL.next hQ4 (.cons (i := 3) rfl (.cons (i := 4) rfl (.cons (i := 5) rfl (.nil)))) ?_
  -- region 4: sites.go:26
  refine W.seqR fun Q5 hQ5 => ?_
  refine WL.q (Y.move (.pl rfl)) rfl ?_
  refine WL.q (Y.eql (.pl rfl) (.pl rfl)) rfl ?_
  refine WL.q (Y.move (.pl rfl)) rfl ?_
  refine WL.g (.pl rfl rfl rfl) (fun hg => Y.move (.pl rfl)) rfl ?_
  refine WL.g (.pl rfl rfl rfl) (fun hg => Y.len Try.underlying26 (.gd (hg) rfl)) rfl ?_
  refine WL.g (.pl rfl rfl rfl) (fun hg => Y.eql (.gd (hg) rfl) (.pl rfl)) rfl ?_
  refine WL.q (Y.and (.pl rfl) (fun h2 => .gd (eqt h2) rfl)) rfl ?_
  refine WL.q (Y.move (.pl rfl)) rfl ?_
  refine WL.g (.pl rfl rfl rfl) (fun hg => Y.move (.pl rfl)) rfl ?_
  obtain ⟨x21, hx21, hF⟩ := bnd hF
  refine WL.g (.pl rfl rfl rfl) (fun hg => Y.rowEl Try.underlying26 cells34 (i := 0) rfl (.gd (hg) rfl) rfl (.pl rfl) (ix_lt (gpos hg hx21))) rfl ?_
  refine WL.g (.pl rfl rfl rfl) (fun hg => Y.loadRA (enc := encEvent) (ds := (encEvent x21)) (a := x21) (idx := 3) (j := 0) Try.underlying34 rfl cells34 lenEvent (i := 0) rfl (.gd (hg) rfl) (ix_get (gpos hg hx21)) rfl rfl subW) rfl ?_
  refine WL.g (.pl rfl rfl rfl) (fun hg => Y.build (cs := (encEvent (Event.mk 1 0 0 5)).toArray) shape34 (.cons (.pl rfl) (.cons (.pl rfl) (.nil))) (one_parts ⟨rfl, ⟨rfl, trivial⟩⟩) rfl) rfl ?_
  refine WL.g (.pl rfl rfl rfl) (fun hg => Y.eqlS eqs34 (.gd (hg) rfl) (.gd (hg) rfl) (eqEvent x21 (Event.mk 1 0 0 5))) rfl ?_
  refine WL.q (Y.and (.pl rfl) (fun h2 => .gd (eqt h2) rfl)) rfl ?_
  refine WL.q (Y.move (.pl rfl)) rfl ?_
  refine WL.g (.pl rfl rfl rfl) (fun hg => Y.move (.pl rfl)) rfl ?_
  refine WL.g (.pl rfl rfl rfl) (fun hg => Y.len Try.underlying27 (.gd (hg) rfl)) rfl ?_
  refine WL.g (.pl rfl rfl rfl) (fun hg => Y.eql (.gd (hg) rfl) (.pl rfl)) rfl ?_
  refine WL.q (Y.and (.pl rfl) (fun h2 => .gd (eqt h2) rfl)) rfl ?_
  refine WL.q (Y.move (.pl rfl)) rfl ?_
  refine WL.g (.pl rfl rfl rfl) (fun hg => Y.move (.pl rfl)) rfl ?_
  obtain ⟨x22, hx22, hF⟩ := bnd hF
  refine WL.g (.pl rfl rfl rfl) (fun hg => Y.rowEl Try.underlying27 cells39 (i := 1) rfl (.gd (hg) rfl) rfl (.pl rfl) (ix_lt (gpos hg hx22))) rfl ?_
  refine WL.g (.pl rfl rfl rfl) (fun hg => Y.loadRA (enc := encSite) (ds := (encSite x22)) (a := x22) (idx := 0) (j := 0) Try.underlying39 rfl cells39 lenSite (i := 1) rfl (.gd (hg) rfl) (ix_get (gpos hg hx22)) rfl rfl subW) rfl ?_
  refine WL.g (.pl rfl rfl rfl) (fun hg => Y.build (cs := (encSite (Site.mk 0 0 0 true)).toArray) shape39 (.cons (.pl rfl) (.nil)) (one_parts ⟨rfl, trivial⟩) rfl) rfl ?_
  refine WL.g (.pl rfl rfl rfl) (fun hg => Y.eqlS eqs39 (.gd (hg) rfl) (.gd (hg) rfl) (eqSite x22 (Site.mk 0 0 0 true))) rfl ?_
  refine WL.q (Y.and (.pl rfl) (fun h2 => .gd (eqt h2) rfl)) rfl ?_
  refine WL.q (Y.move (.pl rfl)) rfl ?_
  refine WL.g (.pl rfl rfl rfl) (fun hg => Y.move (.pl rfl)) rfl ?_
  obtain ⟨x23, hx23, hF⟩ := bnd hF
  refine WL.g (.pl rfl rfl rfl) (fun hg => Y.rowEl Try.underlying27 cells39 (i := 1) rfl (.gd (hg) rfl) rfl (.pl rfl) (ix_lt (gpos hg hx23))) rfl ?_
  refine WL.g (.pl rfl rfl rfl) (fun hg => Y.loadRA (enc := encSite) (ds := (encSite x23)) (a := x23) (idx := 2) (j := 0) Try.underlying39 rfl cells39 lenSite (i := 1) rfl (.gd (hg) rfl) (ix_get (gpos hg hx23)) rfl rfl subW) rfl ?_
  refine WL.g (.pl rfl rfl rfl) (fun hg => Y.build (cs := (encSite (Site.mk 1 0 5 false)).toArray) shape39 (.cons (.pl rfl) (.cons (.pl rfl) (.nil))) (one_parts ⟨rfl, ⟨rfl, trivial⟩⟩) rfl) rfl ?_
  refine WL.g (.pl rfl rfl rfl) (fun hg => Y.eqlS eqs39 (.gd (hg) rfl) (.gd (hg) rfl) (eqSite x23 (Site.mk 1 0 5 false))) rfl ?_
  refine WL.q (Y.and (.pl rfl) (fun h2 => .gd (eqt h2) rfl)) rfl ?_
  refine WL.q (Y.assign (.pl rfl)) rfl ?_
  refine WL.next hQ5 (.cons (i := 0) rfl (.nil)) ?_
  obtain rfl := Option.some.inj hF
  refine W.retV (fn := Try.f21) (vs := [.bool ((((((decide (r16.2.2 = 0)) && (decide (((r16.1).length : Int) = 4))) && (decide (x21 = (Event.mk 1 0 0 5)))) && (decide (((r16.2.1).length : Int) = 3))) && (decide (x22 = (Site.mk 0 0 0 true)))) && (decide (x23 = (Site.mk 1 0 5 false))))]) Try.results21 ⟨.tmp rfl, trivial⟩ (fun _ _ h => h) (fun wz hw => ?_)
  exact hR _ _ ⟨rfl, (hw.pick [] rfl)⟩

end Go.Proofs.Yteklmleiiiodfaa
