/- SeqApart: what the code computes, and the walk. -/
import Derived.Test.YtpakplmpihhmbaaLA2
set_option linter.unusedVariables false
set_option linter.unusedSimpArgs false
set_option linter.unusedSectionVars false
set_option maxRecDepth 100000
namespace Go.Proofs.Ytpakplmpihhmbaa
open Go.RowKit
theorem cells43 : Try.prog.cellsOf 43 = 0 + 1 := by kernel_rfl
theorem isGo31 : IsGo Try.prog 31 := ⟨_, Try.func31, by kernel_rfl, rfl⟩
theorem isGo46 : IsGo Try.prog 46 := ⟨_, Try.func46, by kernel_rfl, rfl⟩
theorem isGo47 : IsGo Try.prog 47 := ⟨_, Try.func47, by kernel_rfl, rfl⟩
theorem isGo48 : IsGo Try.prog 48 := ⟨_, Try.func48, by kernel_rfl, rfl⟩
theorem isGo49 : IsGo Try.prog 49 := ⟨_, Try.func49, by kernel_rfl, rfl⟩
theorem isGo51 : IsGo Try.prog 51 := ⟨_, Try.func51, by kernel_rfl, rfl⟩
theorem isGo59 : IsGo Try.prog 59 := ⟨_, Try.func59, by kernel_rfl, rfl⟩
theorem isGo75 : IsGo Try.prog 75 := ⟨_, Try.func75, by kernel_rfl, rfl⟩
theorem isGo76 : IsGo Try.prog 76 := ⟨_, Try.func76, by kernel_rfl, rfl⟩
theorem isGo77 : IsGo Try.prog 77 := ⟨_, Try.func77, by kernel_rfl, rfl⟩
theorem isGo78 : IsGo Try.prog 78 := ⟨_, Try.func78, by kernel_rfl, rfl⟩
theorem zero43 : ∃ i, Try.prog.info? 43 = some i ∧ i.zero = some (Value.slice none 0 0) := ⟨_, rfl, by kernel_rfl⟩
theorem eqs58 : EqShape Try.prog 58 [true, true] := ⟨_, Try.underlying58, by kernel_rfl, by kernel_rfl, by kernel_rfl⟩
def alibkeep_crossed_1 (N : Nat) (who1 : Int) (thing2 : Int) (kind3 : Int) (arg4 : Int) (res5 : Int) (a9 : (List Event)) : Option Unit :=
  ck (limB 32 ((a9).length + (([(Event.mk who1 thing2 kind3 arg4), (Event.mk who1 thing2 0 res5)] : List Event)).length)) <|
  some ()

theorem alibkeep_crossed_1_ok {N : Nat} {who1 : Int} {thing2 : Int} {kind3 : Int} {arg4 : Int} {res5 : Int} {a9 : (List Event)} {b6 : Nat} {A7 : Option Addr} {c8 : Nat} {res : Unit} (hF : alibkeep_crossed_1 N who1 thing2 kind3 arg4 res5 a9 = some res) {w0 w : World} {T : List Chunk} (hw : St w0.heap.size w0 ([cBx b6 43 [.slice A7 (a9).length c8], cR encEvent 4 A7 c8 49 a9] ++ T) w) :
    Calls Try.prog 78 (List.toArray [.int .i64 who1, .int .i64 thing2, .int .i64 kind3, .int .i64 arg4, .int .i64 res5, .pointer (some ⟨b6, 0, none⟩)]) w (fun e w' => ∃ g : (Option Addr × Nat), (True) ∧ e = .returned (.tuple #[]) ∧ St w0.heap.size w0 ([cBx b6 43 [.slice g.1 ((a9 ++ ([(Event.mk who1 thing2 kind3 arg4), (Event.mk who1 thing2 0 res5)] : List Event))).length g.2], cR encEvent 4 g.1 g.2 49 (a9 ++ ([(Event.mk who1 thing2 kind3 arg4), (Event.mk who1 thing2 0 res5)] : List Event))] ++ T) w') := by
  refine W.enter (n := 23) Try.func78 rfl rfl Sub.refl (by simp) hw fun R hR => ?_
  unfold alibkeep_crossed_1 at hF
  -- region 0: seq.go:17
  refine W.reg ?_
  refine WL.q (Y.loadB (v := .slice A7 (a9).length c8) Try.underlying43 rfl (.pl rfl) (i := 0) rfl (rfl)) rfl ?_
  refine WL.q (Y.move (.pl rfl)) rfl ?_
  refine WL.q (Y.move (.pl rfl)) rfl ?_
  refine WL.q (Y.move (.pl rfl)) rfl ?_
  refine WL.q (Y.move (.pl rfl)) rfl ?_
  refine WL.q (Y.build (cs := (encEvent (Event.mk who1 thing2 kind3 arg4)).toArray) shape49 (.cons (.pl rfl) (.cons (.pl rfl) (.cons (.pl rfl) (.cons (.pl rfl) (.nil))))) (one_parts ⟨rfl, ⟨rfl, ⟨rfl, ⟨rfl, trivial⟩⟩⟩⟩) rfl) rfl ?_
  refine WL.q (Y.move (.pl rfl)) rfl ?_
  refine WL.q (Y.move (.pl rfl)) rfl ?_
  refine WL.q (Y.move (.pl rfl)) rfl ?_
  refine WL.q (Y.build (cs := (encEvent (Event.mk who1 thing2 0 res5)).toArray) shape49 (.cons (.pl rfl) (.cons (.pl rfl) (.cons (.pl rfl) (.nil)))) (one_parts ⟨rfl, ⟨rfl, ⟨rfl, trivial⟩⟩⟩) rfl) rfl ?_
  refine WL.step (WO.bsliceC (enc := encEvent) (ys := ([(Event.mk who1 thing2 kind3 arg4), (Event.mk who1 thing2 0 res5)] : List Event)) Try.underlying43 bz49 (.cons (.pl rfl) (.cons (.pl rfl) (.nil))) rfl lenEvent rfl rfl (by decide) (by decide) rfl fun b10 => ?_)
  obtain ⟨hk13, hF⟩ := ckh hF
  refine WL.step (WO.appendC (enc := encEvent) Try.underlying43 ap49 lenEvent oneEvent (.pl rfl) rfl (.pl rfl) (i := 2) rfl (m2 := 0) rfl (hk13) rfl fun A11 c12 => ?_)
  refine WL.step (WO.storeB (cs' := [.slice A11 ((a9 ++ ([(Event.mk who1 thing2 kind3 arg4), (Event.mk who1 thing2 0 res5)] : List Event))).length c12]) cells43 (.pl rfl) (.pl rfl) rfl (i := 1) rfl (ltl (m := 1) (by decide) rfl) (rfl) ?_)
  refine WL.nil ?_
  obtain rfl := Option.some.inj hF
  refine W.endV (fn := Try.f78) (vs := []) Try.results78 trivial (fun _ _ h => h) (fun wz hw => ?_)
  exact hR _ _ ⟨(A11, c12), trivial, rfl, (hw.pickK 3 [1, 2] rfl)⟩

def alibkeep_crossed (N : Nat) : Option Unit :=
  bd (alibkeep_crossed_1 N 0 0 3 1 0 ([] : (List Event))) fun (r2 : Unit) =>
  bd (alibkeep_crossed_1 N 1 1 3 2 0 (([] : (List Event)) ++ ([(Event.mk 0 0 3 1), (Event.mk 0 0 0 0)] : List Event))) fun (r5 : Unit) =>
  bd (alibkeep_crossed_1 N 0 1 3 1 0 ((([] : (List Event)) ++ ([(Event.mk 0 0 3 1), (Event.mk 0 0 0 0)] : List Event)) ++ ([(Event.mk 1 1 3 2), (Event.mk 1 1 0 0)] : List Event))) fun (r8 : Unit) =>
  bd (alibkeep_crossed_1 N 1 0 3 2 0 (((([] : (List Event)) ++ ([(Event.mk 0 0 3 1), (Event.mk 0 0 0 0)] : List Event)) ++ ([(Event.mk 1 1 3 2), (Event.mk 1 1 0 0)] : List Event)) ++ ([(Event.mk 0 1 3 1), (Event.mk 0 1 0 0)] : List Event))) fun (r11 : Unit) =>
  bd (alibkeep_crossed_1 N 0 0 4 0 2 ((((([] : (List Event)) ++ ([(Event.mk 0 0 3 1), (Event.mk 0 0 0 0)] : List Event)) ++ ([(Event.mk 1 1 3 2), (Event.mk 1 1 0 0)] : List Event)) ++ ([(Event.mk 0 1 3 1), (Event.mk 0 1 0 0)] : List Event)) ++ ([(Event.mk 1 0 3 2), (Event.mk 1 0 0 0)] : List Event))) fun (r14 : Unit) =>
  bd (alibkeep_crossed_1 N 1 1 4 0 1 (((((([] : (List Event)) ++ ([(Event.mk 0 0 3 1), (Event.mk 0 0 0 0)] : List Event)) ++ ([(Event.mk 1 1 3 2), (Event.mk 1 1 0 0)] : List Event)) ++ ([(Event.mk 0 1 3 1), (Event.mk 0 1 0 0)] : List Event)) ++ ([(Event.mk 1 0 3 2), (Event.mk 1 0 0 0)] : List Event)) ++ ([(Event.mk 0 0 4 0), (Event.mk 0 0 0 2)] : List Event))) fun (r17 : Unit) =>
  some ()

theorem alibkeep_crossed_ok {N : Nat} {res : Unit} (hF : alibkeep_crossed N = some res) (w : World) :
    Made Try.prog 51 [] w (fun g : (Option Addr × Nat) => .slice g.1 (((((((([] : (List Event)) ++ ([(Event.mk 0 0 3 1), (Event.mk 0 0 0 0)] : List Event)) ++ ([(Event.mk 1 1 3 2), (Event.mk 1 1 0 0)] : List Event)) ++ ([(Event.mk 0 1 3 1), (Event.mk 0 1 0 0)] : List Event)) ++ ([(Event.mk 1 0 3 2), (Event.mk 1 0 0 0)] : List Event)) ++ ([(Event.mk 0 0 4 0), (Event.mk 0 0 0 2)] : List Event)) ++ ([(Event.mk 1 1 4 0), (Event.mk 1 1 0 1)] : List Event))).length g.2) (fun g => [cR encEvent 4 g.1 g.2 49 ((((((([] : (List Event)) ++ ([(Event.mk 0 0 3 1), (Event.mk 0 0 0 0)] : List Event)) ++ ([(Event.mk 1 1 3 2), (Event.mk 1 1 0 0)] : List Event)) ++ ([(Event.mk 0 1 3 1), (Event.mk 0 1 0 0)] : List Event)) ++ ([(Event.mk 1 0 3 2), (Event.mk 1 0 0 0)] : List Event)) ++ ([(Event.mk 0 0 4 0), (Event.mk 0 0 0 2)] : List Event)) ++ ([(Event.mk 1 1 4 0), (Event.mk 1 1 0 1)] : List Event))]) (fun g => True) := by
  refine W.enter (n := 17) Try.func51 rfl rfl Sub.refl (by simp) (St.start w) fun R hR => ?_
  unfold alibkeep_crossed at hF
  -- region 0: seq.go:14
  refine W.seqR fun Q1 hQ1 => ?_
  refine WL.q (Y.assign (.pl rfl)) rfl ?_
  refine WL.next hQ1 (.nil) ?_
  -- region 1: seq.go:15
  refine W.seqR fun Q2 hQ2 => ?_
  refine WL.step (WO.alloc (cs := [.slice none 0 0].toArray) zero43 rfl rfl fun b1 => ?_)
  refine WL.next hQ2 (.cons (i := 1) rfl (.nil)) ?_
  -- region 2: seq.go:16
  refine W.seqR fun Q3 hQ3 => ?_
  refine WL.q (Y.fnC (.cons (.pl rfl) (.nil))) rfl ?_
  refine WL.q (Y.assign (.pl rfl)) rfl ?_
  refine WL.next hQ3 (.cons (i := 1) rfl (.cons (i := 2) rfl (.nil))) ?_
  -- region 3: seq.go:19
  refine W.seqR fun Q4 hQ4 => ?_
  refine WL.q (Y.move (.pl rfl)) rfl ?_
  obtain ⟨r2, hr2, hF⟩ := bnd hF
  refine WL.step (WO.callG (γ := (Option Addr × Nat)) (first := []) (cap := [.pointer (some ⟨b1, 0, none⟩)]) (fun g => .tuple #[]) (fun g => [cBx b1 43 [.slice g.1 ((([] : (List Event)) ++ ([(Event.mk 0 0 3 1), (Event.mk 0 0 0 0)] : List Event))).length g.2], cR encEvent 4 g.1 g.2 49 (([] : (List Event)) ++ ([(Event.mk 0 0 3 1), (Event.mk 0 0 0 0)] : List Event))]) (fun g => True) isGo78 (.pl rfl) (.cons (.pl rfl) (.cons (.pl rfl) (.cons (.pl rfl) (.cons (.pl rfl) (.cons (.pl rfl) (.nil)))))) rfl (fun wz hw => alibkeep_crossed_1_ok (T := []) (hr2) ((St.nilR (hw) encEvent 4 49).pick [1, 0] rfl) ) ?_)
  rintro ⟨A3, c4⟩ -
  refine WL.next hQ4 (.cons (i := 1) rfl (.cons (i := 2) rfl (.nil))) ?_
  -- region 4: seq.go:20
  refine W.seqR fun Q5 hQ5 => ?_
  refine WL.q (Y.move (.pl rfl)) rfl ?_
  obtain ⟨r5, hr5, hF⟩ := bnd hF
  refine WL.step (WO.callG (γ := (Option Addr × Nat)) (first := []) (cap := [.pointer (some ⟨b1, 0, none⟩)]) (fun g => .tuple #[]) (fun g => [cBx b1 43 [.slice g.1 (((([] : (List Event)) ++ ([(Event.mk 0 0 3 1), (Event.mk 0 0 0 0)] : List Event)) ++ ([(Event.mk 1 1 3 2), (Event.mk 1 1 0 0)] : List Event))).length g.2], cR encEvent 4 g.1 g.2 49 ((([] : (List Event)) ++ ([(Event.mk 0 0 3 1), (Event.mk 0 0 0 0)] : List Event)) ++ ([(Event.mk 1 1 3 2), (Event.mk 1 1 0 0)] : List Event))]) (fun g => True) isGo78 (.pl rfl) (.cons (.pl rfl) (.cons (.pl rfl) (.cons (.pl rfl) (.cons (.pl rfl) (.cons (.pl rfl) (.nil)))))) rfl (fun wz hw => alibkeep_crossed_1_ok (T := []) (hr5) (hw.pick [0, 1] rfl) ) ?_)
  rintro ⟨A6, c7⟩ -
  refine WL.next hQ5 (.cons (i := 1) rfl (.cons (i := 2) rfl (.nil))) ?_
  -- region 5: seq.go:21
  refine W.seqR fun Q6 hQ6 => ?_
  refine WL.q (Y.move (.pl rfl)) rfl ?_
  obtain ⟨r8, hr8, hF⟩ := bnd hF
  refine WL.step (WO.callG (γ := (Option Addr × Nat)) (first := []) (cap := [.pointer (some ⟨b1, 0, none⟩)]) (fun g => .tuple #[]) (fun g => [cBx b1 43 [.slice g.1 ((((([] : (List Event)) ++ ([(Event.mk 0 0 3 1), (Event.mk 0 0 0 0)] : List Event)) ++ ([(Event.mk 1 1 3 2), (Event.mk 1 1 0 0)] : List Event)) ++ ([(Event.mk 0 1 3 1), (Event.mk 0 1 0 0)] : List Event))).length g.2], cR encEvent 4 g.1 g.2 49 (((([] : (List Event)) ++ ([(Event.mk 0 0 3 1), (Event.mk 0 0 0 0)] : List Event)) ++ ([(Event.mk 1 1 3 2), (Event.mk 1 1 0 0)] : List Event)) ++ ([(Event.mk 0 1 3 1), (Event.mk 0 1 0 0)] : List Event))]) (fun g => True) isGo78 (.pl rfl) (.cons (.pl rfl) (.cons (.pl rfl) (.cons (.pl rfl) (.cons (.pl rfl) (.cons (.pl rfl) (.nil)))))) rfl (fun wz hw => alibkeep_crossed_1_ok (T := []) (hr8) (hw.pick [0, 1] rfl) ) ?_)
  rintro ⟨A9, c10⟩ -
  refine WL.next hQ6 (.cons (i := 1) rfl (.cons (i := 2) rfl (.nil))) ?_
  -- region 6: seq.go:22
  refine W.seqR fun Q7 hQ7 => ?_
  refine WL.q (Y.move (.pl rfl)) rfl ?_
  obtain ⟨r11, hr11, hF⟩ := bnd hF
  refine WL.step (WO.callG (γ := (Option Addr × Nat)) (first := []) (cap := [.pointer (some ⟨b1, 0, none⟩)]) (fun g => .tuple #[]) (fun g => [cBx b1 43 [.slice g.1 (((((([] : (List Event)) ++ ([(Event.mk 0 0 3 1), (Event.mk 0 0 0 0)] : List Event)) ++ ([(Event.mk 1 1 3 2), (Event.mk 1 1 0 0)] : List Event)) ++ ([(Event.mk 0 1 3 1), (Event.mk 0 1 0 0)] : List Event)) ++ ([(Event.mk 1 0 3 2), (Event.mk 1 0 0 0)] : List Event))).length g.2], cR encEvent 4 g.1 g.2 49 ((((([] : (List Event)) ++ ([(Event.mk 0 0 3 1), (Event.mk 0 0 0 0)] : List Event)) ++ ([(Event.mk 1 1 3 2), (Event.mk 1 1 0 0)] : List Event)) ++ ([(Event.mk 0 1 3 1), (Event.mk 0 1 0 0)] : List Event)) ++ ([(Event.mk 1 0 3 2), (Event.mk 1 0 0 0)] : List Event))]) (fun g => True) isGo78 (.pl rfl) (.cons (.pl rfl) (.cons (.pl rfl) (.cons (.pl rfl) (.cons (.pl rfl) (.cons (.pl rfl) (.nil)))))) rfl (fun wz hw => alibkeep_crossed_1_ok (T := []) (hr11) (hw.pick [0, 1] rfl) ) ?_)
  rintro ⟨A12, c13⟩ -
  refine WL.next hQ7 (.cons (i := 1) rfl (.cons (i := 2) rfl (.nil))) ?_
  -- region 7: seq.go:23
  refine W.seqR fun Q8 hQ8 => ?_
  refine WL.q (Y.move (.pl rfl)) rfl ?_
  obtain ⟨r14, hr14, hF⟩ := bnd hF
  refine WL.step (WO.callG (γ := (Option Addr × Nat)) (first := []) (cap := [.pointer (some ⟨b1, 0, none⟩)]) (fun g => .tuple #[]) (fun g => [cBx b1 43 [.slice g.1 ((((((([] : (List Event)) ++ ([(Event.mk 0 0 3 1), (Event.mk 0 0 0 0)] : List Event)) ++ ([(Event.mk 1 1 3 2), (Event.mk 1 1 0 0)] : List Event)) ++ ([(Event.mk 0 1 3 1), (Event.mk 0 1 0 0)] : List Event)) ++ ([(Event.mk 1 0 3 2), (Event.mk 1 0 0 0)] : List Event)) ++ ([(Event.mk 0 0 4 0), (Event.mk 0 0 0 2)] : List Event))).length g.2], cR encEvent 4 g.1 g.2 49 (((((([] : (List Event)) ++ ([(Event.mk 0 0 3 1), (Event.mk 0 0 0 0)] : List Event)) ++ ([(Event.mk 1 1 3 2), (Event.mk 1 1 0 0)] : List Event)) ++ ([(Event.mk 0 1 3 1), (Event.mk 0 1 0 0)] : List Event)) ++ ([(Event.mk 1 0 3 2), (Event.mk 1 0 0 0)] : List Event)) ++ ([(Event.mk 0 0 4 0), (Event.mk 0 0 0 2)] : List Event))]) (fun g => True) isGo78 (.pl rfl) (.cons (.pl rfl) (.cons (.pl rfl) (.cons (.pl rfl) (.cons (.pl rfl) (.cons (.pl rfl) (.nil)))))) rfl (fun wz hw => alibkeep_crossed_1_ok (T := []) (hr14) (hw.pick [0, 1] rfl) ) ?_)
  rintro ⟨A15, c16⟩ -
  refine WL.next hQ8 (.cons (i := 1) rfl (.cons (i := 2) rfl (.nil))) ?_
  -- region 8: seq.go:24
  refine W.seqR fun Q9 hQ9 => ?_
  refine WL.q (Y.move (.pl rfl)) rfl ?_
  obtain ⟨r17, hr17, hF⟩ := bnd hF
  refine WL.step (WO.callG (γ := (Option Addr × Nat)) (first := []) (cap := [.pointer (some ⟨b1, 0, none⟩)]) (fun g => .tuple #[]) (fun g => [cBx b1 43 [.slice g.1 (((((((([] : (List Event)) ++ ([(Event.mk 0 0 3 1), (Event.mk 0 0 0 0)] : List Event)) ++ ([(Event.mk 1 1 3 2), (Event.mk 1 1 0 0)] : List Event)) ++ ([(Event.mk 0 1 3 1), (Event.mk 0 1 0 0)] : List Event)) ++ ([(Event.mk 1 0 3 2), (Event.mk 1 0 0 0)] : List Event)) ++ ([(Event.mk 0 0 4 0), (Event.mk 0 0 0 2)] : List Event)) ++ ([(Event.mk 1 1 4 0), (Event.mk 1 1 0 1)] : List Event))).length g.2], cR encEvent 4 g.1 g.2 49 ((((((([] : (List Event)) ++ ([(Event.mk 0 0 3 1), (Event.mk 0 0 0 0)] : List Event)) ++ ([(Event.mk 1 1 3 2), (Event.mk 1 1 0 0)] : List Event)) ++ ([(Event.mk 0 1 3 1), (Event.mk 0 1 0 0)] : List Event)) ++ ([(Event.mk 1 0 3 2), (Event.mk 1 0 0 0)] : List Event)) ++ ([(Event.mk 0 0 4 0), (Event.mk 0 0 0 2)] : List Event)) ++ ([(Event.mk 1 1 4 0), (Event.mk 1 1 0 1)] : List Event))]) (fun g => True) isGo78 (.pl rfl) (.cons (.pl rfl) (.cons (.pl rfl) (.cons (.pl rfl) (.cons (.pl rfl) (.cons (.pl rfl) (.nil)))))) rfl (fun wz hw => alibkeep_crossed_1_ok (T := []) (hr17) (hw.pick [0, 1] rfl) ) ?_)
  rintro ⟨A18, c19⟩ -
  refine WL.next hQ9 (.cons (i := 1) rfl (.nil)) ?_
  -- region 9: seq.go:25
  refine W.seqR fun Q10 hQ10 => ?_
  refine WL.q (Y.loadB (v := .slice A18 (((((((([] : (List Event)) ++ ([(Event.mk 0 0 3 1), (Event.mk 0 0 0 0)] : List Event)) ++ ([(Event.mk 1 1 3 2), (Event.mk 1 1 0 0)] : List Event)) ++ ([(Event.mk 0 1 3 1), (Event.mk 0 1 0 0)] : List Event)) ++ ([(Event.mk 1 0 3 2), (Event.mk 1 0 0 0)] : List Event)) ++ ([(Event.mk 0 0 4 0), (Event.mk 0 0 0 2)] : List Event)) ++ ([(Event.mk 1 1 4 0), (Event.mk 1 1 0 1)] : List Event))).length c19) Try.underlying43 rfl (.pl rfl) (i := 0) rfl (rfl)) rfl ?_
  refine WL.q (Y.assign (.pl rfl)) rfl ?_
  refine WL.next hQ10 (.cons (i := 0) rfl (.nil)) ?_
  obtain rfl := Option.some.inj hF
  refine W.retV (fn := Try.f51) (vs := [.slice A18 (((((((([] : (List Event)) ++ ([(Event.mk 0 0 3 1), (Event.mk 0 0 0 0)] : List Event)) ++ ([(Event.mk 1 1 3 2), (Event.mk 1 1 0 0)] : List Event)) ++ ([(Event.mk 0 1 3 1), (Event.mk 0 1 0 0)] : List Event)) ++ ([(Event.mk 1 0 3 2), (Event.mk 1 0 0 0)] : List Event)) ++ ([(Event.mk 0 0 4 0), (Event.mk 0 0 0 2)] : List Event)) ++ ([(Event.mk 1 1 4 0), (Event.mk 1 1 0 1)] : List Event))).length c19]) Try.results51 ⟨.tmp rfl, trivial⟩ (fun _ _ h => h) (fun wz hw => ?_)
  exact hR _ _ ⟨(A18, c19), trivial, rfl, (hw.pick [1] rfl)⟩

def seq_programs_L27 (N : Nat) (calls1 : (List Call)) (x12 : Call) (v10 : Int) : ((List Int) × Int) → Option (((List Int) × Int) ⊕ (List Int))
  | (After14, v15) =>
    cond (decide (v15 < ((calls1).length : Int)))
      (bd (ix calls1 v15) fun (x16 : Call) =>
      cond ((decide (x12.who = x16.who)) && (decide (v10 < v15)))
        (bd (ax 12 0 After14 v10) fun (x18 : Int) =>
        bd (ax 12 0 After14 v10) fun (x19 : Int) =>
        ck (ok64 (v15 + 1)) <|
        some (.inl ((setA 12 0 After14 v10 (borI .u16 x18 (shlI .u16 1 (IntKind.u64.wrap v15)))), (v15 + 1))))
        (ck (ok64 (v15 + 1)) <|
        some (.inl (After14, (v15 + 1)))))
      (some (.inr After14))

def seq_programs_L25 (N : Nat) (calls1 : (List Call)) : ((List Int) × Int) → Option (((List Int) × Int) ⊕ (List Int))
  | (After9, v10) =>
    cond (decide (v10 < ((calls1).length : Int)))
      (bd (α := (List Int)) (bd (ix calls1 v10) fun (x12 : Call) =>
        iter (seq_programs_L27 N calls1 x12 v10) N (After9, 0)) <|
      fun (After11 : (List Int)) => 
        ck (ok64 (v10 + 1)) <|
        some (.inl (After11, (v10 + 1))))
      (some (.inr After9))

def seq_programs (N : Nat) (calls1 : (List Call)) : Option (List Int) :=
  bd (α := (List Int)) (iter (seq_programs_L25 N calls1) N ([], 0)) <|
  fun (After8 : (List Int)) => 
    some After8

theorem seq_programs_ok {N : Nat} {calls1 : (List Call)} {res : (List Int)} (hF : seq_programs N calls1 = some res) (w : World) {v5 : Value} (hs4 : SlIn encCall 7 w v5 calls1) :
    Pure Try.prog 75 [v5] w (.agg (encRel (Rel.mk ((calls1).length : Int) res)).toArray) := by
  obtain ⟨A2, c3, rfl, hcc3, hs4⟩ := hs4.form
  refine W.enter (n := 48) Try.func75 rfl rfl Sub.refl (by simp) (St.start w) fun R hR => ?_
  unfold seq_programs at hF
  -- region 0: seq.go:10
  refine W.seqR fun Q1 hQ1 => ?_
  refine WL.step (WO.alloc (cs := (encRel (Rel.mk 0 [])).toArray) zero99 rfl rfl fun b6 => ?_)
  refine WL.next hQ1 (.cons (i := 0) rfl (.cons (i := 2) rfl (.nil))) ?_
  -- region 1: seq.go:11
  refine W.seqR fun Q2 hQ2 => ?_
  refine WL.q (Y.move (.pl rfl)) rfl ?_
  refine WL.q (Y.len Try.underlying51 (.pl rfl)) rfl ?_
  refine WL.q (Y.build (cs := (encRel (Rel.mk ((calls1).length : Int) [])).toArray) shape99 (.cons (.pl rfl) (.nil)) (one_parts ⟨rfl, trivial⟩) rfl) rfl ?_
  refine WL.step (WO.alloc (cs := (encRel (Rel.mk 0 [])).toArray) zero99 rfl rfl fun b7 => ?_)
  refine WL.step (WO.storeBA (ds := (encRel (Rel.mk ((calls1).length : Int) []))) (cs' := (encRel (Rel.mk ((calls1).length : Int) []))) cells99 (.pl rfl) (.pl rfl) rfl (oneRel _) (i := 0) rfl (lel (o := 0) (l := 13) (m := 13) (by decide) rfl rfl) (putW rfl) ?_)
  refine WL.next hQ2 (.cons (i := 0) rfl (.cons (i := 2) rfl (.cons (i := 3) rfl (.nil)))) ?_
  obtain ⟨o3, hF3, hF⟩ := bnd hF
  refine W.join1 (Em := fun (After8 : (List Int)) => []) (M := fun After8 => [cBx b6 99 (encRel (Rel.mk 0 [])), cBx b7 99 (encRel (Rel.mk ((calls1).length : Int) After8))]) (I := fun After8 => After8 = o3) (.cons (i := 2) rfl (.cons (i := 3) rfl (.nil))) (fun K4 hK4 => ?_) ?_
  · -- up to
    -- region 2: seq.go:12
    refine W.seqR fun Q5 hQ5 => ?_
    refine WL.q (Y.move (.pl rfl)) rfl ?_
    refine WL.q (Y.len Try.underlying51 (.pl rfl)) rfl ?_
    refine WL.q (Y.move (.pl rfl)) rfl ?_
    refine WL.next hQ5 (.cons (i := 0) rfl (.cons (i := 2) rfl (.cons (i := 3) rfl (.cons (i := 11) rfl (.cons (i := 12) rfl (.cons (i := 13) rfl (.nil))))))) ?_
    refine W.block ?_
    refine W.loop2 (Em := fun (After9 : (List Int)) (v10 : Int) => [(13, .int .i64 v10)]) (M := fun After9 v10 => [cBx b6 99 (encRel (Rel.mk 0 [])), cBx b7 99 (encRel (Rel.mk ((calls1).length : Int) After9))]) (I := fun After9 v10 k6 => iter (seq_programs_L25 N calls1) k6 (After9, v10) = some o3) [] 0 N (hF3) (.cons rfl (.nil)) (.cons (i := 0) rfl (.cons (i := 2) rfl (.cons (i := 3) rfl (.cons (i := 11) rfl (.cons (i := 12) rfl (.nil)))))) (fun wz hw => hw.pick [1, 0] rfl) (fun After9 v10 k6 hI K7 hK7 => ?_)
    obtain ⟨k6, t6, rfl, hF6, hN6⟩ := iter_step hI
    -- region 3: seq.go:12
    refine W.seqR fun Q8 hQ8 => ?_
    refine WL.q (Y.lss (.pl rfl) (.pl rfl)) rfl ?_
    refine WL.next hQ8 (.cons (i := 0) rfl (.cons (i := 2) rfl (.cons (i := 3) rfl (.cons (i := 11) rfl (.cons (i := 12) rfl (.cons (i := 13) rfl (.cons (i := 14) rfl (.nil)))))))) ?_
    refine W.seq fun K9 hK9 => ?_
    refine W.cond (.pl rfl) (fun hC10 => ?_) (fun hC10 => ?_)
    · replace hF6 := cpos hC10 hF6
      refine W.skip ?_
      refine W.go hK9 (.cons (i := 0) rfl (.cons (i := 2) rfl (.cons (i := 3) rfl (.cons (i := 11) rfl (.cons (i := 12) rfl (.cons (i := 13) rfl (.nil))))))) ?_
      obtain ⟨o11, hF11, hF6⟩ := bnd hF6
      refine W.join1 (Em := fun (After11 : (List Int)) => []) (M := fun After11 => [cBx b6 99 (encRel (Rel.mk 0 [])), cBx b7 99 (encRel (Rel.mk ((calls1).length : Int) After11))]) (I := fun After11 => After11 = o11) (.cons (i := 0) rfl (.cons (i := 2) rfl (.cons (i := 3) rfl (.cons (i := 11) rfl (.cons (i := 12) rfl (.cons (i := 13) rfl (.nil))))))) (fun K12 hK12 => ?_) ?_
      · -- up to
        refine W.block ?_
        -- region 4: seq.go:12
        refine W.seqR fun Q13 hQ13 => ?_
        refine WL.q (Y.move (.pl rfl)) rfl ?_
        obtain ⟨x12, hx12, hF11⟩ := bnd hF11
        refine WL.q (Y.slEl Try.underlying51 cells55 hs4 (.pl rfl) (.pl rfl) (ix_lt (hx12))) rfl ?_
        refine WL.q (Y.loadSA (enc := encCall) (ds := (encCall x12)) (j := 0) Try.underlying55 rfl cells55 hs4 (.pl rfl) (hx12) rfl rfl subW) rfl ?_
        refine WL.step (WO.alloc (cs := (encCall (Call.mk 0 0 0 0 0 0 0)).toArray) zero55 rfl rfl fun b13 => ?_)
        refine WL.q (Y.assign (.pl rfl)) rfl ?_
        refine WL.step (WO.storeBA (ds := (encCall x12)) (cs' := (encCall x12)) cells55 (.pl rfl) (.pl rfl) rfl (oneCall _) (i := 0) rfl (lel (o := 0) (l := 7) (m := 7) (by decide) rfl rfl) (putW rfl) ?_)
        refine WL.next hQ13 (.cons (i := 0) rfl (.cons (i := 2) rfl (.cons (i := 3) rfl (.cons (i := 4) rfl (.cons (i := 5) rfl (.cons (i := 11) rfl (.cons (i := 12) rfl (.cons (i := 13) rfl (.nil))))))))) ?_
        -- region 5: seq.go:13
        refine W.seqR fun Q14 hQ14 => ?_
        refine WL.q (Y.move (.pl rfl)) rfl ?_
        refine WL.q (Y.len Try.underlying51 (.pl rfl)) rfl ?_
        refine WL.q (Y.move (.pl rfl)) rfl ?_
        refine WL.next hQ14 (.cons (i := 0) rfl (.cons (i := 2) rfl (.cons (i := 3) rfl (.cons (i := 4) rfl (.cons (i := 5) rfl (.cons (i := 11) rfl (.cons (i := 12) rfl (.cons (i := 13) rfl (.cons (i := 18) rfl (.cons (i := 19) rfl (.cons (i := 20) rfl (.nil)))))))))))) ?_
        refine W.block ?_
        refine W.loop2 (Em := fun (After14 : (List Int)) (v15 : Int) => [(20, .int .i64 v15)]) (M := fun After14 v15 => [cBx b6 99 (encRel (Rel.mk 0 [])), cBx b7 99 (encRel (Rel.mk ((calls1).length : Int) After14)), cBx b13 55 (encCall x12)]) (I := fun After14 v15 k15 => iter (seq_programs_L27 N calls1 x12 v10) k15 (After14, v15) = some o11) After9 0 N (hF11) (.cons rfl (.nil)) (.cons (i := 0) rfl (.cons (i := 2) rfl (.cons (i := 3) rfl (.cons (i := 4) rfl (.cons (i := 5) rfl (.cons (i := 11) rfl (.cons (i := 12) rfl (.cons (i := 13) rfl (.cons (i := 18) rfl (.cons (i := 19) rfl (.nil))))))))))) (fun wz hw => hw.pick [1, 2, 0] rfl) (fun After14 v15 k15 hI K16 hK16 => ?_)
        obtain ⟨k15, t15, rfl, hF15, hN15⟩ := iter_step hI
        -- region 6: seq.go:13
        refine W.seqR fun Q17 hQ17 => ?_
        refine WL.q (Y.lss (.pl rfl) (.pl rfl)) rfl ?_
        refine WL.next hQ17 (.cons (i := 0) rfl (.cons (i := 2) rfl (.cons (i := 3) rfl (.cons (i := 4) rfl (.cons (i := 5) rfl (.cons (i := 11) rfl (.cons (i := 12) rfl (.cons (i := 13) rfl (.cons (i := 18) rfl (.cons (i := 19) rfl (.cons (i := 20) rfl (.cons (i := 21) rfl (.nil))))))))))))) ?_
        refine W.seq fun K18 hK18 => ?_
        refine W.cond (.pl rfl) (fun hC19 => ?_) (fun hC19 => ?_)
        · replace hF15 := cpos hC19 hF15
          refine W.skip ?_
          refine W.go hK18 (.cons (i := 0) rfl (.cons (i := 2) rfl (.cons (i := 3) rfl (.cons (i := 4) rfl (.cons (i := 5) rfl (.cons (i := 11) rfl (.cons (i := 12) rfl (.cons (i := 13) rfl (.cons (i := 18) rfl (.cons (i := 19) rfl (.cons (i := 20) rfl (.nil)))))))))))) ?_
          refine W.seq fun K20 hK20 => ?_
          refine W.block ?_
          -- region 7: seq.go:13
          refine W.seqR fun Q21 hQ21 => ?_
          refine WL.q (Y.move (.pl rfl)) rfl ?_
          obtain ⟨x16, hx16, hF15⟩ := bnd hF15
          refine WL.q (Y.slEl Try.underlying51 cells55 hs4 (.pl rfl) (.pl rfl) (ix_lt (hx16))) rfl ?_
          refine WL.q (Y.loadSA (enc := encCall) (ds := (encCall x16)) (j := 0) Try.underlying55 rfl cells55 hs4 (.pl rfl) (hx16) rfl rfl subW) rfl ?_
          refine WL.step (WO.alloc (cs := (encCall (Call.mk 0 0 0 0 0 0 0)).toArray) zero55 rfl rfl fun b17 => ?_)
          refine WL.q (Y.assign (.pl rfl)) rfl ?_
          refine WL.step (WO.storeBA (ds := (encCall x16)) (cs' := (encCall x16)) cells55 (.pl rfl) (.pl rfl) rfl (oneCall _) (i := 0) rfl (lel (o := 0) (l := 7) (m := 7) (by decide) rfl rfl) (putW rfl) ?_)
          refine WL.next hQ21 (.cons (i := 0) rfl (.cons (i := 2) rfl (.cons (i := 3) rfl (.cons (i := 4) rfl (.cons (i := 5) rfl (.cons (i := 6) rfl (.cons (i := 7) rfl (.cons (i := 11) rfl (.cons (i := 12) rfl (.cons (i := 13) rfl (.cons (i := 18) rfl (.cons (i := 19) rfl (.cons (i := 20) rfl (.nil)))))))))))))) ?_
          -- region 8: seq.go:14
          refine W.seqR fun Q22 hQ22 => ?_
          refine WL.q (Y.fieldAddr0 (off := 0) (ft := 3) Try.underlying55 rfl cells3 (.pl rfl)) rfl ?_
          refine WL.q (Y.loadB (v := .int .i64 x12.who) Try.underlying3 rfl (.pl rfl) (i := 3) rfl (rfl)) rfl ?_
          refine WL.q (Y.fieldAddr0 (off := 0) (ft := 3) Try.underlying55 rfl cells3 (.pl rfl)) rfl ?_
          refine WL.q (Y.loadB (v := .int .i64 x16.who) Try.underlying3 rfl (.pl rfl) (i := 0) rfl (rfl)) rfl ?_
          refine WL.q (Y.eql (.pl rfl) (.pl rfl)) rfl ?_
          refine WL.q (Y.move (.pl rfl)) rfl ?_
          refine WL.g (.pl rfl rfl rfl) (fun hg => Y.move (.pl rfl)) rfl ?_
          refine WL.g (.pl rfl rfl rfl) (fun hg => Y.move (.pl rfl)) rfl ?_
          refine WL.g (.pl rfl rfl rfl) (fun hg => Y.lss (.gd (hg) rfl) (.gd (hg) rfl)) rfl ?_
          refine WL.q (Y.and (.pl rfl) (fun h2 => .gd (eqt h2) rfl)) rfl ?_
          refine WL.next hQ22 (.cons (i := 0) rfl (.cons (i := 2) rfl (.cons (i := 3) rfl (.cons (i := 4) rfl (.cons (i := 5) rfl (.cons (i := 6) rfl (.cons (i := 11) rfl (.cons (i := 12) rfl (.cons (i := 13) rfl (.cons (i := 18) rfl (.cons (i := 19) rfl (.cons (i := 20) rfl (.cons (i := 34) rfl (.nil)))))))))))))) ?_
          refine W.cond (.pl rfl) (fun hC23 => ?_) (fun hC23 => ?_)
          · replace hF15 := cpos hC23 hF15
            -- region 9: seq.go:15
            refine W.reg ?_
            refine WL.q (Y.move (.pl rfl)) rfl ?_
            refine WL.q (Y.fieldAddr0 (off := 1) (ft := 97) Try.underlying99 rfl cells97 (.pl rfl)) rfl ?_
            obtain ⟨x18, hx18, hF15⟩ := bnd hF15
            refine WL.q (Y.arrZ Try.underlying97 cells96 (.pl rfl) (.pl rfl) (ax_lt (hx18))) rfl ?_
            refine WL.q (Y.loadB (v := .int .u16 x18) Try.underlying96 rfl (.pl rfl) (i := 2) rfl (cellsA (pre := (Value.int .i64 ((calls1).length : Int) :: [])) (off := 1) (post := []) (a := After14) (enc := (eI .u16)) (d := 0) (n := 12) (sz := 1) (j := 0) (fun _ => rfl) rfl (ax_nat (hx18)) (ax_get (hx18)) rfl)) rfl ?_
            refine WL.q (Y.move (.pl rfl)) rfl ?_
            refine WL.q (Y.conv Try.underlying3 Try.underlying113 (.pl rfl)) rfl ?_
            refine WL.q (Y.shl (.pl rfl) (.pl rfl) (wrapU_nn rfl _)) rfl ?_
            refine WL.q (Y.bor (.pl rfl) (.pl rfl)) rfl ?_
            refine WL.q (Y.fieldAddr0 (off := 1) (ft := 97) Try.underlying99 rfl cells97 (.pl rfl)) rfl ?_
            obtain ⟨x19, hx19, hF15⟩ := bnd hF15
            refine WL.q (Y.arrZ Try.underlying97 cells96 (.pl rfl) (.pl rfl) (ax_lt (hx19))) rfl ?_
            refine WL.step (WO.storeB (cs' := (encRel (Rel.mk ((calls1).length : Int) (setA 12 0 After14 v10 (borI .u16 x18 (shlI .u16 1 (IntKind.u64.wrap v15))))))) cells96 (.pl rfl) (.pl rfl) rfl (i := 2) rfl (ltl (m := 13) (offlt (off := 1) (sz := 1) (j := 0) (ax_nat (hx19)) (by decide)) rfl) (cellsSet (pre := (Value.int .i64 ((calls1).length : Int) :: [])) (off := 1) (post := []) (a := After14) (enc := (eI .u16)) (d := 0) (n := 12) (sz := 1) (j := 0) (x := x19) (x' := (borI .u16 x18 (shlI .u16 1 (IntKind.u64.wrap v15)))) (fun _ => rfl) rfl (ax_lt (hx19)) (ax_get (hx19)) (by decide) rfl rfl) ?_)
            refine WL.nil ?_
            refine W.go hK20 (.cons (i := 0) rfl (.cons (i := 2) rfl (.cons (i := 3) rfl (.cons (i := 4) rfl (.cons (i := 5) rfl (.cons (i := 11) rfl (.cons (i := 12) rfl (.cons (i := 13) rfl (.cons (i := 18) rfl (.cons (i := 19) rfl (.cons (i := 20) rfl (.nil)))))))))))) ?_
            -- region 10: seq.go:13
            refine W.reg ?_
            obtain ⟨hk20, hF15⟩ := ckh hF15
            refine WL.q (Y.add (.pl rfl) (.pl rfl) (ok64_lt (hk20))) rfl ?_
            refine WL.q (Y.move (.pl rfl)) rfl ?_
            refine WL.nil ?_
            obtain rfl := Option.some.inj hF15
            exact W.again2 hK16 (setA 12 0 After14 v10 (borI .u16 x18 (shlI .u16 1 (IntKind.u64.wrap v15)))) (v15 + 1) k15 hN15 (Nat.lt_succ_self _) (.cons rfl (.nil)) (.cons (i := 0) rfl (.cons (i := 2) rfl (.cons (i := 3) rfl (.cons (i := 4) rfl (.cons (i := 5) rfl (.cons (i := 11) rfl (.cons (i := 12) rfl (.cons (i := 13) rfl (.cons (i := 18) rfl (.cons (i := 19) rfl (.nil))))))))))) (fun wz hw => hw.pick [1, 2, 3] rfl)
          · replace hF15 := cneg hC23 hF15
            refine W.skip ?_
            refine W.go hK20 (.cons (i := 0) rfl (.cons (i := 2) rfl (.cons (i := 3) rfl (.cons (i := 4) rfl (.cons (i := 5) rfl (.cons (i := 11) rfl (.cons (i := 12) rfl (.cons (i := 13) rfl (.cons (i := 18) rfl (.cons (i := 19) rfl (.cons (i := 20) rfl (.nil)))))))))))) ?_
            -- region 10: seq.go:13
            refine W.reg ?_
            obtain ⟨hk21, hF15⟩ := ckh hF15
            refine WL.q (Y.add (.pl rfl) (.pl rfl) (ok64_lt (hk21))) rfl ?_
            refine WL.q (Y.move (.pl rfl)) rfl ?_
            refine WL.nil ?_
            obtain rfl := Option.some.inj hF15
            exact W.again2 hK16 After14 (v15 + 1) k15 hN15 (Nat.lt_succ_self _) (.cons rfl (.nil)) (.cons (i := 0) rfl (.cons (i := 2) rfl (.cons (i := 3) rfl (.cons (i := 4) rfl (.cons (i := 5) rfl (.cons (i := 11) rfl (.cons (i := 12) rfl (.cons (i := 13) rfl (.cons (i := 18) rfl (.cons (i := 19) rfl (.nil))))))))))) (fun wz hw => hw.pick [1, 2, 3] rfl)
        · replace hF15 := cneg hC19 hF15
          refine W.exit ?_
          obtain rfl := Option.some.inj hF15
          exact W.joinAt1 hK12 After14 (einr hN15) (.nil) (.cons (i := 0) rfl (.cons (i := 2) rfl (.cons (i := 3) rfl (.cons (i := 11) rfl (.cons (i := 12) rfl (.cons (i := 13) rfl (.nil))))))) (fun wz hw => hw.pick [0, 1] rfl)
      · -- behind
        rintro After11 rfl
        -- region 11: seq.go:12
        refine W.reg ?_
        obtain ⟨hk22, hF6⟩ := ckh hF6
        refine WL.q (Y.add (.pl rfl) (.pl rfl) (ok64_lt (hk22))) rfl ?_
        refine WL.q (Y.move (.pl rfl)) rfl ?_
        refine WL.nil ?_
        obtain rfl := Option.some.inj hF6
        exact W.again2 hK7 After11 (v10 + 1) k6 hN6 (Nat.lt_succ_self _) (.cons rfl (.nil)) (.cons (i := 0) rfl (.cons (i := 2) rfl (.cons (i := 3) rfl (.cons (i := 11) rfl (.cons (i := 12) rfl (.nil)))))) (fun wz hw => hw.pick [0, 1] rfl)
    · replace hF6 := cneg hC10 hF6
      refine W.exit ?_
      obtain rfl := Option.some.inj hF6
      exact W.joinAt1 hK4 After9 (einr hN6) (.nil) (.cons (i := 2) rfl (.cons (i := 3) rfl (.nil))) (fun wz hw => hw.pick [0, 1] rfl)
  · -- behind
    rintro After8 rfl
    -- region 12: seq.go:19
    refine W.seqR fun Q28 hQ28 => ?_
    refine WL.q (Y.loadBA (ds := (encRel (Rel.mk ((calls1).length : Int) After8))) Try.underlying99 rfl cells99 (.pl rfl) (i := 1) rfl rfl subW) rfl ?_
    refine WL.step (WO.storeBA (ds := (encRel (Rel.mk ((calls1).length : Int) After8))) (cs' := (encRel (Rel.mk ((calls1).length : Int) After8))) cells99 (.pl rfl) (.pl rfl) rfl (oneRel _) (i := 0) rfl (lel (o := 0) (l := 13) (m := 13) (by decide) rfl rfl) (putW rfl) ?_)
    refine WL.next hQ28 (.cons (i := 2) rfl (.nil)) ?_
    obtain rfl := Option.some.inj hF
    refine W.retV (fn := Try.f75) (vs := [.agg (encRel (Rel.mk ((calls1).length : Int) After8)).toArray]) Try.results75 ⟨.cellA Try.underlying99 rfl cells99 rfl (i := 0) rfl rfl, trivial⟩ (fun _ _ h => h) (fun wz hw => ?_)
    exact hR _ _ ⟨rfl, (hw.pick [] rfl)⟩

def seq_Find (N : Nat) (types1 : (List Int)) (l6 : (List Event)) : Option ((List Step) × Bool × Int) :=
  bd (search_Calls N types1 l6) fun (r11 : ((List Call) × Int)) =>
  cond (!(decide (r11.2 = 0)))
    (some ([], false, r11.2))
    (bd (seq_programs N r11.1) fun (r14 : (List Int)) =>
    bd (search_Smallest N types1 r11.1 (Rel.mk ((r11.1).length : Int) r14)) fun (r15 : ((List Step) × Bool)) =>
    some (r15.1, r15.2, 0))

theorem seq_Find_ok {N : Nat} {types1 : (List Int)} {l6 : (List Event)} {res : ((List Step) × Bool × Int)} (hF : seq_Find N types1 l6 = some res) (w : World) {v5 : Value} (hs4 : SlIn (eI .i64) 1 w v5 types1) {v10 : Value} (hs9 : SlIn encEvent 4 w v10 l6) :
    Made Try.prog 46 [v5, v10] w (fun g : (Option Addr × Nat) => .tuple #[.slice g.1 (res.1).length g.2, .bool res.2.1, .int .i64 res.2.2]) (fun g => [cR encStep 2 g.1 g.2 58 res.1]) (fun g => True) := by
  obtain ⟨A2, c3, rfl, hcc3, hs4⟩ := hs4.form
  obtain ⟨A7, c8, rfl, hcc8, hs9⟩ := hs9.form
  refine W.enter (n := 30) Try.func46 rfl rfl Sub.refl (by simp) (St.start w) fun R hR => ?_
  unfold seq_Find at hF
  -- region 0: seq.go:32
  refine W.seqR fun Q1 hQ1 => ?_
  refine WL.q (Y.assign (.pl rfl)) rfl ?_
  refine WL.q (Y.assign (.pl rfl)) rfl ?_
  refine WL.q (Y.assign (.pl rfl)) rfl ?_
  refine WL.next hQ1 (.cons (i := 0) rfl (.cons (i := 1) rfl (.nil))) ?_
  -- region 1: seq.go:33
  refine W.seqR fun Q2 hQ2 => ?_
  refine WL.q (Y.move (.pl rfl)) rfl ?_
  refine WL.q (Y.move (.pl rfl)) rfl ?_
  obtain ⟨r11, hr11, hF⟩ := bnd hF
  refine WL.step (WO.callM isGo68 (.cons (.pl rfl) (.cons (.pl rfl) (.nil))) rfl (fun wz hw => search_Calls_ok (hr11) wz (hs4.mono hw) (hs9.mono hw)) ?_)
  rintro ⟨A12, c13⟩ -
  refine WL.q (Y.move (.pl rfl)) rfl ?_
  refine WL.q (Y.extract (.pl rfl) rfl) rfl ?_
  refine WL.q (Y.extract (.pl rfl) rfl) rfl ?_
  refine WL.q (Y.assign (.pl rfl)) rfl ?_
  refine WL.q (Y.assign (.pl rfl)) rfl ?_
  refine WL.next hQ2 (.cons (i := 0) rfl (.cons (i := 7) rfl (.cons (i := 8) rfl (.nil)))) ?_
  refine W.seq fun K3 hK3 => ?_
  -- region 2: seq.go:34
  refine W.seqR fun Q4 hQ4 => ?_
  refine WL.q (Y.move (.pl rfl)) rfl ?_
  refine WL.q (Y.neq (.pl rfl) (.pl rfl)) rfl ?_
  refine WL.next hQ4 (.cons (i := 0) rfl (.cons (i := 7) rfl (.cons (i := 8) rfl (.cons (i := 18) rfl (.nil))))) ?_
  refine W.cond (.pl rfl) (fun hC5 => ?_) (fun hC5 => ?_)
  · replace hF := cpos hC5 hF
    -- region 3: seq.go:35
    refine W.seqR fun Q6 hQ6 => ?_
    refine WL.q (Y.move (.pl rfl)) rfl ?_
    refine WL.q (Y.assign (.pl rfl)) rfl ?_
    refine WL.q (Y.assign (.pl rfl)) rfl ?_
    refine WL.q (Y.assign (.pl rfl)) rfl ?_
    refine WL.next hQ6 (.cons (i := 4) rfl (.cons (i := 5) rfl (.cons (i := 6) rfl (.nil)))) ?_
    obtain rfl := Option.some.inj hF
    refine W.retV (fn := Try.f46) (vs := [.slice none 0 0, .bool false, .int .i64 r11.2]) Try.results46 ⟨.tmp rfl, ⟨.tmp rfl, ⟨.tmp rfl, trivial⟩⟩⟩ (fun _ _ h => h) (fun wz hw => ?_)
    exact hR _ _ ⟨(none, 0), trivial, rfl, ((St.nilR (hw.pick [] rfl) encStep 2 58).pick [0] rfl)⟩
  · replace hF := cneg hC5 hF
    refine W.skip ?_
    refine W.go hK3 (.cons (i := 0) rfl (.cons (i := 7) rfl (.nil))) ?_
    -- region 4: seq.go:37
    refine W.seqR fun Q7 hQ7 => ?_
    refine WL.q (Y.move (.pl rfl)) rfl ?_
    refine WL.q (Y.move (.pl rfl)) rfl ?_
    refine WL.q (Y.move (.pl rfl)) rfl ?_
    obtain ⟨r14, hr14, hF⟩ := bnd hF
    refine WL.step (WO.callP isGo75 (.cons (.pl rfl) (.nil)) rfl (fun wz hw => seq_programs_ok (hr14) wz (SlIn.ofRow lenCall hw (i := 0) rfl)) ?_)
    obtain ⟨r15, hr15, hF⟩ := bnd hF
    refine WL.step (WO.callM isGo70 (.cons (.pl rfl) (.cons (.pl rfl) (.cons (.pl rfl) (.nil)))) rfl (fun wz hw => search_Smallest_ok (hr15) wz (hs4.mono hw) (SlIn.ofRow lenCall hw (i := 0) rfl)) ?_)
    rintro ⟨A16, c17⟩ -
    refine WL.q (Y.move (.pl rfl)) rfl ?_
    refine WL.q (Y.extract (.pl rfl) rfl) rfl ?_
    refine WL.q (Y.extract (.pl rfl) rfl) rfl ?_
    refine WL.q (Y.assign (.pl rfl)) rfl ?_
    refine WL.q (Y.assign (.pl rfl)) rfl ?_
    refine WL.next hQ7 (.cons (i := 9) rfl (.cons (i := 10) rfl (.nil))) ?_
    -- region 5: seq.go:38
    refine W.seqR fun Q8 hQ8 => ?_
    refine WL.q (Y.move (.pl rfl)) rfl ?_
    refine WL.q (Y.move (.pl rfl)) rfl ?_
    refine WL.q (Y.assign (.pl rfl)) rfl ?_
    refine WL.q (Y.assign (.pl rfl)) rfl ?_
    refine WL.q (Y.assign (.pl rfl)) rfl ?_
    refine WL.next hQ8 (.cons (i := 4) rfl (.cons (i := 5) rfl (.cons (i := 6) rfl (.nil)))) ?_
    obtain rfl := Option.some.inj hF
    refine W.retV (fn := Try.f46) (vs := [.slice A16 (r15.1).length c17, .bool r15.2, .int .i64 0]) Try.results46 ⟨.tmp rfl, ⟨.tmp rfl, ⟨.tmp rfl, trivial⟩⟩⟩ (fun _ _ h => h) (fun wz hw => ?_)
    exact hR _ _ ⟨(A16, c17), trivial, rfl, (hw.pick [0] rfl)⟩

def alibkeep_late (N : Nat) : Option Unit :=
  some ()

theorem alibkeep_late_ok {N : Nat} {res : Unit} (hF : alibkeep_late N = some res) (w : World) :
    Made Try.prog 76 [] w (fun g : Option Addr => .slice g (([(Event.mk 0 0 1 5), (Event.mk 0 0 0 0), (Event.mk 1 0 2 0), (Event.mk 1 0 0 0)] : List Event)).length (([(Event.mk 0 0 1 5), (Event.mk 0 0 0 0), (Event.mk 1 0 2 0), (Event.mk 1 0 0 0)] : List Event)).length) (fun g => [cR encEvent 4 g (([(Event.mk 0 0 1 5), (Event.mk 0 0 0 0), (Event.mk 1 0 2 0), (Event.mk 1 0 0 0)] : List Event)).length 49 ([(Event.mk 0 0 1 5), (Event.mk 0 0 0 0), (Event.mk 1 0 2 0), (Event.mk 1 0 0 0)] : List Event)]) (fun g => True) := by
  refine W.enter (n := 6) Try.func76 rfl rfl Sub.refl (by simp) (St.start w) fun R hR => ?_
  unfold alibkeep_late at hF
  -- region 0: seq.go:29
  refine W.seqR fun Q1 hQ1 => ?_
  refine WL.q (Y.assign (.pl rfl)) rfl ?_
  refine WL.next hQ1 (.nil) ?_
  -- region 1: seq.go:30
  refine W.seqR fun Q2 hQ2 => ?_
  refine WL.q (Y.build (cs := (encEvent (Event.mk 0 0 1 5)).toArray) shape49 (.cons (.pl rfl) (.cons (.pl rfl) (.cons (.pl rfl) (.nil)))) (one_parts ⟨rfl, ⟨rfl, ⟨rfl, trivial⟩⟩⟩) rfl) rfl ?_
  refine WL.q (Y.build (cs := (encEvent (Event.mk 0 0 0 0)).toArray) shape49 (.cons (.pl rfl) (.nil)) (one_parts ⟨rfl, trivial⟩) rfl) rfl ?_
  refine WL.q (Y.build (cs := (encEvent (Event.mk 1 0 2 0)).toArray) shape49 (.cons (.pl rfl) (.cons (.pl rfl) (.nil))) (one_parts ⟨rfl, ⟨rfl, trivial⟩⟩) rfl) rfl ?_
  refine WL.q (Y.build (cs := (encEvent (Event.mk 1 0 0 0)).toArray) shape49 (.cons (.pl rfl) (.cons (.pl rfl) (.nil))) (one_parts ⟨rfl, ⟨rfl, trivial⟩⟩) rfl) rfl ?_
  refine WL.step (WO.bsliceC (enc := encEvent) (ys := ([(Event.mk 0 0 1 5), (Event.mk 0 0 0 0), (Event.mk 1 0 2 0), (Event.mk 1 0 0 0)] : List Event)) Try.underlying43 bz49 (.cons (.pl rfl) (.cons (.pl rfl) (.cons (.pl rfl) (.cons (.pl rfl) (.nil))))) rfl lenEvent rfl rfl (by decide) (by decide) rfl fun b1 => ?_)
  refine WL.q (Y.assign (.pl rfl)) rfl ?_
  refine WL.next hQ2 (.cons (i := 0) rfl (.nil)) ?_
  obtain rfl := Option.some.inj hF
  refine W.retV (fn := Try.f76) (vs := [.slice (some ⟨b1, 0, none⟩) (([(Event.mk 0 0 1 5), (Event.mk 0 0 0 0), (Event.mk 1 0 2 0), (Event.mk 1 0 0 0)] : List Event)).length (([(Event.mk 0 0 1 5), (Event.mk 0 0 0 0), (Event.mk 1 0 2 0), (Event.mk 1 0 0 0)] : List Event)).length]) Try.results76 ⟨.tmp rfl, trivial⟩ (fun _ _ h => h) (fun wz hw => ?_)
  exact hR _ _ ⟨(some ⟨b1, 0, none⟩), trivial, rfl, (hw.pick [0] rfl)⟩

def seq_epochs_L3 (N : Nat) (l1 : (List Event)) : ((List Int) × Int × Int × Int) → Option (((List Int) × Int × Int × Int) ⊕ (List Int))
  | (out11, open12, epoch13, v14) =>
    cond (decide (v14 < ((l1).length : Int)))
      (bd (ix l1 v14) fun (x15 : Event) =>
      cond (decide (x15.kind = 0))
        (ck (ok64 (open12 - 1)) <|
        cond (decide ((open12 - 1) = 0))
          (ck (ok64 (epoch13 + 1)) <|
          ck (ok64 (v14 + 1)) <|
          some (.inl (out11, (open12 - 1), (epoch13 + 1), (v14 + 1))))
          (ck (ok64 (v14 + 1)) <|
          some (.inl (out11, (open12 - 1), epoch13, (v14 + 1)))))
        (ck (limB 8 ((out11).length + (([epoch13] : List Int)).length)) <|
        ck (ok64 (open12 + 1)) <|
        ck (ok64 (v14 + 1)) <|
        some (.inl ((out11 ++ ([epoch13] : List Int)), (open12 + 1), epoch13, (v14 + 1)))))
      (some (.inr out11))

def seq_epochs (N : Nat) (l1 : (List Event)) : Option (List Int) :=
  bd (α := (List Int)) (iter (seq_epochs_L3 N l1) N ([], 0, 0, 0)) <|
  fun (out8 : (List Int)) => 
    some out8

theorem seq_epochs_ok {N : Nat} {l1 : (List Event)} {res : (List Int)} (hF : seq_epochs N l1 = some res) (w : World) {v5 : Value} (hs4 : SlIn encEvent 4 w v5 l1) :
    Made Try.prog 77 [v5] w (fun g : (Option Addr × Nat) => .slice g.1 (res).length g.2) (fun g => [cR (eI .i64) 1 g.1 g.2 3 res]) (fun g => True) := by
  obtain ⟨A2, c3, rfl, hcc3, hs4⟩ := hs4.form
  refine W.enter (n := 31) Try.func77 rfl rfl Sub.refl (by simp) (St.start w) fun R hR => ?_
  unfold seq_epochs at hF
  -- region 0: seq.go:42
  refine W.seqR fun Q1 hQ1 => ?_
  refine WL.q (Y.assign (.pl rfl)) rfl ?_
  refine WL.next hQ1 (.cons (i := 0) rfl (.nil)) ?_
  -- region 1: seq.go:43
  refine W.seqR fun Q2 hQ2 => ?_
  refine WL.q (Y.assign (.pl rfl)) rfl ?_
  refine WL.next hQ2 (.cons (i := 0) rfl (.cons (i := 3) rfl (.nil))) ?_
  -- region 2: seq.go:44
  refine W.seqR fun Q3 hQ3 => ?_
  refine WL.q (Y.assign (.pl rfl)) rfl ?_
  refine WL.q (Y.assign (.pl rfl)) rfl ?_
  refine WL.next hQ3 (.cons (i := 0) rfl (.cons (i := 3) rfl (.cons (i := 4) rfl (.cons (i := 5) rfl (.nil))))) ?_
  obtain ⟨o4, hF4, hF⟩ := bnd hF
  refine W.join3 (Em := fun (out8 : (List Int)) (A6 : Option Addr) (c7 : Nat) => [(3, .slice A6 (out8).length c7)]) (M := fun out8 A6 c7 => [cR (eI .i64) 1 A6 c7 3 out8]) (I := fun out8 A6 c7 => out8 = o4) (.nil) (fun K5 hK5 => ?_) ?_
  · -- up to
    -- region 3: seq.go:45
    refine W.seqR fun Q6 hQ6 => ?_
    refine WL.q (Y.move (.pl rfl)) rfl ?_
    refine WL.q (Y.len Try.underlying43 (.pl rfl)) rfl ?_
    refine WL.q (Y.move (.pl rfl)) rfl ?_
    refine WL.next hQ6 (.cons (i := 3) rfl (.cons (i := 4) rfl (.cons (i := 5) rfl (.cons (i := 8) rfl (.cons (i := 9) rfl (.cons (i := 10) rfl (.nil))))))) ?_
    refine W.block ?_
    refine W.loop6 (Em := fun (out11 : (List Int)) (open12 : Int) (epoch13 : Int) (v14 : Int) (A9 : Option Addr) (c10 : Nat) => [(3, .slice A9 (out11).length c10), (4, .int .i64 open12), (5, .int .i64 epoch13), (10, .int .i64 v14)]) (M := fun out11 open12 epoch13 v14 A9 c10 => [cR (eI .i64) 1 A9 c10 3 out11]) (I := fun out11 open12 epoch13 v14 A9 c10 k7 => iter (seq_epochs_L3 N l1) k7 (out11, open12, epoch13, v14) = some o4) [] 0 0 0 none 0 N (hF4) (.cons rfl (.cons rfl (.cons rfl (.cons rfl (.nil))))) (.cons (i := 8) rfl (.cons (i := 9) rfl (.nil))) (fun wz hw => (St.nilR (hw.pick [] rfl) (eI .i64) 1 3).pick [0] rfl) (fun out11 open12 epoch13 v14 A9 c10 k7 hI K8 hK8 => ?_)
    obtain ⟨k7, t7, rfl, hF7, hN7⟩ := iter_step hI
    -- region 4: seq.go:45
    refine W.seqR fun Q9 hQ9 => ?_
    refine WL.q (Y.lss (.pl rfl) (.pl rfl)) rfl ?_
    refine WL.next hQ9 (.cons (i := 3) rfl (.cons (i := 4) rfl (.cons (i := 5) rfl (.cons (i := 8) rfl (.cons (i := 9) rfl (.cons (i := 10) rfl (.cons (i := 11) rfl (.nil)))))))) ?_
    refine W.seq fun K10 hK10 => ?_
    refine W.cond (.pl rfl) (fun hC11 => ?_) (fun hC11 => ?_)
    · replace hF7 := cpos hC11 hF7
      refine W.skip ?_
      refine W.go hK10 (.cons (i := 3) rfl (.cons (i := 4) rfl (.cons (i := 5) rfl (.cons (i := 8) rfl (.cons (i := 9) rfl (.cons (i := 10) rfl (.nil))))))) ?_
      refine W.seq fun K12 hK12 => ?_
      refine W.block ?_
      -- region 5: seq.go:45
      refine W.seqR fun Q13 hQ13 => ?_
      obtain ⟨x15, hx15, hF7⟩ := bnd hF7
      refine WL.q (Y.slEl Try.underlying43 cells49 hs4 (.pl rfl) (.pl rfl) (ix_lt (hx15))) rfl ?_
      refine WL.q (Y.loadSA (enc := encEvent) (ds := (encEvent x15)) (j := 0) Try.underlying49 rfl cells49 hs4 (.pl rfl) (hx15) rfl rfl subW) rfl ?_
      refine WL.step (WO.alloc (cs := (encEvent (Event.mk 0 0 0 0)).toArray) zero49 rfl rfl fun b16 => ?_)
      refine WL.step (WO.storeBA (ds := (encEvent x15)) (cs' := (encEvent x15)) cells49 (.pl rfl) (.pl rfl) rfl (oneEvent _) (i := 0) rfl (lel (o := 0) (l := 4) (m := 4) (by decide) rfl rfl) (putW rfl) ?_)
      refine WL.next hQ13 (.cons (i := 3) rfl (.cons (i := 4) rfl (.cons (i := 5) rfl (.cons (i := 7) rfl (.cons (i := 8) rfl (.cons (i := 9) rfl (.cons (i := 10) rfl (.nil)))))))) ?_
      refine W.seq fun K14 hK14 => ?_
      -- region 6: seq.go:46
      refine W.seqR fun Q15 hQ15 => ?_
      refine WL.q (Y.fieldAddr0 (off := 2) (ft := 3) Try.underlying49 rfl cells3 (.pl rfl)) rfl ?_
      refine WL.q (Y.loadB (v := .int .i64 x15.kind) Try.underlying3 rfl (.pl rfl) (i := 0) rfl (rfl)) rfl ?_
      refine WL.q (Y.eql (.pl rfl) (.pl rfl)) rfl ?_
      refine WL.next hQ15 (.cons (i := 3) rfl (.cons (i := 4) rfl (.cons (i := 5) rfl (.cons (i := 8) rfl (.cons (i := 9) rfl (.cons (i := 10) rfl (.cons (i := 16) rfl (.nil)))))))) ?_
      refine W.cond (.pl rfl) (fun hC16 => ?_) (fun hC16 => ?_)
      · replace hF7 := cpos hC16 hF7
        -- region 7: seq.go:47
        refine W.seqR fun Q17 hQ17 => ?_
        refine WL.q (Y.move (.pl rfl)) rfl ?_
        obtain ⟨hk17, hF7⟩ := ckh hF7
        refine WL.q (Y.sub (.pl rfl) (.pl rfl) (ok64_lt (hk17))) rfl ?_
        refine WL.q (Y.assign (.pl rfl)) rfl ?_
        refine WL.next hQ17 (.cons (i := 3) rfl (.cons (i := 4) rfl (.cons (i := 5) rfl (.cons (i := 8) rfl (.cons (i := 9) rfl (.cons (i := 10) rfl (.nil))))))) ?_
        refine W.seq fun K18 hK18 => ?_
        -- region 8: seq.go:48
        refine W.seqR fun Q19 hQ19 => ?_
        refine WL.q (Y.move (.pl rfl)) rfl ?_
        refine WL.q (Y.eql (.pl rfl) (.pl rfl)) rfl ?_
        refine WL.next hQ19 (.cons (i := 3) rfl (.cons (i := 4) rfl (.cons (i := 5) rfl (.cons (i := 8) rfl (.cons (i := 9) rfl (.cons (i := 10) rfl (.cons (i := 20) rfl (.nil)))))))) ?_
        refine W.cond (.pl rfl) (fun hC20 => ?_) (fun hC20 => ?_)
        · replace hF7 := cpos hC20 hF7
          -- region 9: seq.go:49
          refine W.reg ?_
          refine WL.q (Y.move (.pl rfl)) rfl ?_
          obtain ⟨hk18, hF7⟩ := ckh hF7
          refine WL.q (Y.add (.pl rfl) (.pl rfl) (ok64_lt (hk18))) rfl ?_
          refine WL.q (Y.assign (.pl rfl)) rfl ?_
          refine WL.nil ?_
          refine W.go hK18 (.cons (i := 3) rfl (.cons (i := 4) rfl (.cons (i := 5) rfl (.cons (i := 8) rfl (.cons (i := 9) rfl (.cons (i := 10) rfl (.nil))))))) ?_
          refine W.exit ?_
          refine W.go hK12 (.cons (i := 3) rfl (.cons (i := 4) rfl (.cons (i := 5) rfl (.cons (i := 8) rfl (.cons (i := 9) rfl (.cons (i := 10) rfl (.nil))))))) ?_
          -- region 12: seq.go:45
          refine W.reg ?_
          obtain ⟨hk19, hF7⟩ := ckh hF7
          refine WL.q (Y.add (.pl rfl) (.pl rfl) (ok64_lt (hk19))) rfl ?_
          refine WL.q (Y.move (.pl rfl)) rfl ?_
          refine WL.nil ?_
          obtain rfl := Option.some.inj hF7
          exact W.again6 hK8 out11 (open12 - 1) (epoch13 + 1) (v14 + 1) A9 c10 k7 hN7 (Nat.lt_succ_self _) (.cons rfl (.cons rfl (.cons rfl (.cons rfl (.nil))))) (.cons (i := 8) rfl (.cons (i := 9) rfl (.nil))) (fun wz hw => hw.pick [1] rfl)
        · replace hF7 := cneg hC20 hF7
          refine W.skip ?_
          refine W.go hK18 (.cons (i := 3) rfl (.cons (i := 4) rfl (.cons (i := 5) rfl (.cons (i := 8) rfl (.cons (i := 9) rfl (.cons (i := 10) rfl (.nil))))))) ?_
          refine W.exit ?_
          refine W.go hK12 (.cons (i := 3) rfl (.cons (i := 4) rfl (.cons (i := 5) rfl (.cons (i := 8) rfl (.cons (i := 9) rfl (.cons (i := 10) rfl (.nil))))))) ?_
          -- region 12: seq.go:45
          refine W.reg ?_
          obtain ⟨hk20, hF7⟩ := ckh hF7
          refine WL.q (Y.add (.pl rfl) (.pl rfl) (ok64_lt (hk20))) rfl ?_
          refine WL.q (Y.move (.pl rfl)) rfl ?_
          refine WL.nil ?_
          obtain rfl := Option.some.inj hF7
          exact W.again6 hK8 out11 (open12 - 1) epoch13 (v14 + 1) A9 c10 k7 hN7 (Nat.lt_succ_self _) (.cons rfl (.cons rfl (.cons rfl (.cons rfl (.nil))))) (.cons (i := 8) rfl (.cons (i := 9) rfl (.nil))) (fun wz hw => hw.pick [1] rfl)
      · replace hF7 := cneg hC16 hF7
        refine W.skip ?_
        refine W.go hK14 (.cons (i := 3) rfl (.cons (i := 4) rfl (.cons (i := 5) rfl (.cons (i := 8) rfl (.cons (i := 9) rfl (.cons (i := 10) rfl (.nil))))))) ?_
        -- region 10: seq.go:53
        refine W.seqR fun Q24 hQ24 => ?_
        refine WL.q (Y.move (.pl rfl)) rfl ?_
        refine WL.q (Y.move (.pl rfl)) rfl ?_
        refine WL.step (WO.bsliceC (enc := (eI .i64)) (ys := ([epoch13] : List Int)) Try.underlying22 bz3 (.cons (.pl rfl) (.nil)) rfl (fun _ => rfl) rfl rfl (by decide) (by decide) rfl fun b21 => ?_)
        obtain ⟨hk24, hF7⟩ := ckh hF7
        refine WL.step (WO.appendC (enc := (eI .i64)) Try.underlying22 ap3 (fun _ => rfl) oneI (.pl rfl) rfl (.pl rfl) (i := 2) rfl (m2 := 0) rfl (hk24) rfl fun A22 c23 => ?_)
        refine WL.q (Y.assign (.pl rfl)) rfl ?_
        refine WL.next hQ24 (.cons (i := 3) rfl (.cons (i := 4) rfl (.cons (i := 5) rfl (.cons (i := 8) rfl (.cons (i := 9) rfl (.cons (i := 10) rfl (.nil))))))) ?_
        -- region 11: seq.go:54
        refine W.reg ?_
        refine WL.q (Y.move (.pl rfl)) rfl ?_
        obtain ⟨hk25, hF7⟩ := ckh hF7
        refine WL.q (Y.add (.pl rfl) (.pl rfl) (ok64_lt (hk25))) rfl ?_
        refine WL.q (Y.assign (.pl rfl)) rfl ?_
        refine WL.nil ?_
        refine W.go hK12 (.cons (i := 3) rfl (.cons (i := 4) rfl (.cons (i := 5) rfl (.cons (i := 8) rfl (.cons (i := 9) rfl (.cons (i := 10) rfl (.nil))))))) ?_
        -- region 12: seq.go:45
        refine W.reg ?_
        obtain ⟨hk26, hF7⟩ := ckh hF7
        refine WL.q (Y.add (.pl rfl) (.pl rfl) (ok64_lt (hk26))) rfl ?_
        refine WL.q (Y.move (.pl rfl)) rfl ?_
        refine WL.nil ?_
        obtain rfl := Option.some.inj hF7
        exact W.again6 hK8 (out11 ++ ([epoch13] : List Int)) (open12 + 1) epoch13 (v14 + 1) A22 c23 k7 hN7 (Nat.lt_succ_self _) (.cons rfl (.cons rfl (.cons rfl (.cons rfl (.nil))))) (.cons (i := 8) rfl (.cons (i := 9) rfl (.nil))) (fun wz hw => hw.pick [2] rfl)
    · replace hF7 := cneg hC11 hF7
      refine W.exit ?_
      obtain rfl := Option.some.inj hF7
      exact W.joinAt3 hK5 out11 A9 c10 (einr hN7) (.cons rfl (.nil)) (.nil) (fun wz hw => hw.pick [0] rfl)
  · -- behind
    rintro out8 A6 c7 rfl
    -- region 13: seq.go:56
    refine W.seqR fun Q27 hQ27 => ?_
    refine WL.q (Y.move (.pl rfl)) rfl ?_
    refine WL.q (Y.assign (.pl rfl)) rfl ?_
    refine WL.next hQ27 (.cons (i := 2) rfl (.nil)) ?_
    obtain rfl := Option.some.inj hF
    refine W.retV (fn := Try.f77) (vs := [.slice A6 (out8).length c7]) Try.results77 ⟨.tmp rfl, trivial⟩ (fun _ _ h => h) (fun wz hw => ?_)
    exact hR _ _ ⟨(A6, c7), trivial, rfl, (hw.pick [0] rfl)⟩

def seq_Calm (N : Nat) (types1 : (List Int)) (l6 : (List Event)) : Option ((List Int) × Int) :=
  bd (search_Calls N types1 l6) fun (r11 : ((List Call) × Int)) =>
  cond (!(decide (r11.2 = 0)))
    (some ([], r11.2))
    (bd (seq_epochs N l6) fun (r14 : (List Int)) =>
    some (r14, 0))

theorem seq_Calm_ok {N : Nat} {types1 : (List Int)} {l6 : (List Event)} {res : ((List Int) × Int)} (hF : seq_Calm N types1 l6 = some res) (w : World) {v5 : Value} (hs4 : SlIn (eI .i64) 1 w v5 types1) {v10 : Value} (hs9 : SlIn encEvent 4 w v10 l6) :
    Made Try.prog 49 [v5, v10] w (fun g : (Option Addr × Nat) => .tuple #[.slice g.1 (res.1).length g.2, .int .i64 res.2]) (fun g => [cR (eI .i64) 1 g.1 g.2 3 res.1]) (fun g => True) := by
  obtain ⟨A2, c3, rfl, hcc3, hs4⟩ := hs4.form
  obtain ⟨A7, c8, rfl, hcc8, hs9⟩ := hs9.form
  refine W.enter (n := 19) Try.func49 rfl rfl Sub.refl (by simp) (St.start w) fun R hR => ?_
  unfold seq_Calm at hF
  -- region 0: seq.go:60
  refine W.seqR fun Q1 hQ1 => ?_
  refine WL.q (Y.assign (.pl rfl)) rfl ?_
  refine WL.q (Y.assign (.pl rfl)) rfl ?_
  refine WL.next hQ1 (.cons (i := 0) rfl (.cons (i := 1) rfl (.nil))) ?_
  refine W.seq fun K2 hK2 => ?_
  -- region 1: seq.go:61
  refine W.seqR fun Q3 hQ3 => ?_
  refine WL.q (Y.move (.pl rfl)) rfl ?_
  refine WL.q (Y.move (.pl rfl)) rfl ?_
  obtain ⟨r11, hr11, hF⟩ := bnd hF
  refine WL.step (WO.callM isGo68 (.cons (.pl rfl) (.cons (.pl rfl) (.nil))) rfl (fun wz hw => search_Calls_ok (hr11) wz (hs4.mono hw) (hs9.mono hw)) ?_)
  rintro ⟨A12, c13⟩ -
  refine WL.q (Y.move (.pl rfl)) rfl ?_
  refine WL.q (Y.extract (.pl rfl) rfl) rfl ?_
  refine WL.q (Y.extract (.pl rfl) rfl) rfl ?_
  refine WL.q (Y.assign (.pl rfl)) rfl ?_
  refine WL.q (Y.assign (.pl rfl)) rfl ?_
  refine WL.next hQ3 (.cons (i := 1) rfl (.cons (i := 7) rfl (.nil))) ?_
  -- region 2: seq.go:61
  refine W.seqR fun Q4 hQ4 => ?_
  refine WL.q (Y.move (.pl rfl)) rfl ?_
  refine WL.q (Y.neq (.pl rfl) (.pl rfl)) rfl ?_
  refine WL.next hQ4 (.cons (i := 1) rfl (.cons (i := 7) rfl (.cons (i := 15) rfl (.nil)))) ?_
  refine W.cond (.pl rfl) (fun hC5 => ?_) (fun hC5 => ?_)
  · replace hF := cpos hC5 hF
    -- region 3: seq.go:62
    refine W.seqR fun Q6 hQ6 => ?_
    refine WL.q (Y.move (.pl rfl)) rfl ?_
    refine WL.q (Y.assign (.pl rfl)) rfl ?_
    refine WL.q (Y.assign (.pl rfl)) rfl ?_
    refine WL.next hQ6 (.cons (i := 4) rfl (.cons (i := 5) rfl (.nil))) ?_
    obtain rfl := Option.some.inj hF
    refine W.retV (fn := Try.f49) (vs := [.slice none 0 0, .int .i64 r11.2]) Try.results49 ⟨.tmp rfl, ⟨.tmp rfl, trivial⟩⟩ (fun _ _ h => h) (fun wz hw => ?_)
    exact hR _ _ ⟨(none, 0), trivial, rfl, ((St.nilR (hw.pick [] rfl) (eI .i64) 1 3).pick [0] rfl)⟩
  · replace hF := cneg hC5 hF
    refine W.skip ?_
    refine W.go hK2 (.cons (i := 1) rfl (.nil)) ?_
    -- region 4: seq.go:64
    refine W.seqR fun Q7 hQ7 => ?_
    refine WL.q (Y.move (.pl rfl)) rfl ?_
    obtain ⟨r14, hr14, hF⟩ := bnd hF
    refine WL.step (WO.callM isGo77 (.cons (.pl rfl) (.nil)) rfl (fun wz hw => seq_epochs_ok (hr14) wz (hs9.mono hw)) ?_)
    rintro ⟨A15, c16⟩ -
    refine WL.q (Y.assign (.pl rfl)) rfl ?_
    refine WL.q (Y.assign (.pl rfl)) rfl ?_
    refine WL.next hQ7 (.cons (i := 4) rfl (.cons (i := 5) rfl (.nil))) ?_
    obtain rfl := Option.some.inj hF
    refine W.retV (fn := Try.f49) (vs := [.slice A15 (r14).length c16, .int .i64 0]) Try.results49 ⟨.tmp rfl, ⟨.tmp rfl, trivial⟩⟩ (fun _ _ h => h) (fun wz hw => ?_)
    exact hR _ _ ⟨(A15, c16), trivial, rfl, (hw.pick [0] rfl)⟩

def seq_Quiet_L27 (N : Nat) (r15 : (List Int)) (v20 : Int) : ((List Int) × Int) → Option (((List Int) × Int) ⊕ (List Int))
  | (After22, v23) =>
    cond (decide (v23 < ((r15).length : Int)))
      (bd (ix r15 v20) fun (x24 : Int) =>
      bd (ix r15 v23) fun (x25 : Int) =>
      cond (decide (x24 < x25))
        (bd (ax 12 0 After22 v20) fun (x26 : Int) =>
        bd (ax 12 0 After22 v20) fun (x27 : Int) =>
        ck (ok64 (v23 + 1)) <|
        some (.inl ((setA 12 0 After22 v20 (borI .u16 x26 (shlI .u16 1 (IntKind.u64.wrap v23)))), (v23 + 1))))
        (ck (ok64 (v23 + 1)) <|
        some (.inl (After22, (v23 + 1)))))
      (some (.inr After22))

def seq_Quiet_L25 (N : Nat) (r15 : (List Int)) : ((List Int) × Int) → Option (((List Int) × Int) ⊕ (List Int))
  | (After19, v20) =>
    cond (decide (v20 < ((r15).length : Int)))
      (bd (α := (List Int)) (iter (seq_Quiet_L27 N r15 v20) N (After19, 0)) <|
      fun (After21 : (List Int)) => 
        ck (ok64 (v20 + 1)) <|
        some (.inl (After21, (v20 + 1))))
      (some (.inr After19))

def seq_Quiet (N : Nat) (types1 : (List Int)) (l6 : (List Event)) : Option ((List Step) × Bool × Int) :=
  bd (search_Calls N types1 l6) fun (r11 : ((List Call) × Int)) =>
  cond (!(decide (r11.2 = 0)))
    (some ([], false, r11.2))
    (bd (seq_epochs N l6) fun (r15 : (List Int)) =>
    bd (α := (List Int)) (iter (seq_Quiet_L25 N r15) N ([], 0)) <|
    fun (After18 : (List Int)) => 
      bd (search_Smallest N types1 r11.1 (Rel.mk ((r11.1).length : Int) After18)) fun (r31 : ((List Step) × Bool)) =>
      some (r31.1, r31.2, 0))

theorem seq_Quiet_ok {N : Nat} {types1 : (List Int)} {l6 : (List Event)} {res : ((List Step) × Bool × Int)} (hF : seq_Quiet N types1 l6 = some res) (w : World) {v5 : Value} (hs4 : SlIn (eI .i64) 1 w v5 types1) {v10 : Value} (hs9 : SlIn encEvent 4 w v10 l6) :
    Made Try.prog 48 [v5, v10] w (fun g : (Option Addr × Nat) => .tuple #[.slice g.1 (res.1).length g.2, .bool res.2.1, .int .i64 res.2.2]) (fun g => [cR encStep 2 g.1 g.2 58 res.1]) (fun g => True) := by
  obtain ⟨A2, c3, rfl, hcc3, hs4⟩ := hs4.form
  obtain ⟨A7, c8, rfl, hcc8, hs9⟩ := hs9.form
  refine W.enter (n := 69) Try.func48 rfl rfl Sub.refl (by simp) (St.start w) fun R hR => ?_
  unfold seq_Quiet at hF
  -- region 0: seq.go:68
  refine W.seqR fun Q1 hQ1 => ?_
  refine WL.q (Y.assign (.pl rfl)) rfl ?_
  refine WL.q (Y.assign (.pl rfl)) rfl ?_
  refine WL.q (Y.assign (.pl rfl)) rfl ?_
  refine WL.next hQ1 (.cons (i := 0) rfl (.cons (i := 1) rfl (.nil))) ?_
  -- region 1: seq.go:69
  refine W.seqR fun Q2 hQ2 => ?_
  refine WL.q (Y.move (.pl rfl)) rfl ?_
  refine WL.q (Y.move (.pl rfl)) rfl ?_
  obtain ⟨r11, hr11, hF⟩ := bnd hF
  refine WL.step (WO.callM isGo68 (.cons (.pl rfl) (.cons (.pl rfl) (.nil))) rfl (fun wz hw => search_Calls_ok (hr11) wz (hs4.mono hw) (hs9.mono hw)) ?_)
  rintro ⟨A12, c13⟩ -
  refine WL.q (Y.move (.pl rfl)) rfl ?_
  refine WL.q (Y.extract (.pl rfl) rfl) rfl ?_
  refine WL.q (Y.extract (.pl rfl) rfl) rfl ?_
  refine WL.q (Y.assign (.pl rfl)) rfl ?_
  refine WL.q (Y.assign (.pl rfl)) rfl ?_
  refine WL.next hQ2 (.cons (i := 0) rfl (.cons (i := 1) rfl (.cons (i := 7) rfl (.cons (i := 8) rfl (.nil))))) ?_
  refine W.seq fun K3 hK3 => ?_
  -- region 2: seq.go:70
  refine W.seqR fun Q4 hQ4 => ?_
  refine WL.q (Y.move (.pl rfl)) rfl ?_
  refine WL.q (Y.neq (.pl rfl) (.pl rfl)) rfl ?_
  refine WL.next hQ4 (.cons (i := 0) rfl (.cons (i := 1) rfl (.cons (i := 7) rfl (.cons (i := 8) rfl (.cons (i := 22) rfl (.nil)))))) ?_
  refine W.cond (.pl rfl) (fun hC5 => ?_) (fun hC5 => ?_)
  · replace hF := cpos hC5 hF
    -- region 3: seq.go:71
    refine W.seqR fun Q6 hQ6 => ?_
    refine WL.q (Y.move (.pl rfl)) rfl ?_
    refine WL.q (Y.assign (.pl rfl)) rfl ?_
    refine WL.q (Y.assign (.pl rfl)) rfl ?_
    refine WL.q (Y.assign (.pl rfl)) rfl ?_
    refine WL.next hQ6 (.cons (i := 4) rfl (.cons (i := 5) rfl (.cons (i := 6) rfl (.nil)))) ?_
    obtain rfl := Option.some.inj hF
    refine W.retV (fn := Try.f48) (vs := [.slice none 0 0, .bool false, .int .i64 r11.2]) Try.results48 ⟨.tmp rfl, ⟨.tmp rfl, ⟨.tmp rfl, trivial⟩⟩⟩ (fun _ _ h => h) (fun wz hw => ?_)
    exact hR _ _ ⟨(none, 0), trivial, rfl, ((St.nilR (hw.pick [] rfl) encStep 2 58).pick [0] rfl)⟩
  · replace hF := cneg hC5 hF
    refine W.skip ?_
    refine W.go hK3 (.cons (i := 0) rfl (.cons (i := 1) rfl (.cons (i := 7) rfl (.nil)))) ?_
    -- region 4: seq.go:73
    refine W.seqR fun Q7 hQ7 => ?_
    refine WL.q (Y.move (.pl rfl)) rfl ?_
    refine WL.q (Y.len Try.underlying51 (.pl rfl)) rfl ?_
    refine WL.q (Y.build (cs := (encRel (Rel.mk ((r11.1).length : Int) [])).toArray) shape99 (.cons (.pl rfl) (.nil)) (one_parts ⟨rfl, trivial⟩) rfl) rfl ?_
    refine WL.step (WO.alloc (cs := (encRel (Rel.mk 0 [])).toArray) zero99 rfl rfl fun b14 => ?_)
    refine WL.step (WO.storeBA (ds := (encRel (Rel.mk ((r11.1).length : Int) []))) (cs' := (encRel (Rel.mk ((r11.1).length : Int) []))) cells99 (.pl rfl) (.pl rfl) rfl (oneRel _) (i := 0) rfl (lel (o := 0) (l := 13) (m := 13) (by decide) rfl rfl) (putW rfl) ?_)
    refine WL.next hQ7 (.cons (i := 0) rfl (.cons (i := 1) rfl (.cons (i := 7) rfl (.cons (i := 9) rfl (.nil))))) ?_
    -- region 5: seq.go:74
    refine W.seqR fun Q8 hQ8 => ?_
    refine WL.q (Y.move (.pl rfl)) rfl ?_
    obtain ⟨r15, hr15, hF⟩ := bnd hF
    refine WL.step (WO.callM isGo77 (.cons (.pl rfl) (.nil)) rfl (fun wz hw => seq_epochs_ok (hr15) wz (hs9.mono hw)) ?_)
    rintro ⟨A16, c17⟩ -
    refine WL.q (Y.assign (.pl rfl)) rfl ?_
    refine WL.next hQ8 (.cons (i := 0) rfl (.cons (i := 7) rfl (.cons (i := 9) rfl (.cons (i := 10) rfl (.nil))))) ?_
    obtain ⟨o9, hF9, hF⟩ := bnd hF
    refine W.join1 (Em := fun (After18 : (List Int)) => []) (M := fun After18 => [cR encCall 7 A12 c13 55 r11.1, cBx b14 99 (encRel (Rel.mk ((r11.1).length : Int) After18))]) (I := fun After18 => After18 = o9) (.cons (i := 0) rfl (.cons (i := 7) rfl (.cons (i := 9) rfl (.nil)))) (fun K10 hK10 => ?_) ?_
    · -- up to
      -- region 6: seq.go:75
      refine W.seqR fun Q11 hQ11 => ?_
      refine WL.q (Y.move (.pl rfl)) rfl ?_
      refine WL.q (Y.len Try.underlying22 (.pl rfl)) rfl ?_
      refine WL.q (Y.move (.pl rfl)) rfl ?_
      refine WL.next hQ11 (.cons (i := 0) rfl (.cons (i := 7) rfl (.cons (i := 9) rfl (.cons (i := 10) rfl (.cons (i := 30) rfl (.cons (i := 31) rfl (.nil))))))) ?_
      refine W.block ?_
      refine W.loop2 (Em := fun (After19 : (List Int)) (v20 : Int) => [(31, .int .i64 v20)]) (M := fun After19 v20 => [cR encCall 7 A12 c13 55 r11.1, cBx b14 99 (encRel (Rel.mk ((r11.1).length : Int) After19)), cR (eI .i64) 1 A16 c17 3 r15]) (I := fun After19 v20 k12 => iter (seq_Quiet_L25 N r15) k12 (After19, v20) = some o9) [] 0 N (hF9) (.cons rfl (.nil)) (.cons (i := 0) rfl (.cons (i := 7) rfl (.cons (i := 9) rfl (.cons (i := 10) rfl (.cons (i := 30) rfl (.nil)))))) (fun wz hw => hw.pick [2, 1, 0] rfl) (fun After19 v20 k12 hI K13 hK13 => ?_)
      obtain ⟨k12, t12, rfl, hF12, hN12⟩ := iter_step hI
      -- region 7: seq.go:75
      refine W.seqR fun Q14 hQ14 => ?_
      refine WL.q (Y.lss (.pl rfl) (.pl rfl)) rfl ?_
      refine WL.next hQ14 (.cons (i := 0) rfl (.cons (i := 7) rfl (.cons (i := 9) rfl (.cons (i := 10) rfl (.cons (i := 30) rfl (.cons (i := 31) rfl (.cons (i := 32) rfl (.nil)))))))) ?_
      refine W.seq fun K15 hK15 => ?_
      refine W.cond (.pl rfl) (fun hC16 => ?_) (fun hC16 => ?_)
      · replace hF12 := cpos hC16 hF12
        refine W.skip ?_
        refine W.go hK15 (.cons (i := 0) rfl (.cons (i := 7) rfl (.cons (i := 9) rfl (.cons (i := 10) rfl (.cons (i := 30) rfl (.cons (i := 31) rfl (.nil))))))) ?_
        obtain ⟨o17, hF17, hF12⟩ := bnd hF12
        refine W.join1 (Em := fun (After21 : (List Int)) => []) (M := fun After21 => [cR encCall 7 A12 c13 55 r11.1, cBx b14 99 (encRel (Rel.mk ((r11.1).length : Int) After21)), cR (eI .i64) 1 A16 c17 3 r15]) (I := fun After21 => After21 = o17) (.cons (i := 0) rfl (.cons (i := 7) rfl (.cons (i := 9) rfl (.cons (i := 10) rfl (.cons (i := 30) rfl (.cons (i := 31) rfl (.nil))))))) (fun K18 hK18 => ?_) ?_
        · -- up to
          refine W.block ?_
          -- region 8: seq.go:75
          refine W.seqR fun Q19 hQ19 => ?_
          refine WL.q (Y.move (.pl rfl)) rfl ?_
          refine WL.q (Y.assign (.pl rfl)) rfl ?_
          refine WL.next hQ19 (.cons (i := 0) rfl (.cons (i := 7) rfl (.cons (i := 9) rfl (.cons (i := 10) rfl (.cons (i := 11) rfl (.cons (i := 30) rfl (.cons (i := 31) rfl (.nil)))))))) ?_
          -- region 9: seq.go:76
          refine W.seqR fun Q20 hQ20 => ?_
          refine WL.q (Y.move (.pl rfl)) rfl ?_
          refine WL.q (Y.len Try.underlying22 (.pl rfl)) rfl ?_
          refine WL.q (Y.move (.pl rfl)) rfl ?_
          refine WL.next hQ20 (.cons (i := 0) rfl (.cons (i := 7) rfl (.cons (i := 9) rfl (.cons (i := 10) rfl (.cons (i := 11) rfl (.cons (i := 30) rfl (.cons (i := 31) rfl (.cons (i := 35) rfl (.cons (i := 36) rfl (.nil)))))))))) ?_
          refine W.block ?_
          refine W.loop2 (Em := fun (After22 : (List Int)) (v23 : Int) => [(36, .int .i64 v23)]) (M := fun After22 v23 => [cR encCall 7 A12 c13 55 r11.1, cBx b14 99 (encRel (Rel.mk ((r11.1).length : Int) After22)), cR (eI .i64) 1 A16 c17 3 r15]) (I := fun After22 v23 k21 => iter (seq_Quiet_L27 N r15 v20) k21 (After22, v23) = some o17) After19 0 N (hF17) (.cons rfl (.nil)) (.cons (i := 0) rfl (.cons (i := 7) rfl (.cons (i := 9) rfl (.cons (i := 10) rfl (.cons (i := 11) rfl (.cons (i := 30) rfl (.cons (i := 31) rfl (.cons (i := 35) rfl (.nil))))))))) (fun wz hw => hw.pick [0, 1, 2] rfl) (fun After22 v23 k21 hI K22 hK22 => ?_)
          obtain ⟨k21, t21, rfl, hF21, hN21⟩ := iter_step hI
          -- region 10: seq.go:76
          refine W.seqR fun Q23 hQ23 => ?_
          refine WL.q (Y.lss (.pl rfl) (.pl rfl)) rfl ?_
          refine WL.next hQ23 (.cons (i := 0) rfl (.cons (i := 7) rfl (.cons (i := 9) rfl (.cons (i := 10) rfl (.cons (i := 11) rfl (.cons (i := 30) rfl (.cons (i := 31) rfl (.cons (i := 35) rfl (.cons (i := 36) rfl (.cons (i := 37) rfl (.nil))))))))))) ?_
          refine W.seq fun K24 hK24 => ?_
          refine W.cond (.pl rfl) (fun hC25 => ?_) (fun hC25 => ?_)
          · replace hF21 := cpos hC25 hF21
            refine W.skip ?_
            refine W.go hK24 (.cons (i := 0) rfl (.cons (i := 7) rfl (.cons (i := 9) rfl (.cons (i := 10) rfl (.cons (i := 11) rfl (.cons (i := 30) rfl (.cons (i := 31) rfl (.cons (i := 35) rfl (.cons (i := 36) rfl (.nil)))))))))) ?_
            refine W.seq fun K26 hK26 => ?_
            refine W.block ?_
            -- region 11: seq.go:76
            refine W.seqR fun Q27 hQ27 => ?_
            refine WL.q (Y.move (.pl rfl)) rfl ?_
            refine WL.q (Y.assign (.pl rfl)) rfl ?_
            refine WL.next hQ27 (.cons (i := 0) rfl (.cons (i := 7) rfl (.cons (i := 9) rfl (.cons (i := 10) rfl (.cons (i := 11) rfl (.cons (i := 12) rfl (.cons (i := 30) rfl (.cons (i := 31) rfl (.cons (i := 35) rfl (.cons (i := 36) rfl (.nil))))))))))) ?_
            -- region 12: seq.go:77
            refine W.seqD (by kernel_rfl) (by kernel_rfl) fun R28 hR28 => ?_
            refine WD.q (Y.move (.pl rfl)) rfl ?_
            refine WD.q (Y.move (.pl rfl)) rfl ?_
            obtain ⟨x24, hx24, hF21⟩ := bnd hF21
            refine WD.q (Y.rowEl Try.underlying22 cells3 (i := 2) rfl (.pl rfl) rfl (.pl rfl) (ix_lt (hx24))) rfl ?_
            refine WD.q (Y.loadR (enc := (eI .i64)) (v := .int .i64 x24) (a := x24) (idx := v20) (j := 0) Try.underlying3 rfl (fun _ => rfl) (i := 2) rfl (.pl rfl) (ix_get (hx24)) rfl rfl) rfl ?_
            refine WD.q (Y.move (.pl rfl)) rfl ?_
            refine WD.q (Y.move (.pl rfl)) rfl ?_
            obtain ⟨x25, hx25, hF21⟩ := bnd hF21
            refine WD.q (Y.rowEl Try.underlying22 cells3 (i := 2) rfl (.pl rfl) rfl (.pl rfl) (ix_lt (hx25))) rfl ?_
            refine WD.q (Y.loadR (enc := (eI .i64)) (v := .int .i64 x25) (a := x25) (idx := v23) (j := 0) Try.underlying3 rfl (fun _ => rfl) (i := 2) rfl (.pl rfl) (ix_get (hx25)) rfl rfl) rfl ?_
            refine WD.q (Y.lss (.pl rfl) (.pl rfl)) rfl ?_
            refine WD.next hR28 (.cons (i := 0) rfl (.cons (i := 7) rfl (.cons (i := 9) rfl (.cons (i := 10) rfl (.cons (i := 11) rfl (.cons (i := 12) rfl (.cons (i := 30) rfl (.cons (i := 31) rfl (.cons (i := 35) rfl (.cons (i := 36) rfl (.cons (i := 47) rfl (.nil)))))))))))) ?_
            refine W.cond (.pl rfl) (fun hC29 => ?_) (fun hC29 => ?_)
            · replace hF21 := cpos hC29 hF21
              -- region 13: seq.go:78
              refine W.reg ?_
              refine WL.q (Y.move (.pl rfl)) rfl ?_
              refine WL.q (Y.fieldAddr0 (off := 1) (ft := 97) Try.underlying99 rfl cells97 (.pl rfl)) rfl ?_
              obtain ⟨x26, hx26, hF21⟩ := bnd hF21
              refine WL.q (Y.arrZ Try.underlying97 cells96 (.pl rfl) (.pl rfl) (ax_lt (hx26))) rfl ?_
              refine WL.q (Y.loadB (v := .int .u16 x26) Try.underlying96 rfl (.pl rfl) (i := 1) rfl (cellsA (pre := (Value.int .i64 ((r11.1).length : Int) :: [])) (off := 1) (post := []) (a := After22) (enc := (eI .u16)) (d := 0) (n := 12) (sz := 1) (j := 0) (fun _ => rfl) rfl (ax_nat (hx26)) (ax_get (hx26)) rfl)) rfl ?_
              refine WL.q (Y.move (.pl rfl)) rfl ?_
              refine WL.q (Y.conv Try.underlying3 Try.underlying113 (.pl rfl)) rfl ?_
              refine WL.q (Y.shl (.pl rfl) (.pl rfl) (wrapU_nn rfl _)) rfl ?_
              refine WL.q (Y.bor (.pl rfl) (.pl rfl)) rfl ?_
              refine WL.q (Y.fieldAddr0 (off := 1) (ft := 97) Try.underlying99 rfl cells97 (.pl rfl)) rfl ?_
              obtain ⟨x27, hx27, hF21⟩ := bnd hF21
              refine WL.q (Y.arrZ Try.underlying97 cells96 (.pl rfl) (.pl rfl) (ax_lt (hx27))) rfl ?_
              refine WL.step (WO.storeB (cs' := (encRel (Rel.mk ((r11.1).length : Int) (setA 12 0 After22 v20 (borI .u16 x26 (shlI .u16 1 (IntKind.u64.wrap v23))))))) cells96 (.pl rfl) (.pl rfl) rfl (i := 1) rfl (ltl (m := 13) (offlt (off := 1) (sz := 1) (j := 0) (ax_nat (hx27)) (by decide)) rfl) (cellsSet (pre := (Value.int .i64 ((r11.1).length : Int) :: [])) (off := 1) (post := []) (a := After22) (enc := (eI .u16)) (d := 0) (n := 12) (sz := 1) (j := 0) (x := x27) (x' := (borI .u16 x26 (shlI .u16 1 (IntKind.u64.wrap v23)))) (fun _ => rfl) rfl (ax_lt (hx27)) (ax_get (hx27)) (by decide) rfl rfl) ?_)
              refine WL.nil ?_
              refine W.go hK26 (.cons (i := 0) rfl (.cons (i := 7) rfl (.cons (i := 9) rfl (.cons (i := 10) rfl (.cons (i := 11) rfl (.cons (i := 30) rfl (.cons (i := 31) rfl (.cons (i := 35) rfl (.cons (i := 36) rfl (.nil)))))))))) ?_
              -- region 14: seq.go:76
              refine W.reg ?_
              obtain ⟨hk28, hF21⟩ := ckh hF21
              refine WL.q (Y.add (.pl rfl) (.pl rfl) (ok64_lt (hk28))) rfl ?_
              refine WL.q (Y.move (.pl rfl)) rfl ?_
              refine WL.nil ?_
              obtain rfl := Option.some.inj hF21
              exact W.again2 hK22 (setA 12 0 After22 v20 (borI .u16 x26 (shlI .u16 1 (IntKind.u64.wrap v23)))) (v23 + 1) k21 hN21 (Nat.lt_succ_self _) (.cons rfl (.nil)) (.cons (i := 0) rfl (.cons (i := 7) rfl (.cons (i := 9) rfl (.cons (i := 10) rfl (.cons (i := 11) rfl (.cons (i := 30) rfl (.cons (i := 31) rfl (.cons (i := 35) rfl (.nil))))))))) (fun wz hw => hw.pick [0, 1, 2] rfl)
            · replace hF21 := cneg hC29 hF21
              refine W.skip ?_
              refine W.go hK26 (.cons (i := 0) rfl (.cons (i := 7) rfl (.cons (i := 9) rfl (.cons (i := 10) rfl (.cons (i := 11) rfl (.cons (i := 30) rfl (.cons (i := 31) rfl (.cons (i := 35) rfl (.cons (i := 36) rfl (.nil)))))))))) ?_
              -- region 14: seq.go:76
              refine W.reg ?_
              obtain ⟨hk29, hF21⟩ := ckh hF21
              refine WL.q (Y.add (.pl rfl) (.pl rfl) (ok64_lt (hk29))) rfl ?_
              refine WL.q (Y.move (.pl rfl)) rfl ?_
              refine WL.nil ?_
              obtain rfl := Option.some.inj hF21
              exact W.again2 hK22 After22 (v23 + 1) k21 hN21 (Nat.lt_succ_self _) (.cons rfl (.nil)) (.cons (i := 0) rfl (.cons (i := 7) rfl (.cons (i := 9) rfl (.cons (i := 10) rfl (.cons (i := 11) rfl (.cons (i := 30) rfl (.cons (i := 31) rfl (.cons (i := 35) rfl (.nil))))))))) (fun wz hw => hw.pick [0, 1, 2] rfl)
          · replace hF21 := cneg hC25 hF21
            refine W.exit ?_
            obtain rfl := Option.some.inj hF21
            exact W.joinAt1 hK18 After22 (einr hN21) (.nil) (.cons (i := 0) rfl (.cons (i := 7) rfl (.cons (i := 9) rfl (.cons (i := 10) rfl (.cons (i := 30) rfl (.cons (i := 31) rfl (.nil))))))) (fun wz hw => hw.pick [0, 1, 2] rfl)
        · -- behind
          rintro After21 rfl
          -- region 15: seq.go:75
          refine W.reg ?_
          obtain ⟨hk30, hF12⟩ := ckh hF12
          refine WL.q (Y.add (.pl rfl) (.pl rfl) (ok64_lt (hk30))) rfl ?_
          refine WL.q (Y.move (.pl rfl)) rfl ?_
          refine WL.nil ?_
          obtain rfl := Option.some.inj hF12
          exact W.again2 hK13 After21 (v20 + 1) k12 hN12 (Nat.lt_succ_self _) (.cons rfl (.nil)) (.cons (i := 0) rfl (.cons (i := 7) rfl (.cons (i := 9) rfl (.cons (i := 10) rfl (.cons (i := 30) rfl (.nil)))))) (fun wz hw => hw.pick [0, 1, 2] rfl)
      · replace hF12 := cneg hC16 hF12
        refine W.exit ?_
        obtain rfl := Option.some.inj hF12
        exact W.joinAt1 hK10 After19 (einr hN12) (.nil) (.cons (i := 0) rfl (.cons (i := 7) rfl (.cons (i := 9) rfl (.nil)))) (fun wz hw => hw.pick [0, 1] rfl)
    · -- behind
      rintro After18 rfl
      -- region 16: seq.go:82
      refine W.seqR fun Q34 hQ34 => ?_
      refine WL.q (Y.move (.pl rfl)) rfl ?_
      refine WL.q (Y.move (.pl rfl)) rfl ?_
      refine WL.q (Y.loadBA (ds := (encRel (Rel.mk ((r11.1).length : Int) After18))) Try.underlying99 rfl cells99 (.pl rfl) (i := 1) rfl rfl subW) rfl ?_
      obtain ⟨r31, hr31, hF⟩ := bnd hF
      refine WL.step (WO.callM isGo70 (.cons (.pl rfl) (.cons (.pl rfl) (.cons (.pl rfl) (.nil)))) rfl (fun wz hw => search_Smallest_ok (hr31) wz (hs4.mono hw) (SlIn.ofRow lenCall hw (i := 0) rfl)) ?_)
      rintro ⟨A32, c33⟩ -
      refine WL.q (Y.move (.pl rfl)) rfl ?_
      refine WL.q (Y.extract (.pl rfl) rfl) rfl ?_
      refine WL.q (Y.extract (.pl rfl) rfl) rfl ?_
      refine WL.q (Y.assign (.pl rfl)) rfl ?_
      refine WL.q (Y.assign (.pl rfl)) rfl ?_
      refine WL.next hQ34 (.cons (i := 13) rfl (.cons (i := 14) rfl (.nil))) ?_
      -- region 17: seq.go:83
      refine W.seqR fun Q35 hQ35 => ?_
      refine WL.q (Y.move (.pl rfl)) rfl ?_
      refine WL.q (Y.move (.pl rfl)) rfl ?_
      refine WL.q (Y.assign (.pl rfl)) rfl ?_
      refine WL.q (Y.assign (.pl rfl)) rfl ?_
      refine WL.q (Y.assign (.pl rfl)) rfl ?_
      refine WL.next hQ35 (.cons (i := 4) rfl (.cons (i := 5) rfl (.cons (i := 6) rfl (.nil)))) ?_
      obtain rfl := Option.some.inj hF
      refine W.retV (fn := Try.f48) (vs := [.slice A32 (r31.1).length c33, .bool r31.2, .int .i64 0]) Try.results48 ⟨.tmp rfl, ⟨.tmp rfl, ⟨.tmp rfl, trivial⟩⟩⟩ (fun _ _ h => h) (fun wz hw => ?_)
      exact hR _ _ ⟨(A32, c33), trivial, rfl, (hw.pick [0] rfl)⟩

def slices_Equal_api_Step_api_Step_L3 (N : Nat) (s11 : (List Step)) (s26 : (List Step)) : Int → Option (Int ⊕ (Unit ⊕ Bool))
  | v11 =>
    cond (decide (v11 < ((s11).length : Int)))
      (bd (ix s11 v11) fun (x12 : Step) =>
      bd (ix s26 v11) fun (x13 : Step) =>
      cond (!(decide (x12 = x13)))
        (some (.inr (.inr false)))
        (ck (ok64 (v11 + 1)) <|
        some (.inl (v11 + 1))))
      (some (.inr (.inl ())))

def slices_Equal_api_Step_api_Step (N : Nat) (s11 : (List Step)) (s26 : (List Step)) : Option Bool :=
  cond (!(decide (((s11).length : Int) = ((s26).length : Int))))
    (some false)
    (bd (α := (Unit ⊕ Bool)) (iter (slices_Equal_api_Step_api_Step_L3 N s11 s26) N 0) <|
    Sum.elim (fun _ => 
      some true) (fun p => some p))

theorem slices_Equal_api_Step_api_Step_ok {N : Nat} {s11 : (List Step)} {s26 : (List Step)} {res : Bool} (hF : slices_Equal_api_Step_api_Step N s11 s26 = some res) (w : World) {v5 : Value} (hs4 : SlIn encStep 2 w v5 s11) {v10 : Value} (hs9 : SlIn encStep 2 w v10 s26) :
    Pure Try.prog 59 [v5, v10] w (.bool res) := by
  obtain ⟨A2, c3, rfl, hcc3, hs4⟩ := hs4.form
  obtain ⟨A7, c8, rfl, hcc8, hs9⟩ := hs9.form
  refine W.enter (n := 26) Try.func59 rfl rfl Sub.refl (by simp) (St.start w) fun R hR => ?_
  unfold slices_Equal_api_Step_api_Step at hF
  -- region 0: slices.go:20
  refine W.seqR fun Q1 hQ1 => ?_
  refine WL.q (Y.assign (.pl rfl)) rfl ?_
  refine WL.next hQ1 (.cons (i := 0) rfl (.cons (i := 1) rfl (.nil))) ?_
  refine W.seq fun K2 hK2 => ?_
  -- region 1: slices.go:21
  refine W.seqR fun Q3 hQ3 => ?_
  refine WL.q (Y.move (.pl rfl)) rfl ?_
  refine WL.q (Y.len Try.underlying44 (.pl rfl)) rfl ?_
  refine WL.q (Y.move (.pl rfl)) rfl ?_
  refine WL.q (Y.len Try.underlying44 (.pl rfl)) rfl ?_
  refine WL.q (Y.neq (.pl rfl) (.pl rfl)) rfl ?_
  refine WL.next hQ3 (.cons (i := 0) rfl (.cons (i := 1) rfl (.cons (i := 10) rfl (.nil)))) ?_
  refine W.cond (.pl rfl) (fun hC4 => ?_) (fun hC4 => ?_)
  · replace hF := cpos hC4 hF
    -- region 2: slices.go:22
    refine W.seqR fun Q5 hQ5 => ?_
    refine WL.q (Y.assign (.pl rfl)) rfl ?_
    refine WL.next hQ5 (.cons (i := 4) rfl (.nil)) ?_
    obtain rfl := Option.some.inj hF
    refine W.retV (fn := Try.f59) (vs := [.bool false]) Try.results59 ⟨.tmp rfl, trivial⟩ (fun _ _ h => h) (fun wz hw => ?_)
    exact hR _ _ ⟨rfl, (hw.pick [] rfl)⟩
  · replace hF := cneg hC4 hF
    refine W.skip ?_
    refine W.go hK2 (.cons (i := 0) rfl (.cons (i := 1) rfl (.nil))) ?_
    obtain ⟨o6, hF6, hF⟩ := bnd hF
    refine W.join0 (Em := []) (M := []) (I := (.inl ()) = o6) (.nil) (fun K7 hK7 => ?_) ?_
    · -- up to
      -- region 3: slices.go:24
      refine W.seqR fun Q8 hQ8 => ?_
      refine WL.q (Y.move (.pl rfl)) rfl ?_
      refine WL.q (Y.len Try.underlying44 (.pl rfl)) rfl ?_
      refine WL.q (Y.move (.pl rfl)) rfl ?_
      refine WL.next hQ8 (.cons (i := 0) rfl (.cons (i := 1) rfl (.cons (i := 12) rfl (.cons (i := 13) rfl (.nil))))) ?_
      refine W.block ?_
      refine W.loop1 (Em := fun (v11 : Int) => [(13, .int .i64 v11)]) (M := fun v11 => []) (I := fun v11 k9 => iter (slices_Equal_api_Step_api_Step_L3 N s11 s26) k9 v11 = some o6) 0 N (hF6) (.cons rfl (.nil)) (.cons (i := 0) rfl (.cons (i := 1) rfl (.cons (i := 12) rfl (.nil)))) (fun wz hw => hw.pick [] rfl) (fun v11 k9 hI K10 hK10 => ?_)
      obtain ⟨k9, t9, rfl, hF9, hN9⟩ := iter_step hI
      -- region 4: slices.go:24
      refine W.seqR fun Q11 hQ11 => ?_
      refine WL.q (Y.lss (.pl rfl) (.pl rfl)) rfl ?_
      refine WL.next hQ11 (.cons (i := 0) rfl (.cons (i := 1) rfl (.cons (i := 12) rfl (.cons (i := 13) rfl (.cons (i := 14) rfl (.nil)))))) ?_
      refine W.seq fun K12 hK12 => ?_
      refine W.cond (.pl rfl) (fun hC13 => ?_) (fun hC13 => ?_)
      · replace hF9 := cpos hC13 hF9
        refine W.skip ?_
        refine W.go hK12 (.cons (i := 0) rfl (.cons (i := 1) rfl (.cons (i := 12) rfl (.cons (i := 13) rfl (.nil))))) ?_
        refine W.seq fun K14 hK14 => ?_
        refine W.block ?_
        -- region 5: slices.go:24
        refine W.seqR fun Q15 hQ15 => ?_
        refine WL.q (Y.move (.pl rfl)) rfl ?_
        refine WL.q (Y.assign (.pl rfl)) rfl ?_
        refine WL.next hQ15 (.cons (i := 0) rfl (.cons (i := 1) rfl (.cons (i := 5) rfl (.cons (i := 12) rfl (.cons (i := 13) rfl (.nil)))))) ?_
        -- region 6: slices.go:25
        refine W.seqD (by kernel_rfl) (by kernel_rfl) fun R16 hR16 => ?_
        refine WD.q (Y.move (.pl rfl)) rfl ?_
        refine WD.q (Y.move (.pl rfl)) rfl ?_
        obtain ⟨x12, hx12, hF9⟩ := bnd hF9
        refine WD.q (Y.slEl Try.underlying44 cells58 hs4 (.pl rfl) (.pl rfl) (ix_lt (hx12))) rfl ?_
        refine WD.q (Y.loadSA (enc := encStep) (ds := (encStep x12)) (j := 0) Try.underlying58 rfl cells58 hs4 (.pl rfl) (hx12) rfl rfl subW) rfl ?_
        refine WD.q (Y.move (.pl rfl)) rfl ?_
        refine WD.q (Y.move (.pl rfl)) rfl ?_
        obtain ⟨x13, hx13, hF9⟩ := bnd hF9
        refine WD.q (Y.slEl Try.underlying44 cells58 hs9 (.pl rfl) (.pl rfl) (ix_lt (hx13))) rfl ?_
        refine WD.q (Y.loadSA (enc := encStep) (ds := (encStep x13)) (j := 0) Try.underlying58 rfl cells58 hs9 (.pl rfl) (hx13) rfl rfl subW) rfl ?_
        refine WD.q (Y.neqS eqs58 (.pl rfl) (.pl rfl) (eqStep x12 x13)) rfl ?_
        refine WD.next hR16 (.cons (i := 0) rfl (.cons (i := 1) rfl (.cons (i := 12) rfl (.cons (i := 13) rfl (.cons (i := 24) rfl (.nil)))))) ?_
        refine W.cond (.pl rfl) (fun hC17 => ?_) (fun hC17 => ?_)
        · replace hF9 := cpos hC17 hF9
          -- region 7: slices.go:26
          refine W.seqR fun Q18 hQ18 => ?_
          refine WL.q (Y.assign (.pl rfl)) rfl ?_
          refine WL.next hQ18 (.cons (i := 4) rfl (.nil)) ?_
          obtain rfl := Option.some.inj hF9
          obtain rfl := einr hN9
          obtain rfl := Option.some.inj hF
          refine W.retV (fn := Try.f59) (vs := [.bool false]) Try.results59 ⟨.tmp rfl, trivial⟩ (fun _ _ h => h) (fun wz hw => ?_)
          exact hR _ _ ⟨rfl, (hw.pick [] rfl)⟩
        · replace hF9 := cneg hC17 hF9
          refine W.skip ?_
          refine W.go hK14 (.cons (i := 0) rfl (.cons (i := 1) rfl (.cons (i := 12) rfl (.cons (i := 13) rfl (.nil))))) ?_
          -- region 8: slices.go:24
          refine W.reg ?_
          obtain ⟨hk14, hF9⟩ := ckh hF9
          refine WL.q (Y.add (.pl rfl) (.pl rfl) (ok64_lt (hk14))) rfl ?_
          refine WL.q (Y.move (.pl rfl)) rfl ?_
          refine WL.nil ?_
          obtain rfl := Option.some.inj hF9
          exact W.again1 hK10 (v11 + 1) k9 hN9 (Nat.lt_succ_self _) (.cons rfl (.nil)) (.cons (i := 0) rfl (.cons (i := 1) rfl (.cons (i := 12) rfl (.nil)))) (fun wz hw => hw.pick [] rfl)
      · replace hF9 := cneg hC13 hF9
        refine W.exit ?_
        obtain rfl := Option.some.inj hF9
        exact W.joinAt0 hK7  (einr hN9) (.nil) (.nil) (fun wz hw => hw.pick [] rfl)
    · -- behind
      rintro  rfl
      -- region 9: slices.go:29
      refine W.seqR fun Q20 hQ20 => ?_
      refine WL.q (Y.assign (.pl rfl)) rfl ?_
      refine WL.next hQ20 (.cons (i := 4) rfl (.nil)) ?_
      obtain rfl := Option.some.inj hF
      refine W.retV (fn := Try.f59) (vs := [.bool true]) Try.results59 ⟨.tmp rfl, trivial⟩ (fun _ _ h => h) (fun wz hw => ?_)
      exact hR _ _ ⟨rfl, (hw.pick [] rfl)⟩

def slices_Equal_int_int_L3 (N : Nat) (s11 : (List Int)) (s26 : (List Int)) : Int → Option (Int ⊕ (Unit ⊕ Bool))
  | v11 =>
    cond (decide (v11 < ((s11).length : Int)))
      (bd (ix s11 v11) fun (x12 : Int) =>
      bd (ix s26 v11) fun (x13 : Int) =>
      cond (!(decide (x12 = x13)))
        (some (.inr (.inr false)))
        (ck (ok64 (v11 + 1)) <|
        some (.inl (v11 + 1))))
      (some (.inr (.inl ())))

def slices_Equal_int_int (N : Nat) (s11 : (List Int)) (s26 : (List Int)) : Option Bool :=
  cond (!(decide (((s11).length : Int) = ((s26).length : Int))))
    (some false)
    (bd (α := (Unit ⊕ Bool)) (iter (slices_Equal_int_int_L3 N s11 s26) N 0) <|
    Sum.elim (fun _ => 
      some true) (fun p => some p))

theorem slices_Equal_int_int_ok {N : Nat} {s11 : (List Int)} {s26 : (List Int)} {res : Bool} (hF : slices_Equal_int_int N s11 s26 = some res) (w : World) {v5 : Value} (hs4 : SlIn (eI .i64) 1 w v5 s11) {v10 : Value} (hs9 : SlIn (eI .i64) 1 w v10 s26) :
    Pure Try.prog 31 [v5, v10] w (.bool res) := by
  obtain ⟨A2, c3, rfl, hcc3, hs4⟩ := hs4.form
  obtain ⟨A7, c8, rfl, hcc8, hs9⟩ := hs9.form
  refine W.enter (n := 26) Try.func31 rfl rfl Sub.refl (by simp) (St.start w) fun R hR => ?_
  unfold slices_Equal_int_int at hF
  -- region 0: slices.go:20
  refine W.seqR fun Q1 hQ1 => ?_
  refine WL.q (Y.assign (.pl rfl)) rfl ?_
  refine WL.next hQ1 (.cons (i := 0) rfl (.cons (i := 1) rfl (.nil))) ?_
  refine W.seq fun K2 hK2 => ?_
  -- region 1: slices.go:21
  refine W.seqR fun Q3 hQ3 => ?_
  refine WL.q (Y.move (.pl rfl)) rfl ?_
  refine WL.q (Y.len Try.underlying22 (.pl rfl)) rfl ?_
  refine WL.q (Y.move (.pl rfl)) rfl ?_
  refine WL.q (Y.len Try.underlying22 (.pl rfl)) rfl ?_
  refine WL.q (Y.neq (.pl rfl) (.pl rfl)) rfl ?_
  refine WL.next hQ3 (.cons (i := 0) rfl (.cons (i := 1) rfl (.cons (i := 10) rfl (.nil)))) ?_
  refine W.cond (.pl rfl) (fun hC4 => ?_) (fun hC4 => ?_)
  · replace hF := cpos hC4 hF
    -- region 2: slices.go:22
    refine W.seqR fun Q5 hQ5 => ?_
    refine WL.q (Y.assign (.pl rfl)) rfl ?_
    refine WL.next hQ5 (.cons (i := 4) rfl (.nil)) ?_
    obtain rfl := Option.some.inj hF
    refine W.retV (fn := Try.f31) (vs := [.bool false]) Try.results31 ⟨.tmp rfl, trivial⟩ (fun _ _ h => h) (fun wz hw => ?_)
    exact hR _ _ ⟨rfl, (hw.pick [] rfl)⟩
  · replace hF := cneg hC4 hF
    refine W.skip ?_
    refine W.go hK2 (.cons (i := 0) rfl (.cons (i := 1) rfl (.nil))) ?_
    obtain ⟨o6, hF6, hF⟩ := bnd hF
    refine W.join0 (Em := []) (M := []) (I := (.inl ()) = o6) (.nil) (fun K7 hK7 => ?_) ?_
    · -- up to
      -- region 3: slices.go:24
      refine W.seqR fun Q8 hQ8 => ?_
      refine WL.q (Y.move (.pl rfl)) rfl ?_
      refine WL.q (Y.len Try.underlying22 (.pl rfl)) rfl ?_
      refine WL.q (Y.move (.pl rfl)) rfl ?_
      refine WL.next hQ8 (.cons (i := 0) rfl (.cons (i := 1) rfl (.cons (i := 12) rfl (.cons (i := 13) rfl (.nil))))) ?_
      refine W.block ?_
      refine W.loop1 (Em := fun (v11 : Int) => [(13, .int .i64 v11)]) (M := fun v11 => []) (I := fun v11 k9 => iter (slices_Equal_int_int_L3 N s11 s26) k9 v11 = some o6) 0 N (hF6) (.cons rfl (.nil)) (.cons (i := 0) rfl (.cons (i := 1) rfl (.cons (i := 12) rfl (.nil)))) (fun wz hw => hw.pick [] rfl) (fun v11 k9 hI K10 hK10 => ?_)
      obtain ⟨k9, t9, rfl, hF9, hN9⟩ := iter_step hI
      -- region 4: slices.go:24
      refine W.seqR fun Q11 hQ11 => ?_
      refine WL.q (Y.lss (.pl rfl) (.pl rfl)) rfl ?_
      refine WL.next hQ11 (.cons (i := 0) rfl (.cons (i := 1) rfl (.cons (i := 12) rfl (.cons (i := 13) rfl (.cons (i := 14) rfl (.nil)))))) ?_
      refine W.seq fun K12 hK12 => ?_
      refine W.cond (.pl rfl) (fun hC13 => ?_) (fun hC13 => ?_)
      · replace hF9 := cpos hC13 hF9
        refine W.skip ?_
        refine W.go hK12 (.cons (i := 0) rfl (.cons (i := 1) rfl (.cons (i := 12) rfl (.cons (i := 13) rfl (.nil))))) ?_
        refine W.seq fun K14 hK14 => ?_
        refine W.block ?_
        -- region 5: slices.go:24
        refine W.seqR fun Q15 hQ15 => ?_
        refine WL.q (Y.move (.pl rfl)) rfl ?_
        refine WL.q (Y.assign (.pl rfl)) rfl ?_
        refine WL.next hQ15 (.cons (i := 0) rfl (.cons (i := 1) rfl (.cons (i := 5) rfl (.cons (i := 12) rfl (.cons (i := 13) rfl (.nil)))))) ?_
        -- region 6: slices.go:25
        refine W.seqD (by kernel_rfl) (by kernel_rfl) fun R16 hR16 => ?_
        refine WD.q (Y.move (.pl rfl)) rfl ?_
        refine WD.q (Y.move (.pl rfl)) rfl ?_
        obtain ⟨x12, hx12, hF9⟩ := bnd hF9
        refine WD.q (Y.slEl Try.underlying22 cells3 hs4 (.pl rfl) (.pl rfl) (ix_lt (hx12))) rfl ?_
        refine WD.q (Y.loadS (enc := (eI .i64)) (v := .int .i64 x12) (j := 0) Try.underlying3 rfl hs4 (.pl rfl) (hx12) rfl rfl) rfl ?_
        refine WD.q (Y.move (.pl rfl)) rfl ?_
        refine WD.q (Y.move (.pl rfl)) rfl ?_
        obtain ⟨x13, hx13, hF9⟩ := bnd hF9
        refine WD.q (Y.slEl Try.underlying22 cells3 hs9 (.pl rfl) (.pl rfl) (ix_lt (hx13))) rfl ?_
        refine WD.q (Y.loadS (enc := (eI .i64)) (v := .int .i64 x13) (j := 0) Try.underlying3 rfl hs9 (.pl rfl) (hx13) rfl rfl) rfl ?_
        refine WD.q (Y.neq (.pl rfl) (.pl rfl)) rfl ?_
        refine WD.next hR16 (.cons (i := 0) rfl (.cons (i := 1) rfl (.cons (i := 12) rfl (.cons (i := 13) rfl (.cons (i := 24) rfl (.nil)))))) ?_
        refine W.cond (.pl rfl) (fun hC17 => ?_) (fun hC17 => ?_)
        · replace hF9 := cpos hC17 hF9
          -- region 7: slices.go:26
          refine W.seqR fun Q18 hQ18 => ?_
          refine WL.q (Y.assign (.pl rfl)) rfl ?_
          refine WL.next hQ18 (.cons (i := 4) rfl (.nil)) ?_
          obtain rfl := Option.some.inj hF9
          obtain rfl := einr hN9
          obtain rfl := Option.some.inj hF
          refine W.retV (fn := Try.f31) (vs := [.bool false]) Try.results31 ⟨.tmp rfl, trivial⟩ (fun _ _ h => h) (fun wz hw => ?_)
          exact hR _ _ ⟨rfl, (hw.pick [] rfl)⟩
        · replace hF9 := cneg hC17 hF9
          refine W.skip ?_
          refine W.go hK14 (.cons (i := 0) rfl (.cons (i := 1) rfl (.cons (i := 12) rfl (.cons (i := 13) rfl (.nil))))) ?_
          -- region 8: slices.go:24
          refine W.reg ?_
          obtain ⟨hk14, hF9⟩ := ckh hF9
          refine WL.q (Y.add (.pl rfl) (.pl rfl) (ok64_lt (hk14))) rfl ?_
          refine WL.q (Y.move (.pl rfl)) rfl ?_
          refine WL.nil ?_
          obtain rfl := Option.some.inj hF9
          exact W.again1 hK10 (v11 + 1) k9 hN9 (Nat.lt_succ_self _) (.cons rfl (.nil)) (.cons (i := 0) rfl (.cons (i := 1) rfl (.cons (i := 12) rfl (.nil)))) (fun wz hw => hw.pick [] rfl)
      · replace hF9 := cneg hC13 hF9
        refine W.exit ?_
        obtain rfl := Option.some.inj hF9
        exact W.joinAt0 hK7  (einr hN9) (.nil) (.nil) (fun wz hw => hw.pick [] rfl)
    · -- behind
      rintro  rfl
      -- region 9: slices.go:29
      refine W.seqR fun Q20 hQ20 => ?_
      refine WL.q (Y.assign (.pl rfl)) rfl ?_
      refine WL.next hQ20 (.cons (i := 4) rfl (.nil)) ?_
      obtain rfl := Option.some.inj hF
      refine W.retV (fn := Try.f31) (vs := [.bool true]) Try.results31 ⟨.tmp rfl, trivial⟩ (fun _ _ h => h) (fun wz hw => ?_)
      exact hR _ _ ⟨rfl, (hw.pick [] rfl)⟩

def alibkeep_seqLives (N : Nat) : Option Bool :=
  bd (alibkeep_late N) fun (r2 : Unit) =>
  bd (seq_Find N ([1] : List Int) ([(Event.mk 0 0 1 5), (Event.mk 0 0 0 0), (Event.mk 1 0 2 0), (Event.mk 1 0 0 0)] : List Event)) fun (r4 : ((List Step) × Bool × Int)) =>
  bd (alibkeep_late N) fun (r8 : Unit) =>
  bd (seq_Calm N ([1] : List Int) ([(Event.mk 0 0 1 5), (Event.mk 0 0 0 0), (Event.mk 1 0 2 0), (Event.mk 1 0 0 0)] : List Event)) fun (r10 : ((List Int) × Int)) =>
  bd (alibkeep_late N) fun (r14 : Unit) =>
  bd (seq_Quiet N ([1] : List Int) ([(Event.mk 0 0 1 5), (Event.mk 0 0 0 0), (Event.mk 1 0 2 0), (Event.mk 1 0 0 0)] : List Event)) fun (r16 : ((List Step) × Bool × Int)) =>
  bd (α := Bool) (bd (alibkeep_ok N ([r4.2.2, r10.2, r16.2.2] : List Int)) fun (r21 : Bool) =>
    cond (((r21 && r4.2.1) && (!r16.2.1)) == true)
      (bd (slices_Equal_api_Step_api_Step N r4.1 ([(Step.mk 1 0), (Step.mk 0 0)] : List Step)) fun (r23 : Bool) =>
      cond ((((r21 && r4.2.1) && (!r16.2.1)) && r23) == true)
        (bd (slices_Equal_int_int N r10.1 ([0, 1] : List Int)) fun (r25 : Bool) =>
        some ((((r21 && r4.2.1) && (!r16.2.1)) && r23) && r25))
        (some ((((r21 && r4.2.1) && (!r16.2.1)) && r23) && false)))
      (cond ((((r21 && r4.2.1) && (!r16.2.1)) && false) == true)
        (bd (slices_Equal_int_int N r10.1 ([0, 1] : List Int)) fun (r27 : Bool) =>
        some ((((r21 && r4.2.1) && (!r16.2.1)) && false) && r27))
        (some ((((r21 && r4.2.1) && (!r16.2.1)) && false) && false)))) <|
  fun (v19 : Bool) => 
    some v19

theorem alibkeep_seqLives_ok {N : Nat} {res : Bool} (hF : alibkeep_seqLives N = some res) (w : World) :
    Pure Try.prog 47 [] w (.bool res) := by
  refine W.enter (n := 53) Try.func47 rfl rfl Sub.refl (by simp) (St.start w) fun R hR => ?_
  unfold alibkeep_seqLives at hF
  -- region 0: seq.go:34
  refine W.seqR fun Q1 hQ1 => ?_
  refine WL.q (Y.assign (.pl rfl)) rfl ?_
  refine WL.next hQ1 (.nil) ?_
  -- region 1: seq.go:35
  refine W.seqR fun Q2 hQ2 => ?_
  refine WL.step (WO.bsliceC (enc := (eI .i64)) (ys := ([1] : List Int)) Try.underlying22 bz3 (.cons (.pl rfl) (.nil)) rfl (fun _ => rfl) rfl rfl (by decide) (by decide) rfl fun b1 => ?_)
  obtain ⟨r2, hr2, hF⟩ := bnd hF
  refine WL.step (WO.callM isGo76 (.nil) rfl (fun wz hw => alibkeep_late_ok (hr2) wz ) ?_)
  rintro A3 -
  obtain ⟨r4, hr4, hF⟩ := bnd hF
  refine WL.step (WO.callM isGo46 (.cons (.pl rfl) (.cons (.pl rfl) (.nil))) rfl (fun wz hw => seq_Find_ok (hr4) wz (SlIn.ofRow (fun _ => rfl) hw (i := 1) rfl) (SlIn.ofRow lenEvent hw (i := 0) rfl)) ?_)
  rintro ⟨A5, c6⟩ -
  refine WL.q (Y.move (.pl rfl)) rfl ?_
  refine WL.q (Y.extract (.pl rfl) rfl) rfl ?_
  refine WL.q (Y.extract (.pl rfl) rfl) rfl ?_
  refine WL.q (Y.extract (.pl rfl) rfl) rfl ?_
  refine WL.q (Y.assign (.pl rfl)) rfl ?_
  refine WL.q (Y.assign (.pl rfl)) rfl ?_
  refine WL.q (Y.assign (.pl rfl)) rfl ?_
  refine WL.next hQ2 (.cons (i := 1) rfl (.cons (i := 2) rfl (.cons (i := 3) rfl (.nil)))) ?_
  -- region 2: seq.go:36
  refine W.seqR fun Q3 hQ3 => ?_
  refine WL.step (WO.bsliceC (enc := (eI .i64)) (ys := ([1] : List Int)) Try.underlying22 bz3 (.cons (.pl rfl) (.nil)) rfl (fun _ => rfl) rfl rfl (by decide) (by decide) rfl fun b7 => ?_)
  obtain ⟨r8, hr8, hF⟩ := bnd hF
  refine WL.step (WO.callM isGo76 (.nil) rfl (fun wz hw => alibkeep_late_ok (hr8) wz ) ?_)
  rintro A9 -
  obtain ⟨r10, hr10, hF⟩ := bnd hF
  refine WL.step (WO.callM isGo49 (.cons (.pl rfl) (.cons (.pl rfl) (.nil))) rfl (fun wz hw => seq_Calm_ok (hr10) wz (SlIn.ofRow (fun _ => rfl) hw (i := 1) rfl) (SlIn.ofRow lenEvent hw (i := 0) rfl)) ?_)
  rintro ⟨A11, c12⟩ -
  refine WL.q (Y.move (.pl rfl)) rfl ?_
  refine WL.q (Y.extract (.pl rfl) rfl) rfl ?_
  refine WL.q (Y.extract (.pl rfl) rfl) rfl ?_
  refine WL.q (Y.assign (.pl rfl)) rfl ?_
  refine WL.q (Y.assign (.pl rfl)) rfl ?_
  refine WL.next hQ3 (.cons (i := 1) rfl (.cons (i := 2) rfl (.cons (i := 3) rfl (.cons (i := 4) rfl (.cons (i := 5) rfl (.nil)))))) ?_
  -- region 3: seq.go:37
  refine W.seqR fun Q4 hQ4 => ?_
  refine WL.step (WO.bsliceC (enc := (eI .i64)) (ys := ([1] : List Int)) Try.underlying22 bz3 (.cons (.pl rfl) (.nil)) rfl (fun _ => rfl) rfl rfl (by decide) (by decide) rfl fun b13 => ?_)
  obtain ⟨r14, hr14, hF⟩ := bnd hF
  refine WL.step (WO.callM isGo76 (.nil) rfl (fun wz hw => alibkeep_late_ok (hr14) wz ) ?_)
  rintro A15 -
  obtain ⟨r16, hr16, hF⟩ := bnd hF
  refine WL.step (WO.callM isGo48 (.cons (.pl rfl) (.cons (.pl rfl) (.nil))) rfl (fun wz hw => seq_Quiet_ok (hr16) wz (SlIn.ofRow (fun _ => rfl) hw (i := 1) rfl) (SlIn.ofRow lenEvent hw (i := 0) rfl)) ?_)
  rintro ⟨A17, c18⟩ -
  refine WL.q (Y.move (.pl rfl)) rfl ?_
  refine WL.q (Y.extract (.pl rfl) rfl) rfl ?_
  refine WL.q (Y.extract (.pl rfl) rfl) rfl ?_
  refine WL.q (Y.extract (.pl rfl) rfl) rfl ?_
  refine WL.q (Y.assign (.pl rfl)) rfl ?_
  refine WL.q (Y.assign (.pl rfl)) rfl ?_
  refine WL.q (Y.assign (.pl rfl)) rfl ?_
  refine WL.next hQ4 (.cons (i := 1) rfl (.cons (i := 2) rfl (.cons (i := 3) rfl (.cons (i := 4) rfl (.cons (i := 5) rfl (.cons (i := 7) rfl (.cons (i := 8) rfl (.nil)))))))) ?_
  obtain ⟨o5, hF5, hF⟩ := bnd hF
  refine W.join1 (Em := fun (v19 : Bool) => [(0, .bool v19)]) (M := fun v19 => []) (I := fun v19 => v19 = o5) (.nil) (fun K6 hK6 => ?_) ?_
  · -- up to
    -- region 4: seq.go:38
    refine W.reg ?_
    refine WL.q (Y.move (.pl rfl)) rfl ?_
    refine WL.q (Y.move (.pl rfl)) rfl ?_
    refine WL.q (Y.move (.pl rfl)) rfl ?_
    refine WL.step (WO.bsliceC (enc := (eI .i64)) (ys := ([r4.2.2, r10.2, r16.2.2] : List Int)) Try.underlying88 bz29 (.cons (.pl rfl) (.cons (.pl rfl) (.cons (.pl rfl) (.nil)))) rfl (fun _ => rfl) rfl rfl (by decide) (by decide) rfl fun b20 => ?_)
    obtain ⟨r21, hr21, hF5⟩ := bnd hF5
    refine WL.step (WO.callP isGo28 (.cons (.pl rfl) (.nil)) rfl (fun wz hw => alibkeep_ok_ok (hr21) wz (SlIn.ofRow (fun _ => rfl) hw (i := 0) rfl)) ?_)
    refine WL.q (Y.move (.pl rfl)) rfl ?_
    refine WL.g (.pl rfl rfl rfl) (fun hg => Y.move (.pl rfl)) rfl ?_
    refine WL.q (Y.and (.pl rfl) (fun h2 => .gd (eqt h2) rfl)) rfl ?_
    refine WL.q (Y.move (.pl rfl)) rfl ?_
    refine WL.g (.pl rfl rfl rfl) (fun hg => Y.move (.pl rfl)) rfl ?_
    refine WL.g (.pl rfl rfl rfl) (fun hg => Y.not (.gd (hg) rfl)) rfl ?_
    refine WL.q (Y.and (.pl rfl) (fun h2 => .gd (eqt h2) rfl)) rfl ?_
    refine WL.q (Y.move (.pl rfl)) rfl ?_
    refine WL.g (.pl rfl rfl rfl) (fun hg => Y.move (.pl rfl)) rfl ?_
    refine WL.g (.pl rfl rfl rfl) (fun hg => Y.build (cs := (encStep (Step.mk 1 0)).toArray) shape58 (.cons (.pl rfl) (.nil)) (one_parts ⟨rfl, trivial⟩) rfl) rfl ?_
    refine WL.g (.pl rfl rfl rfl) (fun hg => Y.build (cs := (encStep (Step.mk 0 0)).toArray) shape58 (.cons (.pl rfl) (.nil)) (one_parts ⟨rfl, trivial⟩) rfl) rfl ?_
    refine bsplit (((r21 && r4.2.1) && (!r16.2.1)) == true) (fun hg7 => ?_) (fun hg7 => ?_)
    · replace hF5 := cpos hg7 hF5
      refine WL.gd (.pl rfl rfl rfl) (hg7) ?_
      refine WL.step (WO.bsliceC (enc := encStep) (ys := ([(Step.mk 1 0), (Step.mk 0 0)] : List Step)) Try.underlying44 bz58 (.cons (.gd (hg7) rfl) (.cons (.gd (hg7) rfl) (.nil))) rfl lenStep rfl rfl (by decide) (by decide) rfl fun b22 => ?_)
      refine WL.gd (.pl rfl rfl rfl) (hg7) ?_
      obtain ⟨r23, hr23, hF5⟩ := bnd hF5
      refine WL.step (WO.callP isGo59 (.cons (.gd (hg7) rfl) (.cons (.pl rfl) (.nil))) rfl (fun wz hw => slices_Equal_api_Step_api_Step_ok (hr23) wz (SlIn.ofRow lenStep hw (i := 8) rfl) (SlIn.ofRow lenStep hw (i := 0) rfl)) ?_)
      refine WL.q (Y.and (.pl rfl) (fun _ => .pl rfl)) rfl ?_
      refine WL.q (Y.move (.pl rfl)) rfl ?_
      refine WL.g (.pl rfl rfl rfl) (fun hg => Y.move (.pl rfl)) rfl ?_
      refine bsplit ((((r21 && r4.2.1) && (!r16.2.1)) && r23) == true) (fun hg8 => ?_) (fun hg8 => ?_)
      · replace hF5 := cpos hg8 hF5
        refine WL.gd (.pl rfl rfl rfl) (hg8) ?_
        refine WL.step (WO.bsliceC (enc := (eI .i64)) (ys := ([0, 1] : List Int)) Try.underlying22 bz3 (.cons (.pl rfl) (.cons (.pl rfl) (.nil))) rfl (fun _ => rfl) rfl rfl (by decide) (by decide) rfl fun b24 => ?_)
        refine WL.gd (.pl rfl rfl rfl) (hg8) ?_
        obtain ⟨r25, hr25, hF5⟩ := bnd hF5
        refine WL.step (WO.callP isGo31 (.cons (.gd (hg8) rfl) (.cons (.pl rfl) (.nil))) rfl (fun wz hw => slices_Equal_int_int_ok (hr25) wz (SlIn.ofRow (fun _ => rfl) hw (i := 6) rfl) (SlIn.ofRow (fun _ => rfl) hw (i := 0) rfl)) ?_)
        refine WL.q (Y.and (.pl rfl) (fun _ => .pl rfl)) rfl ?_
        refine WL.q (Y.assign (.pl rfl)) rfl ?_
        refine WL.nil ?_
        exact W.joinAt1 hK6 ((((r21 && r4.2.1) && (!r16.2.1)) && r23) && r25) (Option.some.inj hF5) (.cons rfl (.nil)) (.nil) (fun wz hw => hw.pick [] rfl)
      · replace hF5 := cneg hg8 hF5
        refine WL.gn (.pl rfl rfl rfl) hg8 rfl ?_
        refine WL.gn (.pl rfl rfl rfl) hg8 rfl ?_
        refine WL.q (Y.and (b := false) (.pl rfl) (fun h2 => (gabsA hg8 h2).elim)) rfl ?_
        refine WL.q (Y.assign (.pl rfl)) rfl ?_
        refine WL.nil ?_
        exact W.joinAt1 hK6 ((((r21 && r4.2.1) && (!r16.2.1)) && r23) && false) (Option.some.inj hF5) (.cons rfl (.nil)) (.nil) (fun wz hw => hw.pick [] rfl)
    · replace hF5 := cneg hg7 hF5
      refine WL.gn (.pl rfl rfl rfl) hg7 rfl ?_
      refine WL.gn (.pl rfl rfl rfl) hg7 rfl ?_
      refine WL.q (Y.and (b := false) (.pl rfl) (fun h2 => (gabsA hg7 h2).elim)) rfl ?_
      refine WL.q (Y.move (.pl rfl)) rfl ?_
      refine WL.g (.pl rfl rfl rfl) (fun hg => Y.move (.pl rfl)) rfl ?_
      refine bsplit ((((r21 && r4.2.1) && (!r16.2.1)) && false) == true) (fun hg9 => ?_) (fun hg9 => ?_)
      · replace hF5 := cpos hg9 hF5
        refine WL.gd (.pl rfl rfl rfl) (hg9) ?_
        refine WL.step (WO.bsliceC (enc := (eI .i64)) (ys := ([0, 1] : List Int)) Try.underlying22 bz3 (.cons (.pl rfl) (.cons (.pl rfl) (.nil))) rfl (fun _ => rfl) rfl rfl (by decide) (by decide) rfl fun b26 => ?_)
        refine WL.gd (.pl rfl rfl rfl) (hg9) ?_
        obtain ⟨r27, hr27, hF5⟩ := bnd hF5
        refine WL.step (WO.callP isGo31 (.cons (.gd (hg9) rfl) (.cons (.pl rfl) (.nil))) rfl (fun wz hw => slices_Equal_int_int_ok (hr27) wz (SlIn.ofRow (fun _ => rfl) hw (i := 5) rfl) (SlIn.ofRow (fun _ => rfl) hw (i := 0) rfl)) ?_)
        refine WL.q (Y.and (.pl rfl) (fun _ => .pl rfl)) rfl ?_
        refine WL.q (Y.assign (.pl rfl)) rfl ?_
        refine WL.nil ?_
        exact W.joinAt1 hK6 ((((r21 && r4.2.1) && (!r16.2.1)) && false) && r27) (Option.some.inj hF5) (.cons rfl (.nil)) (.nil) (fun wz hw => hw.pick [] rfl)
      · replace hF5 := cneg hg9 hF5
        refine WL.gn (.pl rfl rfl rfl) hg9 rfl ?_
        refine WL.gn (.pl rfl rfl rfl) hg9 rfl ?_
        refine WL.q (Y.and (b := false) (.pl rfl) (fun h2 => (gabsA hg9 h2).elim)) rfl ?_
        refine WL.q (Y.assign (.pl rfl)) rfl ?_
        refine WL.nil ?_
        exact W.joinAt1 hK6 ((((r21 && r4.2.1) && (!r16.2.1)) && false) && false) (Option.some.inj hF5) (.cons rfl (.nil)) (.nil) (fun wz hw => hw.pick [] rfl)
  · -- behind
    rintro v19 rfl
    obtain rfl := Option.some.inj hF
    refine W.retV (fn := Try.f47) (vs := [.bool v19]) Try.results47 ⟨.tmp rfl, trivial⟩ (fun _ _ h => h) (fun wz hw => ?_)
    exact hR _ _ ⟨rfl, (hw.pick [] rfl)⟩

def alibkeep_SeqApart_L3 (N : Nat) : Int → Option (Int ⊕ (Unit ⊕ Bool))
  | v8 =>
    cond (decide (v8 < ((([2, 2] : List Int)).length : Int)))
      (bd (alibkeep_crossed N) fun (r9 : Unit) =>
      bd (history_Part N ([2, 2] : List Int) ((((((([] : (List Event)) ++ ([(Event.mk 0 0 3 1), (Event.mk 0 0 0 0)] : List Event)) ++ ([(Event.mk 1 1 3 2), (Event.mk 1 1 0 0)] : List Event)) ++ ([(Event.mk 0 1 3 1), (Event.mk 0 1 0 0)] : List Event)) ++ ([(Event.mk 1 0 3 2), (Event.mk 1 0 0 0)] : List Event)) ++ ([(Event.mk 0 0 4 0), (Event.mk 0 0 0 2)] : List Event)) ++ ([(Event.mk 1 1 4 0), (Event.mk 1 1 0 1)] : List Event)) v8) fun (r12 : ((List Event) × Int)) =>
      bd (seq_Find N ([2, 2] : List Int) r12.1) fun (r15 : ((List Step) × Bool × Int)) =>
      bd (alibkeep_ok N ([r12.2, r15.2.2] : List Int)) fun (r19 : Bool) =>
      cond ((!r19) || (!r15.2.1))
        (some (.inr (.inr false)))
        (ck (ok64 (v8 + 1)) <|
        some (.inl (v8 + 1))))
      (some (.inr (.inl ())))

def alibkeep_SeqApart (N : Nat) : Option Bool :=
  bd (alibkeep_crossed N) fun (r2 : Unit) =>
  bd (seq_Find N ([2, 2] : List Int) ((((((([] : (List Event)) ++ ([(Event.mk 0 0 3 1), (Event.mk 0 0 0 0)] : List Event)) ++ ([(Event.mk 1 1 3 2), (Event.mk 1 1 0 0)] : List Event)) ++ ([(Event.mk 0 1 3 1), (Event.mk 0 1 0 0)] : List Event)) ++ ([(Event.mk 1 0 3 2), (Event.mk 1 0 0 0)] : List Event)) ++ ([(Event.mk 0 0 4 0), (Event.mk 0 0 0 2)] : List Event)) ++ ([(Event.mk 1 1 4 0), (Event.mk 1 1 0 1)] : List Event))) fun (r5 : ((List Step) × Bool × Int)) =>
  bd (α := (Unit ⊕ Bool)) (iter (alibkeep_SeqApart_L3 N) N 0) <|
  Sum.elim (fun _ => 
    bd (alibkeep_crossed N) fun (r21 : Unit) =>
    bd (local_Parts N ([2, 2] : List Int) ((((((([] : (List Event)) ++ ([(Event.mk 0 0 3 1), (Event.mk 0 0 0 0)] : List Event)) ++ ([(Event.mk 1 1 3 2), (Event.mk 1 1 0 0)] : List Event)) ++ ([(Event.mk 0 1 3 1), (Event.mk 0 1 0 0)] : List Event)) ++ ([(Event.mk 1 0 3 2), (Event.mk 1 0 0 0)] : List Event)) ++ ([(Event.mk 0 0 4 0), (Event.mk 0 0 0 2)] : List Event)) ++ ([(Event.mk 1 1 4 0), (Event.mk 1 1 0 1)] : List Event))) fun (r24 : ((List Bool) × Int)) =>
    bd (α := Bool) (bd (alibkeep_seqLives N) fun (r28 : Bool) =>
      cond (r28 == true)
        (bd (alibkeep_ok N ([r5.2.2, r24.2] : List Int)) fun (r30 : Bool) =>
        cond (((r28 && r30) && (!r5.2.1)) == true)
          (bd (slices_Equal_bool_bool N r24.1 ([false, false] : List Bool)) fun (r32 : Bool) =>
          some (((r28 && r30) && (!r5.2.1)) && r32))
          (some (((r28 && r30) && (!r5.2.1)) && false)))
        (cond (((r28 && false) && (!r5.2.1)) == true)
          (bd (slices_Equal_bool_bool N r24.1 ([false, false] : List Bool)) fun (r34 : Bool) =>
          some (((r28 && false) && (!r5.2.1)) && r34))
          (some (((r28 && false) && (!r5.2.1)) && false)))) <|
    fun (v27 : Bool) => 
      some v27) (fun p => some p)

theorem alibkeep_SeqApart_ok {N : Nat} {res : Bool} (hF : alibkeep_SeqApart N = some res) (w : World) :
    Pure Try.prog 17 [] w (.bool res) := by
  refine W.enter (n := 72) Try.func17 rfl rfl Sub.refl (by simp) (St.start w) fun R hR => ?_
  unfold alibkeep_SeqApart at hF
  -- region 0: seq.go:42
  refine W.seqR fun Q1 hQ1 => ?_
  refine WL.q (Y.assign (.pl rfl)) rfl ?_
  refine WL.next hQ1 (.nil) ?_
  -- region 1: seq.go:43
  refine W.seqR fun Q2 hQ2 => ?_
  refine WL.step (WO.bsliceC (enc := (eI .i64)) (ys := ([2, 2] : List Int)) Try.underlying22 bz3 (.cons (.pl rfl) (.cons (.pl rfl) (.nil))) rfl (fun _ => rfl) rfl rfl (by decide) (by decide) rfl fun b1 => ?_)
  refine WL.q (Y.assign (.pl rfl)) rfl ?_
  refine WL.next hQ2 (.cons (i := 1) rfl (.nil)) ?_
  -- region 2: seq.go:44
  refine W.seqR fun Q3 hQ3 => ?_
  refine WL.q (Y.move (.pl rfl)) rfl ?_
  obtain ⟨r2, hr2, hF⟩ := bnd hF
  refine WL.step (WO.callM isGo51 (.nil) rfl (fun wz hw => alibkeep_crossed_ok (hr2) wz ) ?_)
  rintro ⟨A3, c4⟩ -
  obtain ⟨r5, hr5, hF⟩ := bnd hF
  refine WL.step (WO.callM isGo46 (.cons (.pl rfl) (.cons (.pl rfl) (.nil))) rfl (fun wz hw => seq_Find_ok (hr5) wz (SlIn.ofRow (fun _ => rfl) hw (i := 1) rfl) (SlIn.ofRow lenEvent hw (i := 0) rfl)) ?_)
  rintro ⟨A6, c7⟩ -
  refine WL.q (Y.move (.pl rfl)) rfl ?_
  refine WL.q (Y.extract (.pl rfl) rfl) rfl ?_
  refine WL.q (Y.extract (.pl rfl) rfl) rfl ?_
  refine WL.q (Y.extract (.pl rfl) rfl) rfl ?_
  refine WL.q (Y.assign (.pl rfl)) rfl ?_
  refine WL.q (Y.assign (.pl rfl)) rfl ?_
  refine WL.q (Y.assign (.pl rfl)) rfl ?_
  refine WL.next hQ3 (.cons (i := 1) rfl (.cons (i := 3) rfl (.cons (i := 4) rfl (.nil)))) ?_
  obtain ⟨o4, hF4, hF⟩ := bnd hF
  refine W.join0 (Em := []) (M := [cR (eI .i64) 1 (some ⟨b1, 0, none⟩) (([2, 2] : List Int)).length 3 ([2, 2] : List Int)]) (I := (.inl ()) = o4) (.cons (i := 1) rfl (.cons (i := 3) rfl (.cons (i := 4) rfl (.nil)))) (fun K5 hK5 => ?_) ?_
  · -- up to
    -- region 3: seq.go:45
    refine W.seqR fun Q6 hQ6 => ?_
    refine WL.q (Y.move (.pl rfl)) rfl ?_
    refine WL.q (Y.len Try.underlying22 (.pl rfl)) rfl ?_
    refine WL.q (Y.move (.pl rfl)) rfl ?_
    refine WL.next hQ6 (.cons (i := 1) rfl (.cons (i := 3) rfl (.cons (i := 4) rfl (.cons (i := 22) rfl (.cons (i := 23) rfl (.nil)))))) ?_
    refine W.block ?_
    refine W.loop1 (Em := fun (v8 : Int) => [(23, .int .i64 v8)]) (M := fun v8 => [cR (eI .i64) 1 (some ⟨b1, 0, none⟩) (([2, 2] : List Int)).length 3 ([2, 2] : List Int)]) (I := fun v8 k7 => iter (alibkeep_SeqApart_L3 N) k7 v8 = some o4) 0 N (hF4) (.cons rfl (.nil)) (.cons (i := 1) rfl (.cons (i := 3) rfl (.cons (i := 4) rfl (.cons (i := 22) rfl (.nil))))) (fun wz hw => hw.pick [2] rfl) (fun v8 k7 hI K8 hK8 => ?_)
    obtain ⟨k7, t7, rfl, hF7, hN7⟩ := iter_step hI
    -- region 4: seq.go:45
    refine W.seqR fun Q9 hQ9 => ?_
    refine WL.q (Y.lss (.pl rfl) (.pl rfl)) rfl ?_
    refine WL.next hQ9 (.cons (i := 1) rfl (.cons (i := 3) rfl (.cons (i := 4) rfl (.cons (i := 22) rfl (.cons (i := 23) rfl (.cons (i := 24) rfl (.nil))))))) ?_
    refine W.seq fun K10 hK10 => ?_
    refine W.cond (.pl rfl) (fun hC11 => ?_) (fun hC11 => ?_)
    · replace hF7 := cpos hC11 hF7
      refine W.skip ?_
      refine W.go hK10 (.cons (i := 1) rfl (.cons (i := 3) rfl (.cons (i := 4) rfl (.cons (i := 22) rfl (.cons (i := 23) rfl (.nil)))))) ?_
      refine W.seq fun K12 hK12 => ?_
      refine W.block ?_
      -- region 5: seq.go:45
      refine W.seqR fun Q13 hQ13 => ?_
      refine WL.q (Y.move (.pl rfl)) rfl ?_
      refine WL.q (Y.assign (.pl rfl)) rfl ?_
      refine WL.next hQ13 (.cons (i := 1) rfl (.cons (i := 3) rfl (.cons (i := 4) rfl (.cons (i := 5) rfl (.cons (i := 22) rfl (.cons (i := 23) rfl (.nil))))))) ?_
      -- region 6: seq.go:46
      refine W.seqR fun Q14 hQ14 => ?_
      refine WL.q (Y.move (.pl rfl)) rfl ?_
      obtain ⟨r9, hr9, hF7⟩ := bnd hF7
      refine WL.step (WO.callM isGo51 (.nil) rfl (fun wz hw => alibkeep_crossed_ok (hr9) wz ) ?_)
      rintro ⟨A10, c11⟩ -
      refine WL.q (Y.move (.pl rfl)) rfl ?_
      obtain ⟨r12, hr12, hF7⟩ := bnd hF7
      refine WL.step (WO.callM isGo52 (.cons (.pl rfl) (.cons (.pl rfl) (.cons (.pl rfl) (.nil)))) rfl (fun wz hw => history_Part_ok (hr12) wz (SlIn.ofRow (fun _ => rfl) hw (i := 1) rfl) (SlIn.ofRow lenEvent hw (i := 0) rfl)) ?_)
      rintro ⟨A13, c14⟩ -
      refine WL.q (Y.move (.pl rfl)) rfl ?_
      refine WL.q (Y.extract (.pl rfl) rfl) rfl ?_
      refine WL.q (Y.extract (.pl rfl) rfl) rfl ?_
      refine WL.q (Y.assign (.pl rfl)) rfl ?_
      refine WL.q (Y.assign (.pl rfl)) rfl ?_
      refine WL.next hQ14 (.cons (i := 1) rfl (.cons (i := 3) rfl (.cons (i := 4) rfl (.cons (i := 6) rfl (.cons (i := 7) rfl (.cons (i := 22) rfl (.cons (i := 23) rfl (.nil)))))))) ?_
      -- region 7: seq.go:47
      refine W.seqR fun Q15 hQ15 => ?_
      refine WL.q (Y.move (.pl rfl)) rfl ?_
      refine WL.q (Y.move (.pl rfl)) rfl ?_
      obtain ⟨r15, hr15, hF7⟩ := bnd hF7
      refine WL.step (WO.callM isGo46 (.cons (.pl rfl) (.cons (.pl rfl) (.nil))) rfl (fun wz hw => seq_Find_ok (hr15) wz (SlIn.ofRow (fun _ => rfl) hw (i := 2) rfl) (SlIn.ofRow lenEvent hw (i := 0) rfl)) ?_)
      rintro ⟨A16, c17⟩ -
      refine WL.q (Y.move (.pl rfl)) rfl ?_
      refine WL.q (Y.extract (.pl rfl) rfl) rfl ?_
      refine WL.q (Y.extract (.pl rfl) rfl) rfl ?_
      refine WL.q (Y.extract (.pl rfl) rfl) rfl ?_
      refine WL.q (Y.assign (.pl rfl)) rfl ?_
      refine WL.q (Y.assign (.pl rfl)) rfl ?_
      refine WL.q (Y.assign (.pl rfl)) rfl ?_
      refine WL.next hQ15 (.cons (i := 1) rfl (.cons (i := 3) rfl (.cons (i := 4) rfl (.cons (i := 7) rfl (.cons (i := 9) rfl (.cons (i := 10) rfl (.cons (i := 22) rfl (.cons (i := 23) rfl (.nil))))))))) ?_
      -- region 8: seq.go:48
      refine W.seqR fun Q16 hQ16 => ?_
      refine WL.q (Y.move (.pl rfl)) rfl ?_
      refine WL.q (Y.move (.pl rfl)) rfl ?_
      refine WL.step (WO.bsliceC (enc := (eI .i64)) (ys := ([r12.2, r15.2.2] : List Int)) Try.underlying88 bz29 (.cons (.pl rfl) (.cons (.pl rfl) (.nil))) rfl (fun _ => rfl) rfl rfl (by decide) (by decide) rfl fun b18 => ?_)
      obtain ⟨r19, hr19, hF7⟩ := bnd hF7
      refine WL.step (WO.callP isGo28 (.cons (.pl rfl) (.nil)) rfl (fun wz hw => alibkeep_ok_ok (hr19) wz (SlIn.ofRow (fun _ => rfl) hw (i := 0) rfl)) ?_)
      refine WL.q (Y.not (.pl rfl)) rfl ?_
      refine WL.q (Y.move (.pl rfl)) rfl ?_
      refine WL.g (.pl rfl rfl rfl) (fun hg => Y.move (.pl rfl)) rfl ?_
      refine WL.g (.pl rfl rfl rfl) (fun hg => Y.not (.gd (hg) rfl)) rfl ?_
      refine WL.q (Y.or (.pl rfl) (fun h2 => .gd (eqf h2) rfl)) rfl ?_
      refine WL.next hQ16 (.cons (i := 1) rfl (.cons (i := 3) rfl (.cons (i := 4) rfl (.cons (i := 22) rfl (.cons (i := 23) rfl (.cons (i := 48) rfl (.nil))))))) ?_
      refine W.cond (.pl rfl) (fun hC17 => ?_) (fun hC17 => ?_)
      · replace hF7 := cpos hC17 hF7
        -- region 9: seq.go:49
        refine W.seqR fun Q18 hQ18 => ?_
        refine WL.q (Y.assign (.pl rfl)) rfl ?_
        refine WL.next hQ18 (.cons (i := 0) rfl (.nil)) ?_
        obtain rfl := Option.some.inj hF7
        obtain rfl := einr hN7
        obtain rfl := Option.some.inj hF
        refine W.retV (fn := Try.f17) (vs := [.bool false]) Try.results17 ⟨.tmp rfl, trivial⟩ (fun _ _ h => h) (fun wz hw => ?_)
        exact hR _ _ ⟨rfl, (hw.pick [] rfl)⟩
      · replace hF7 := cneg hC17 hF7
        refine W.skip ?_
        refine W.go hK12 (.cons (i := 1) rfl (.cons (i := 3) rfl (.cons (i := 4) rfl (.cons (i := 22) rfl (.cons (i := 23) rfl (.nil)))))) ?_
        -- region 10: seq.go:45
        refine W.reg ?_
        obtain ⟨hk20, hF7⟩ := ckh hF7
        refine WL.q (Y.add (.pl rfl) (.pl rfl) (ok64_lt (hk20))) rfl ?_
        refine WL.q (Y.move (.pl rfl)) rfl ?_
        refine WL.nil ?_
        obtain rfl := Option.some.inj hF7
        exact W.again1 hK8 (v8 + 1) k7 hN7 (Nat.lt_succ_self _) (.cons rfl (.nil)) (.cons (i := 1) rfl (.cons (i := 3) rfl (.cons (i := 4) rfl (.cons (i := 22) rfl (.nil))))) (fun wz hw => hw.pick [4] rfl)
    · replace hF7 := cneg hC11 hF7
      refine W.exit ?_
      obtain rfl := Option.some.inj hF7
      exact W.joinAt0 hK5  (einr hN7) (.nil) (.cons (i := 1) rfl (.cons (i := 3) rfl (.cons (i := 4) rfl (.nil)))) (fun wz hw => hw.pick [0] rfl)
  · -- behind
    rintro  rfl
    replace hF := elimL hF
    -- region 11: seq.go:52
    refine W.seqR fun Q20 hQ20 => ?_
    refine WL.q (Y.move (.pl rfl)) rfl ?_
    obtain ⟨r21, hr21, hF⟩ := bnd hF
    refine WL.step (WO.callM isGo51 (.nil) rfl (fun wz hw => alibkeep_crossed_ok (hr21) wz ) ?_)
    rintro ⟨A22, c23⟩ -
    obtain ⟨r24, hr24, hF⟩ := bnd hF
    refine WL.step (WO.callM isGo53 (.cons (.pl rfl) (.cons (.pl rfl) (.nil))) rfl (fun wz hw => local_Parts_ok (hr24) wz (SlIn.ofRow (fun _ => rfl) hw (i := 1) rfl) (SlIn.ofRow lenEvent hw (i := 0) rfl)) ?_)
    rintro ⟨A25, c26⟩ -
    refine WL.q (Y.move (.pl rfl)) rfl ?_
    refine WL.q (Y.extract (.pl rfl) rfl) rfl ?_
    refine WL.q (Y.extract (.pl rfl) rfl) rfl ?_
    refine WL.q (Y.assign (.pl rfl)) rfl ?_
    refine WL.q (Y.assign (.pl rfl)) rfl ?_
    refine WL.next hQ20 (.cons (i := 3) rfl (.cons (i := 4) rfl (.cons (i := 11) rfl (.cons (i := 12) rfl (.nil))))) ?_
    obtain ⟨o21, hF21, hF⟩ := bnd hF
    refine W.join1 (Em := fun (v27 : Bool) => [(0, .bool v27)]) (M := fun v27 => []) (I := fun v27 => v27 = o21) (.nil) (fun K22 hK22 => ?_) ?_
    · -- up to
      -- region 12: seq.go:53
      refine W.reg ?_
      obtain ⟨r28, hr28, hF21⟩ := bnd hF21
      refine WL.step (WO.callP isGo47 (.nil) rfl (fun wz hw => alibkeep_seqLives_ok (hr28) wz ) ?_)
      refine WL.q (Y.move (.pl rfl)) rfl ?_
      refine WL.g (.pl rfl rfl rfl) (fun hg => Y.move (.pl rfl)) rfl ?_
      refine WL.g (.pl rfl rfl rfl) (fun hg => Y.move (.pl rfl)) rfl ?_
      refine bsplit (r28 == true) (fun hg23 => ?_) (fun hg23 => ?_)
      · replace hF21 := cpos hg23 hF21
        refine WL.gd (.pl rfl rfl rfl) (hg23) ?_
        refine WL.step (WO.bsliceC (enc := (eI .i64)) (ys := ([r5.2.2, r24.2] : List Int)) Try.underlying88 bz29 (.cons (.gd (hg23) rfl) (.cons (.gd (hg23) rfl) (.nil))) rfl (fun _ => rfl) rfl rfl (by decide) (by decide) rfl fun b29 => ?_)
        refine WL.gd (.pl rfl rfl rfl) (hg23) ?_
        obtain ⟨r30, hr30, hF21⟩ := bnd hF21
        refine WL.step (WO.callP isGo28 (.cons (.pl rfl) (.nil)) rfl (fun wz hw => alibkeep_ok_ok (hr30) wz (SlIn.ofRow (fun _ => rfl) hw (i := 0) rfl)) ?_)
        refine WL.q (Y.and (.pl rfl) (fun _ => .pl rfl)) rfl ?_
        refine WL.q (Y.move (.pl rfl)) rfl ?_
        refine WL.g (.pl rfl rfl rfl) (fun hg => Y.move (.pl rfl)) rfl ?_
        refine WL.g (.pl rfl rfl rfl) (fun hg => Y.not (.gd (hg) rfl)) rfl ?_
        refine WL.q (Y.and (.pl rfl) (fun h2 => .gd (eqt h2) rfl)) rfl ?_
        refine WL.q (Y.move (.pl rfl)) rfl ?_
        refine WL.g (.pl rfl rfl rfl) (fun hg => Y.move (.pl rfl)) rfl ?_
        refine bsplit (((r28 && r30) && (!r5.2.1)) == true) (fun hg24 => ?_) (fun hg24 => ?_)
        · replace hF21 := cpos hg24 hF21
          refine WL.gd (.pl rfl rfl rfl) (hg24) ?_
          refine WL.step (WO.bsliceC (enc := eB) (ys := ([false, false] : List Bool)) Try.underlying73 bz4 (.cons (.pl rfl) (.cons (.pl rfl) (.nil))) rfl (fun _ => rfl) rfl rfl (by decide) (by decide) rfl fun b31 => ?_)
          refine WL.gd (.pl rfl rfl rfl) (hg24) ?_
          obtain ⟨r32, hr32, hF21⟩ := bnd hF21
          refine WL.step (WO.callP isGo54 (.cons (.gd (hg24) rfl) (.cons (.pl rfl) (.nil))) rfl (fun wz hw => slices_Equal_bool_bool_ok (hr32) wz (SlIn.ofRow (fun _ => rfl) hw (i := 2) rfl) (SlIn.ofRow (fun _ => rfl) hw (i := 0) rfl)) ?_)
          refine WL.q (Y.and (.pl rfl) (fun _ => .pl rfl)) rfl ?_
          refine WL.q (Y.assign (.pl rfl)) rfl ?_
          refine WL.nil ?_
          exact W.joinAt1 hK22 (((r28 && r30) && (!r5.2.1)) && r32) (Option.some.inj hF21) (.cons rfl (.nil)) (.nil) (fun wz hw => hw.pick [] rfl)
        · replace hF21 := cneg hg24 hF21
          refine WL.gn (.pl rfl rfl rfl) hg24 rfl ?_
          refine WL.gn (.pl rfl rfl rfl) hg24 rfl ?_
          refine WL.q (Y.and (b := false) (.pl rfl) (fun h2 => (gabsA hg24 h2).elim)) rfl ?_
          refine WL.q (Y.assign (.pl rfl)) rfl ?_
          refine WL.nil ?_
          exact W.joinAt1 hK22 (((r28 && r30) && (!r5.2.1)) && false) (Option.some.inj hF21) (.cons rfl (.nil)) (.nil) (fun wz hw => hw.pick [] rfl)
      · replace hF21 := cneg hg23 hF21
        refine WL.gn (.pl rfl rfl rfl) hg23 rfl ?_
        refine WL.gn (.pl rfl rfl rfl) hg23 rfl ?_
        refine WL.q (Y.and (b := false) (.pl rfl) (fun h2 => (gabsA hg23 h2).elim)) rfl ?_
        refine WL.q (Y.move (.pl rfl)) rfl ?_
        refine WL.g (.pl rfl rfl rfl) (fun hg => Y.move (.pl rfl)) rfl ?_
        refine WL.g (.pl rfl rfl rfl) (fun hg => Y.not (.gd (hg) rfl)) rfl ?_
        refine WL.q (Y.and (.pl rfl) (fun h2 => .gd (eqt h2) rfl)) rfl ?_
        refine WL.q (Y.move (.pl rfl)) rfl ?_
        refine WL.g (.pl rfl rfl rfl) (fun hg => Y.move (.pl rfl)) rfl ?_
        refine bsplit (((r28 && false) && (!r5.2.1)) == true) (fun hg25 => ?_) (fun hg25 => ?_)
        · replace hF21 := cpos hg25 hF21
          refine WL.gd (.pl rfl rfl rfl) (hg25) ?_
          refine WL.step (WO.bsliceC (enc := eB) (ys := ([false, false] : List Bool)) Try.underlying73 bz4 (.cons (.pl rfl) (.cons (.pl rfl) (.nil))) rfl (fun _ => rfl) rfl rfl (by decide) (by decide) rfl fun b33 => ?_)
          refine WL.gd (.pl rfl rfl rfl) (hg25) ?_
          obtain ⟨r34, hr34, hF21⟩ := bnd hF21
          refine WL.step (WO.callP isGo54 (.cons (.gd (hg25) rfl) (.cons (.pl rfl) (.nil))) rfl (fun wz hw => slices_Equal_bool_bool_ok (hr34) wz (SlIn.ofRow (fun _ => rfl) hw (i := 1) rfl) (SlIn.ofRow (fun _ => rfl) hw (i := 0) rfl)) ?_)
          refine WL.q (Y.and (.pl rfl) (fun _ => .pl rfl)) rfl ?_
          refine WL.q (Y.assign (.pl rfl)) rfl ?_
          refine WL.nil ?_
          exact W.joinAt1 hK22 (((r28 && false) && (!r5.2.1)) && r34) (Option.some.inj hF21) (.cons rfl (.nil)) (.nil) (fun wz hw => hw.pick [] rfl)
        · replace hF21 := cneg hg25 hF21
          refine WL.gn (.pl rfl rfl rfl) hg25 rfl ?_
          refine WL.gn (.pl rfl rfl rfl) hg25 rfl ?_
          refine WL.q (Y.and (b := false) (.pl rfl) (fun h2 => (gabsA hg25 h2).elim)) rfl ?_
          refine WL.q (Y.assign (.pl rfl)) rfl ?_
          refine WL.nil ?_
          exact W.joinAt1 hK22 (((r28 && false) && (!r5.2.1)) && false) (Option.some.inj hF21) (.cons rfl (.nil)) (.nil) (fun wz hw => hw.pick [] rfl)
    · -- behind
      rintro v27 rfl
      obtain rfl := Option.some.inj hF
      refine W.retV (fn := Try.f17) (vs := [.bool v27]) Try.results17 ⟨.tmp rfl, trivial⟩ (fun _ _ h => h) (fun wz hw => ?_)
      exact hR _ _ ⟨rfl, (hw.pick [] rfl)⟩

end Go.Proofs.Ytpakplmpihhmbaa
