/- LocalWhole: what the code computes, and the walk. -/
import Derived.Test.YtpakplmpihhmbaaLA1
set_option linter.unusedVariables false
set_option linter.unusedSimpArgs false
set_option linter.unusedSectionVars false
set_option maxRecDepth 100000
namespace Go.Proofs.Ytpakplmpihhmbaa
open Go.RowKit
theorem cells4 : Try.prog.cellsOf 4 = 0 + 1 := by kernel_rfl
theorem isGo28 : IsGo Try.prog 28 := ⟨_, Try.func28, by kernel_rfl, rfl⟩
theorem isGo34 : IsGo Try.prog 34 := ⟨_, Try.func34, by kernel_rfl, rfl⟩
theorem isGo52 : IsGo Try.prog 52 := ⟨_, Try.func52, by kernel_rfl, rfl⟩
theorem isGo53 : IsGo Try.prog 53 := ⟨_, Try.func53, by kernel_rfl, rfl⟩
theorem isGo54 : IsGo Try.prog 54 := ⟨_, Try.func54, by kernel_rfl, rfl⟩
theorem isGo57 : IsGo Try.prog 57 := ⟨_, Try.func57, by kernel_rfl, rfl⟩
theorem isGo79 : IsGo Try.prog 79 := ⟨_, Try.func79, by kernel_rfl, rfl⟩
theorem isGo80 : IsGo Try.prog 80 := ⟨_, Try.func80, by kernel_rfl, rfl⟩
theorem bz4 : ∃ i, Try.prog.info? 4 = some i ∧ i.zero = some (Value.bool false) ∧ i.size = 1 := ⟨_, rfl, by kernel_rfl, by kernel_rfl⟩
theorem bz29 : ∃ i, Try.prog.info? 29 = some i ∧ i.zero = some (Value.int .i64 0) ∧ i.size = 1 := ⟨_, rfl, by kernel_rfl, by kernel_rfl⟩
theorem bz44 : ∃ i, Try.prog.info? 44 = some i ∧ i.zero = some (Value.slice none 0 0) ∧ i.size = 1 := ⟨_, rfl, by kernel_rfl, by kernel_rfl⟩
theorem bz49 : ∃ i, Try.prog.info? 49 = some i ∧ i.zero = some (Value.agg #[(Value.int .i64 0), (Value.int .i64 0), (Value.int .i64 0), (Value.int .i64 0)]) ∧ i.size = 4 := ⟨_, rfl, by kernel_rfl, by kernel_rfl⟩
theorem ap4 : ∃ i z, Try.prog.info? 4 = some i ∧ i.zero = some z ∧ i.size = 1 ∧ i.bytes = 1 ∧ z.cells.size = 1 ∧ 0 < 1 := ⟨_, (Value.bool false), rfl, by kernel_rfl, by kernel_rfl, by kernel_rfl, by kernel_rfl, by decide⟩
theorem ap44 : ∃ i z, Try.prog.info? 44 = some i ∧ i.zero = some z ∧ i.size = 1 ∧ i.bytes = 24 ∧ z.cells.size = 1 ∧ 0 < 1 := ⟨_, (Value.slice none 0 0), rfl, by kernel_rfl, by kernel_rfl, by kernel_rfl, by kernel_rfl, by decide⟩
theorem ap49 : ∃ i z, Try.prog.info? 49 = some i ∧ i.zero = some z ∧ i.size = 4 ∧ i.bytes = 32 ∧ z.cells.size = 4 ∧ 0 < 4 := ⟨_, (Value.agg #[(Value.int .i64 0), (Value.int .i64 0), (Value.int .i64 0), (Value.int .i64 0)]), rfl, by kernel_rfl, by kernel_rfl, by kernel_rfl, by kernel_rfl, by decide⟩
theorem shape49 : Shape Try.prog 49 [(0, 1), (1, 1), (2, 1), (3, 1)] #[(Value.int .i64 0), (Value.int .i64 0), (Value.int .i64 0), (Value.int .i64 0)] := ⟨_, _, Value.agg #[(Value.int .i64 0), (Value.int .i64 0), (Value.int .i64 0), (Value.int .i64 0)], Try.underlying49, rfl, by kernel_rfl, rfl, by kernel_rfl, by decide⟩
def history_Part_L3 (N : Nat) (l6 : (List Event)) (thing11 : Int) : ((List Event) × Int) → Option (((List Event) × Int) ⊕ (List Event))
  | (out20, v21) =>
    cond (decide (v21 < ((l6).length : Int)))
      (bd (ix l6 v21) fun (x22 : Event) =>
      cond (decide (x22.thing = thing11))
        (ck (limB 32 ((out20).length + (([x22] : List Event)).length)) <|
        ck (ok64 (v21 + 1)) <|
        some (.inl ((out20 ++ ([x22] : List Event)), (v21 + 1))))
        (ck (ok64 (v21 + 1)) <|
        some (.inl (out20, (v21 + 1)))))
      (some (.inr out20))

def history_Part (N : Nat) (types1 : (List Int)) (l6 : (List Event)) (thing11 : Int) : Option ((List Event) × Int) :=
  bd (history_Calls N types1 l6) fun (r12 : ((List Call) × Int × Int)) =>
  cond (!(decide (r12.2.2 = 0)))
    (some ([], r12.2.2))
    (cond ((decide (thing11 < 0)) || (decide (((types1).length : Int) ≤ thing11)))
      (some ([], 4))
      (bd (α := (List Event)) (iter (history_Part_L3 N l6 thing11) N ([], 0)) <|
      fun (out17 : (List Event)) => 
        some (out17, 0)))

theorem history_Part_ok {N : Nat} {types1 : (List Int)} {l6 : (List Event)} {thing11 : Int} {res : ((List Event) × Int)} (hF : history_Part N types1 l6 thing11 = some res) (w : World) {v5 : Value} (hs4 : SlIn (eI .i64) 1 w v5 types1) {v10 : Value} (hs9 : SlIn encEvent 4 w v10 l6) :
    Made Try.prog 52 [v5, v10, .int .i64 thing11] w (fun g : (Option Addr × Nat) => .tuple #[.slice g.1 (res.1).length g.2, .int .i64 res.2]) (fun g => [cR encEvent 4 g.1 g.2 49 res.1]) (fun g => True) := by
  obtain ⟨A2, c3, rfl, hcc3, hs4⟩ := hs4.form
  obtain ⟨A7, c8, rfl, hcc8, hs9⟩ := hs9.form
  refine W.enter (n := 48) Try.func52 rfl rfl Sub.refl (by simp) (St.start w) fun R hR => ?_
  unfold history_Part at hF
  refine W.seqR fun Q1 hQ1 => ?_
  refine WL.q (Y.assign (.pl rfl)) rfl ?_
  refine WL.q (Y.assign (.pl rfl)) rfl ?_
  refine WL.next hQ1 (.cons (i := 0) rfl (.cons (i := 1) rfl (.cons (i := 2) rfl (.nil)))) ?_
  refine W.seq fun K2 hK2 => ?_
  refine W.seqR fun Q3 hQ3 => ?_
  refine WL.q (Y.move (.pl rfl)) rfl ?_
  refine WL.q (Y.move (.pl rfl)) rfl ?_
  obtain ⟨r12, hr12, hF⟩ := bnd hF
  refine WL.step (WO.callM isGo37 (.cons (.pl rfl) (.cons (.pl rfl) (.nil))) rfl (fun wz hw => history_Calls_ok (hr12) wz (hs4.mono hw) (hs9.mono hw)) ?_)
  rintro ⟨A13, c14⟩ -
  refine WL.q (Y.move (.pl rfl)) rfl ?_
  refine WL.q (Y.extract (.pl rfl) rfl) rfl ?_
  refine WL.q (Y.extract (.pl rfl) rfl) rfl ?_
  refine WL.q (Y.extract (.pl rfl) rfl) rfl ?_
  refine WL.q (Y.assign (.pl rfl)) rfl ?_
  refine WL.q (Y.assign (.pl rfl)) rfl ?_
  refine WL.q (Y.assign (.pl rfl)) rfl ?_
  refine WL.next hQ3 (.cons (i := 0) rfl (.cons (i := 1) rfl (.cons (i := 2) rfl (.cons (i := 10) rfl (.nil))))) ?_
  refine W.seqR fun Q4 hQ4 => ?_
  refine WL.q (Y.move (.pl rfl)) rfl ?_
  refine WL.q (Y.neq (.pl rfl) (.pl rfl)) rfl ?_
  refine WL.next hQ4 (.cons (i := 0) rfl (.cons (i := 1) rfl (.cons (i := 2) rfl (.cons (i := 10) rfl (.cons (i := 22) rfl (.nil)))))) ?_
  refine W.cond (.pl rfl) (fun hC5 => ?_) (fun hC5 => ?_)
  · replace hF := cpos hC5 hF
    refine W.seqR fun Q6 hQ6 => ?_
    refine WL.q (Y.move (.pl rfl)) rfl ?_
    refine WL.q (Y.assign (.pl rfl)) rfl ?_
    refine WL.q (Y.assign (.pl rfl)) rfl ?_
    refine WL.next hQ6 (.cons (i := 6) rfl (.cons (i := 7) rfl (.nil))) ?_
    obtain rfl := Option.some.inj hF
    refine W.retV (fn := Try.f52) (vs := [.slice none 0 0, .int .i64 r12.2.2]) Try.results52 ⟨.tmp rfl, ⟨.tmp rfl, trivial⟩⟩ (fun _ _ h => h) (fun wz hw => ?_)
    exact hR _ _ ⟨(none, 0), trivial, rfl, ((St.nilR (hw.pick [] rfl) encEvent 4 49).pick [0] rfl)⟩
  · replace hF := cneg hC5 hF
    refine W.skip ?_
    refine W.go hK2 (.cons (i := 0) rfl (.cons (i := 1) rfl (.cons (i := 2) rfl (.nil)))) ?_
    refine W.seq fun K7 hK7 => ?_
    refine W.seqR fun Q8 hQ8 => ?_
    refine WL.q (Y.move (.pl rfl)) rfl ?_
    refine WL.q (Y.lss (.pl rfl) (.pl rfl)) rfl ?_
    refine WL.q (Y.move (.pl rfl)) rfl ?_
    refine WL.g (.pl rfl rfl rfl) (fun hg => Y.move (.pl rfl)) rfl ?_
    refine WL.g (.pl rfl rfl rfl) (fun hg => Y.move (.pl rfl)) rfl ?_
    refine WL.g (.pl rfl rfl rfl) (fun hg => Y.len Try.underlying22 (.gd (hg) rfl)) rfl ?_
    refine WL.g (.pl rfl rfl rfl) (fun hg => Y.geq (.gd (hg) rfl) (.gd (hg) rfl)) rfl ?_
    refine WL.q (Y.or (.pl rfl) (fun h2 => .gd (eqf h2) rfl)) rfl ?_
    refine WL.next hQ8 (.cons (i := 1) rfl (.cons (i := 2) rfl (.cons (i := 31) rfl (.nil)))) ?_
    refine W.cond (.pl rfl) (fun hC9 => ?_) (fun hC9 => ?_)
    · replace hF := cpos hC9 hF
      refine W.seqR fun Q10 hQ10 => ?_
      refine WL.q (Y.assign (.pl rfl)) rfl ?_
      refine WL.q (Y.assign (.pl rfl)) rfl ?_
      refine WL.next hQ10 (.cons (i := 6) rfl (.cons (i := 7) rfl (.nil))) ?_
      obtain rfl := Option.some.inj hF
      refine W.retV (fn := Try.f52) (vs := [.slice none 0 0, .int .i64 4]) Try.results52 ⟨.tmp rfl, ⟨.tmp rfl, trivial⟩⟩ (fun _ _ h => h) (fun wz hw => ?_)
      exact hR _ _ ⟨(none, 0), trivial, rfl, ((St.nilR (hw.pick [] rfl) encEvent 4 49).pick [0] rfl)⟩
    · replace hF := cneg hC9 hF
      refine W.skip ?_
      refine W.go hK7 (.cons (i := 1) rfl (.cons (i := 2) rfl (.nil))) ?_
      refine W.seqR fun Q11 hQ11 => ?_
      refine WL.q (Y.assign (.pl rfl)) rfl ?_
      refine WL.next hQ11 (.cons (i := 1) rfl (.cons (i := 2) rfl (.cons (i := 11) rfl (.nil)))) ?_
      obtain ⟨o12, hF12, hF⟩ := bnd hF
      refine W.join3 (Em := fun (out17 : (List Event)) (A15 : Option Addr) (c16 : Nat) => [(11, .slice A15 (out17).length c16)]) (M := fun out17 A15 c16 => [cR encEvent 4 A15 c16 49 out17]) (I := fun out17 A15 c16 => out17 = o12) (.nil) (fun K13 hK13 => ?_) ?_
      · -- up to
        refine W.seqR fun Q14 hQ14 => ?_
        refine WL.q (Y.move (.pl rfl)) rfl ?_
        refine WL.q (Y.len Try.underlying43 (.pl rfl)) rfl ?_
        refine WL.q (Y.move (.pl rfl)) rfl ?_
        refine WL.next hQ14 (.cons (i := 2) rfl (.cons (i := 11) rfl (.cons (i := 32) rfl (.cons (i := 33) rfl (.cons (i := 34) rfl (.nil)))))) ?_
        refine W.block ?_
        refine W.loop4 (Em := fun (out20 : (List Event)) (v21 : Int) (A18 : Option Addr) (c19 : Nat) => [(11, .slice A18 (out20).length c19), (34, .int .i64 v21)]) (M := fun out20 v21 A18 c19 => [cR encEvent 4 A18 c19 49 out20]) (I := fun out20 v21 A18 c19 k15 => iter (history_Part_L3 N l6 thing11) k15 (out20, v21) = some o12) [] 0 none 0 N (hF12) (.cons rfl (.cons rfl (.nil))) (.cons (i := 2) rfl (.cons (i := 32) rfl (.cons (i := 33) rfl (.nil)))) (fun wz hw => (St.nilR (hw.pick [] rfl) encEvent 4 49).pick [0] rfl) (fun out20 v21 A18 c19 k15 hI K16 hK16 => ?_)
        obtain ⟨k15, t15, rfl, hF15, hN15⟩ := iter_step hI
        refine W.seqR fun Q17 hQ17 => ?_
        refine WL.q (Y.lss (.pl rfl) (.pl rfl)) rfl ?_
        refine WL.next hQ17 (.cons (i := 2) rfl (.cons (i := 11) rfl (.cons (i := 32) rfl (.cons (i := 33) rfl (.cons (i := 34) rfl (.cons (i := 35) rfl (.nil))))))) ?_
        refine W.seq fun K18 hK18 => ?_
        refine W.cond (.pl rfl) (fun hC19 => ?_) (fun hC19 => ?_)
        · replace hF15 := cpos hC19 hF15
          refine W.skip ?_
          refine W.go hK18 (.cons (i := 2) rfl (.cons (i := 11) rfl (.cons (i := 32) rfl (.cons (i := 33) rfl (.cons (i := 34) rfl (.nil)))))) ?_
          refine W.seq fun K20 hK20 => ?_
          refine W.block ?_
          refine W.seqR fun Q21 hQ21 => ?_
          obtain ⟨x22, hx22, hF15⟩ := bnd hF15
          refine WL.q (Y.slEl Try.underlying43 cells49 hs9 (.pl rfl) (.pl rfl) (ix_lt (hx22))) rfl ?_
          refine WL.q (Y.loadSA (enc := encEvent) (ds := (encEvent x22)) (j := 0) Try.underlying49 rfl cells49 hs9 (.pl rfl) (hx22) rfl rfl subW) rfl ?_
          refine WL.step (WO.alloc (cs := (encEvent (Event.mk 0 0 0 0)).toArray) zero49 rfl rfl fun b23 => ?_)
          refine WL.step (WO.storeBA (ds := (encEvent x22)) (cs' := (encEvent x22)) cells49 (.pl rfl) (.pl rfl) rfl (oneEvent _) (i := 0) rfl (lel (o := 0) (l := 4) (m := 4) (by decide) rfl rfl) (putW rfl) ?_)
          refine WL.next hQ21 (.cons (i := 2) rfl (.cons (i := 11) rfl (.cons (i := 13) rfl (.cons (i := 32) rfl (.cons (i := 33) rfl (.cons (i := 34) rfl (.nil))))))) ?_
          refine W.seqR fun Q22 hQ22 => ?_
          refine WL.q (Y.fieldAddr0 (off := 1) (ft := 3) Try.underlying49 rfl cells3 (.pl rfl)) rfl ?_
          refine WL.q (Y.loadB (v := .int .i64 x22.thing) Try.underlying3 rfl (.pl rfl) (i := 0) rfl (rfl)) rfl ?_
          refine WL.q (Y.move (.pl rfl)) rfl ?_
          refine WL.q (Y.eql (.pl rfl) (.pl rfl)) rfl ?_
          refine WL.next hQ22 (.cons (i := 2) rfl (.cons (i := 11) rfl (.cons (i := 13) rfl (.cons (i := 32) rfl (.cons (i := 33) rfl (.cons (i := 34) rfl (.cons (i := 41) rfl (.nil)))))))) ?_
          refine W.cond (.pl rfl) (fun hC23 => ?_) (fun hC23 => ?_)
          · replace hF15 := cpos hC23 hF15
            refine W.reg ?_
            refine WL.q (Y.move (.pl rfl)) rfl ?_
            refine WL.q (Y.loadBA (ds := (encEvent x22)) Try.underlying49 rfl cells49 (.pl rfl) (i := 0) rfl rfl subW) rfl ?_
            refine WL.step (WO.bsliceC (enc := encEvent) (ys := ([x22] : List Event)) Try.underlying43 bz49 (.cons (.pl rfl) (.nil)) rfl lenEvent rfl rfl (by decide) (by decide) rfl fun b24 => ?_)
            obtain ⟨hk27, hF15⟩ := ckh hF15
            refine WL.step (WO.appendC (enc := encEvent) Try.underlying43 ap49 lenEvent oneEvent (.pl rfl) rfl (.pl rfl) (i := 2) rfl (m2 := 0) rfl (hk27) rfl fun A25 c26 => ?_)
            refine WL.q (Y.assign (.pl rfl)) rfl ?_
            refine WL.nil ?_
            refine W.go hK20 (.cons (i := 2) rfl (.cons (i := 11) rfl (.cons (i := 32) rfl (.cons (i := 33) rfl (.cons (i := 34) rfl (.nil)))))) ?_
            refine W.reg ?_
            obtain ⟨hk28, hF15⟩ := ckh hF15
            refine WL.q (Y.add (.pl rfl) (.pl rfl) (ok64_lt (hk28))) rfl ?_
            refine WL.q (Y.move (.pl rfl)) rfl ?_
            refine WL.nil ?_
            obtain rfl := Option.some.inj hF15
            exact W.again4 hK16 (out20 ++ ([x22] : List Event)) (v21 + 1) A25 c26 k15 hN15 (Nat.lt_succ_self _) (.cons rfl (.cons rfl (.nil))) (.cons (i := 2) rfl (.cons (i := 32) rfl (.cons (i := 33) rfl (.nil)))) (fun wz hw => hw.pick [2] rfl)
          · replace hF15 := cneg hC23 hF15
            refine W.skip ?_
            refine W.go hK20 (.cons (i := 2) rfl (.cons (i := 11) rfl (.cons (i := 32) rfl (.cons (i := 33) rfl (.cons (i := 34) rfl (.nil)))))) ?_
            refine W.reg ?_
            obtain ⟨hk29, hF15⟩ := ckh hF15
            refine WL.q (Y.add (.pl rfl) (.pl rfl) (ok64_lt (hk29))) rfl ?_
            refine WL.q (Y.move (.pl rfl)) rfl ?_
            refine WL.nil ?_
            obtain rfl := Option.some.inj hF15
            exact W.again4 hK16 out20 (v21 + 1) A18 c19 k15 hN15 (Nat.lt_succ_self _) (.cons rfl (.cons rfl (.nil))) (.cons (i := 2) rfl (.cons (i := 32) rfl (.cons (i := 33) rfl (.nil)))) (fun wz hw => hw.pick [1] rfl)
        · replace hF15 := cneg hC19 hF15
          refine W.exit ?_
          obtain rfl := Option.some.inj hF15
          exact W.joinAt3 hK13 out20 A18 c19 (einr hN15) (.cons rfl (.nil)) (.nil) (fun wz hw => hw.pick [0] rfl)
      · -- behind
        rintro out17 A15 c16 rfl
        refine W.seqR fun Q27 hQ27 => ?_
        refine WL.q (Y.move (.pl rfl)) rfl ?_
        refine WL.q (Y.assign (.pl rfl)) rfl ?_
        refine WL.q (Y.assign (.pl rfl)) rfl ?_
        refine WL.next hQ27 (.cons (i := 6) rfl (.cons (i := 7) rfl (.nil))) ?_
        obtain rfl := Option.some.inj hF
        refine W.retV (fn := Try.f52) (vs := [.slice A15 (out17).length c16, .int .i64 0]) Try.results52 ⟨.tmp rfl, ⟨.tmp rfl, trivial⟩⟩ (fun _ _ h => h) (fun wz hw => ?_)
        exact hR _ _ ⟨(A15, c16), trivial, rfl, (hw.pick [0] rfl)⟩

def local_find (N : Nat) (types1 : (List Int)) (l6 : (List Event)) (thing11 : Int) : Option ((List Step) × Bool) :=
  bd (history_Part N types1 l6 thing11) fun (r12 : ((List Event) × Int)) =>
  bd (search_Find N types1 r12.1) fun (r15 : ((List Step) × Bool × Int)) =>
  some (r15.1, r15.2.1)

theorem local_find_ok {N : Nat} {types1 : (List Int)} {l6 : (List Event)} {thing11 : Int} {res : ((List Step) × Bool)} (hF : local_find N types1 l6 thing11 = some res) (w : World) {v5 : Value} (hs4 : SlIn (eI .i64) 1 w v5 types1) {v10 : Value} (hs9 : SlIn encEvent 4 w v10 l6) :
    Made Try.prog 80 [v5, v10, .int .i64 thing11] w (fun g : (Option Addr × Nat) => .tuple #[.slice g.1 (res.1).length g.2, .bool res.2]) (fun g => [cR encStep 2 g.1 g.2 58 res.1]) (fun g => True) := by
  obtain ⟨A2, c3, rfl, hcc3, hs4⟩ := hs4.form
  obtain ⟨A7, c8, rfl, hcc8, hs9⟩ := hs9.form
  refine W.enter (n := 29) Try.func80 rfl rfl Sub.refl (by simp) (St.start w) fun R hR => ?_
  unfold local_find at hF
  refine W.seqR fun Q1 hQ1 => ?_
  refine WL.q (Y.assign (.pl rfl)) rfl ?_
  refine WL.q (Y.assign (.pl rfl)) rfl ?_
  refine WL.next hQ1 (.cons (i := 0) rfl (.cons (i := 1) rfl (.cons (i := 2) rfl (.nil)))) ?_
  refine W.seqR fun Q2 hQ2 => ?_
  refine WL.q (Y.move (.pl rfl)) rfl ?_
  refine WL.q (Y.move (.pl rfl)) rfl ?_
  refine WL.q (Y.move (.pl rfl)) rfl ?_
  obtain ⟨r12, hr12, hF⟩ := bnd hF
  refine WL.step (WO.callM isGo52 (.cons (.pl rfl) (.cons (.pl rfl) (.cons (.pl rfl) (.nil)))) rfl (fun wz hw => history_Part_ok (hr12) wz (hs4.mono hw) (hs9.mono hw)) ?_)
  rintro ⟨A13, c14⟩ -
  refine WL.q (Y.move (.pl rfl)) rfl ?_
  refine WL.q (Y.extract (.pl rfl) rfl) rfl ?_
  refine WL.q (Y.extract (.pl rfl) rfl) rfl ?_
  refine WL.q (Y.assign (.pl rfl)) rfl ?_
  refine WL.q (Y.assign (.pl rfl)) rfl ?_
  refine WL.next hQ2 (.cons (i := 0) rfl (.cons (i := 8) rfl (.nil))) ?_
  refine W.seqR fun Q3 hQ3 => ?_
  refine WL.q (Y.move (.pl rfl)) rfl ?_
  refine WL.q (Y.move (.pl rfl)) rfl ?_
  obtain ⟨r15, hr15, hF⟩ := bnd hF
  refine WL.step (WO.callM isGo34 (.cons (.pl rfl) (.cons (.pl rfl) (.nil))) rfl (fun wz hw => search_Find_ok (hr15) wz (hs4.mono hw) (SlIn.ofRow lenEvent hw (i := 0) rfl)) ?_)
  rintro ⟨A16, c17⟩ -
  refine WL.q (Y.move (.pl rfl)) rfl ?_
  refine WL.q (Y.extract (.pl rfl) rfl) rfl ?_
  refine WL.q (Y.extract (.pl rfl) rfl) rfl ?_
  refine WL.q (Y.extract (.pl rfl) rfl) rfl ?_
  refine WL.q (Y.assign (.pl rfl)) rfl ?_
  refine WL.q (Y.assign (.pl rfl)) rfl ?_
  refine WL.q (Y.assign (.pl rfl)) rfl ?_
  refine WL.next hQ3 (.cons (i := 10) rfl (.cons (i := 11) rfl (.nil))) ?_
  refine W.seqR fun Q4 hQ4 => ?_
  refine WL.q (Y.move (.pl rfl)) rfl ?_
  refine WL.q (Y.move (.pl rfl)) rfl ?_
  refine WL.q (Y.assign (.pl rfl)) rfl ?_
  refine WL.q (Y.assign (.pl rfl)) rfl ?_
  refine WL.next hQ4 (.cons (i := 6) rfl (.cons (i := 7) rfl (.nil))) ?_
  obtain rfl := Option.some.inj hF
  refine W.retV (fn := Try.f80) (vs := [.slice A16 (r15.1).length c17, .bool r15.2.1]) Try.results80 ⟨.tmp rfl, ⟨.tmp rfl, trivial⟩⟩ (fun _ _ h => h) (fun wz hw => ?_)
  exact hR _ _ ⟨(A16, c17), trivial, rfl, (hw.pick [0] rfl)⟩

def local_Parts_L3 (N : Nat) (types1 : (List Int)) (l6 : (List Event)) : ((List Bool) × Int) → Option (((List Bool) × Int) ⊕ (List Bool))
  | (out19, v20) =>
    cond (decide (v20 < ((types1).length : Int)))
      (bd (local_find N types1 l6 v20) fun (r21 : ((List Step) × Bool)) =>
      ck (limB 1 ((out19).length + (([r21.2] : List Bool)).length)) <|
      ck (ok64 (v20 + 1)) <|
      some (.inl ((out19 ++ ([r21.2] : List Bool)), (v20 + 1))))
      (some (.inr out19))

def local_Parts (N : Nat) (types1 : (List Int)) (l6 : (List Event)) : Option ((List Bool) × Int) :=
  bd (local_check N types1 l6) fun (r11 : ((List Call) × Int)) =>
  cond (!(decide (r11.2 = 0)))
    (some ([], r11.2))
    (bd (α := (List Bool)) (iter (local_Parts_L3 N types1 l6) N ([], 0)) <|
    fun (out16 : (List Bool)) => 
      some (out16, 0))

theorem local_Parts_ok {N : Nat} {types1 : (List Int)} {l6 : (List Event)} {res : ((List Bool) × Int)} (hF : local_Parts N types1 l6 = some res) (w : World) {v5 : Value} (hs4 : SlIn (eI .i64) 1 w v5 types1) {v10 : Value} (hs9 : SlIn encEvent 4 w v10 l6) :
    Made Try.prog 53 [v5, v10] w (fun g : (Option Addr × Nat) => .tuple #[.slice g.1 (res.1).length g.2, .int .i64 res.2]) (fun g => [cR eB 1 g.1 g.2 4 res.1]) (fun g => True) := by
  obtain ⟨A2, c3, rfl, hcc3, hs4⟩ := hs4.form
  obtain ⟨A7, c8, rfl, hcc8, hs9⟩ := hs9.form
  refine W.enter (n := 39) Try.func53 rfl rfl Sub.refl (by simp) (St.start w) fun R hR => ?_
  unfold local_Parts at hF
  refine W.seqR fun Q1 hQ1 => ?_
  refine WL.q (Y.assign (.pl rfl)) rfl ?_
  refine WL.q (Y.assign (.pl rfl)) rfl ?_
  refine WL.next hQ1 (.cons (i := 0) rfl (.cons (i := 1) rfl (.nil))) ?_
  refine W.seq fun K2 hK2 => ?_
  refine W.seqR fun Q3 hQ3 => ?_
  refine WL.q (Y.move (.pl rfl)) rfl ?_
  refine WL.q (Y.move (.pl rfl)) rfl ?_
  obtain ⟨r11, hr11, hF⟩ := bnd hF
  refine WL.step (WO.callM isGo79 (.cons (.pl rfl) (.cons (.pl rfl) (.nil))) rfl (fun wz hw => local_check_ok (hr11) wz (hs4.mono hw) (hs9.mono hw)) ?_)
  rintro ⟨A12, c13⟩ -
  refine WL.q (Y.move (.pl rfl)) rfl ?_
  refine WL.q (Y.extract (.pl rfl) rfl) rfl ?_
  refine WL.q (Y.extract (.pl rfl) rfl) rfl ?_
  refine WL.q (Y.assign (.pl rfl)) rfl ?_
  refine WL.q (Y.assign (.pl rfl)) rfl ?_
  refine WL.next hQ3 (.cons (i := 0) rfl (.cons (i := 1) rfl (.cons (i := 7) rfl (.nil)))) ?_
  refine W.seqR fun Q4 hQ4 => ?_
  refine WL.q (Y.move (.pl rfl)) rfl ?_
  refine WL.q (Y.neq (.pl rfl) (.pl rfl)) rfl ?_
  refine WL.next hQ4 (.cons (i := 0) rfl (.cons (i := 1) rfl (.cons (i := 7) rfl (.cons (i := 19) rfl (.nil))))) ?_
  refine W.cond (.pl rfl) (fun hC5 => ?_) (fun hC5 => ?_)
  · replace hF := cpos hC5 hF
    refine W.seqR fun Q6 hQ6 => ?_
    refine WL.q (Y.move (.pl rfl)) rfl ?_
    refine WL.q (Y.assign (.pl rfl)) rfl ?_
    refine WL.q (Y.assign (.pl rfl)) rfl ?_
    refine WL.next hQ6 (.cons (i := 4) rfl (.cons (i := 5) rfl (.nil))) ?_
    obtain rfl := Option.some.inj hF
    refine W.retV (fn := Try.f53) (vs := [.slice none 0 0, .int .i64 r11.2]) Try.results53 ⟨.tmp rfl, ⟨.tmp rfl, trivial⟩⟩ (fun _ _ h => h) (fun wz hw => ?_)
    exact hR _ _ ⟨(none, 0), trivial, rfl, ((St.nilR (hw.pick [] rfl) eB 1 4).pick [0] rfl)⟩
  · replace hF := cneg hC5 hF
    refine W.skip ?_
    refine W.go hK2 (.cons (i := 0) rfl (.cons (i := 1) rfl (.nil))) ?_
    refine W.seqR fun Q7 hQ7 => ?_
    refine WL.q (Y.assign (.pl rfl)) rfl ?_
    refine WL.next hQ7 (.cons (i := 0) rfl (.cons (i := 1) rfl (.cons (i := 8) rfl (.nil)))) ?_
    obtain ⟨o8, hF8, hF⟩ := bnd hF
    refine W.join3 (Em := fun (out16 : (List Bool)) (A14 : Option Addr) (c15 : Nat) => [(8, .slice A14 (out16).length c15)]) (M := fun out16 A14 c15 => [cR eB 1 A14 c15 4 out16]) (I := fun out16 A14 c15 => out16 = o8) (.nil) (fun K9 hK9 => ?_) ?_
    · -- up to
      refine W.seqR fun Q10 hQ10 => ?_
      refine WL.q (Y.move (.pl rfl)) rfl ?_
      refine WL.q (Y.len Try.underlying22 (.pl rfl)) rfl ?_
      refine WL.q (Y.move (.pl rfl)) rfl ?_
      refine WL.next hQ10 (.cons (i := 0) rfl (.cons (i := 1) rfl (.cons (i := 8) rfl (.cons (i := 22) rfl (.cons (i := 23) rfl (.nil)))))) ?_
      refine W.block ?_
      refine W.loop4 (Em := fun (out19 : (List Bool)) (v20 : Int) (A17 : Option Addr) (c18 : Nat) => [(8, .slice A17 (out19).length c18), (23, .int .i64 v20)]) (M := fun out19 v20 A17 c18 => [cR eB 1 A17 c18 4 out19]) (I := fun out19 v20 A17 c18 k11 => iter (local_Parts_L3 N types1 l6) k11 (out19, v20) = some o8) [] 0 none 0 N (hF8) (.cons rfl (.cons rfl (.nil))) (.cons (i := 0) rfl (.cons (i := 1) rfl (.cons (i := 22) rfl (.nil)))) (fun wz hw => (St.nilR (hw.pick [] rfl) eB 1 4).pick [0] rfl) (fun out19 v20 A17 c18 k11 hI K12 hK12 => ?_)
      obtain ⟨k11, t11, rfl, hF11, hN11⟩ := iter_step hI
      refine W.seqR fun Q13 hQ13 => ?_
      refine WL.q (Y.lss (.pl rfl) (.pl rfl)) rfl ?_
      refine WL.next hQ13 (.cons (i := 0) rfl (.cons (i := 1) rfl (.cons (i := 8) rfl (.cons (i := 22) rfl (.cons (i := 23) rfl (.cons (i := 24) rfl (.nil))))))) ?_
      refine W.seq fun K14 hK14 => ?_
      refine W.cond (.pl rfl) (fun hC15 => ?_) (fun hC15 => ?_)
      · replace hF11 := cpos hC15 hF11
        refine W.skip ?_
        refine W.go hK14 (.cons (i := 0) rfl (.cons (i := 1) rfl (.cons (i := 8) rfl (.cons (i := 22) rfl (.cons (i := 23) rfl (.nil)))))) ?_
        refine W.seq fun K16 hK16 => ?_
        refine W.block ?_
        refine W.seqR fun Q17 hQ17 => ?_
        refine WL.q (Y.move (.pl rfl)) rfl ?_
        refine WL.q (Y.assign (.pl rfl)) rfl ?_
        refine WL.next hQ17 (.cons (i := 0) rfl (.cons (i := 1) rfl (.cons (i := 8) rfl (.cons (i := 9) rfl (.cons (i := 22) rfl (.cons (i := 23) rfl (.nil))))))) ?_
        refine W.seqR fun Q18 hQ18 => ?_
        refine WL.q (Y.move (.pl rfl)) rfl ?_
        refine WL.q (Y.move (.pl rfl)) rfl ?_
        refine WL.q (Y.move (.pl rfl)) rfl ?_
        obtain ⟨r21, hr21, hF11⟩ := bnd hF11
        refine WL.step (WO.callM isGo80 (.cons (.pl rfl) (.cons (.pl rfl) (.cons (.pl rfl) (.nil)))) rfl (fun wz hw => local_find_ok (hr21) wz (hs4.mono hw) (hs9.mono hw)) ?_)
        rintro ⟨A22, c23⟩ -
        refine WL.q (Y.move (.pl rfl)) rfl ?_
        refine WL.q (Y.extract (.pl rfl) rfl) rfl ?_
        refine WL.q (Y.extract (.pl rfl) rfl) rfl ?_
        refine WL.q (Y.assign (.pl rfl)) rfl ?_
        refine WL.q (Y.assign (.pl rfl)) rfl ?_
        refine WL.next hQ18 (.cons (i := 0) rfl (.cons (i := 1) rfl (.cons (i := 8) rfl (.cons (i := 11) rfl (.cons (i := 22) rfl (.cons (i := 23) rfl (.nil))))))) ?_
        refine W.reg ?_
        refine WL.q (Y.move (.pl rfl)) rfl ?_
        refine WL.q (Y.move (.pl rfl)) rfl ?_
        refine WL.step (WO.bsliceC (enc := eB) (ys := ([r21.2] : List Bool)) Try.underlying73 bz4 (.cons (.pl rfl) (.nil)) rfl (fun _ => rfl) rfl rfl (by decide) (by decide) rfl fun b24 => ?_)
        obtain ⟨hk27, hF11⟩ := ckh hF11
        refine WL.step (WO.appendC (enc := eB) Try.underlying73 ap4 (fun _ => rfl) oneB (.pl rfl) rfl (.pl rfl) (i := 2) rfl (m2 := 0) rfl (hk27) rfl fun A25 c26 => ?_)
        refine WL.q (Y.assign (.pl rfl)) rfl ?_
        refine WL.nil ?_
        refine W.go hK16 (.cons (i := 0) rfl (.cons (i := 1) rfl (.cons (i := 8) rfl (.cons (i := 22) rfl (.cons (i := 23) rfl (.nil)))))) ?_
        refine W.reg ?_
        obtain ⟨hk28, hF11⟩ := ckh hF11
        refine WL.q (Y.add (.pl rfl) (.pl rfl) (ok64_lt (hk28))) rfl ?_
        refine WL.q (Y.move (.pl rfl)) rfl ?_
        refine WL.nil ?_
        obtain rfl := Option.some.inj hF11
        exact W.again4 hK12 (out19 ++ ([r21.2] : List Bool)) (v20 + 1) A25 c26 k11 hN11 (Nat.lt_succ_self _) (.cons rfl (.cons rfl (.nil))) (.cons (i := 0) rfl (.cons (i := 1) rfl (.cons (i := 22) rfl (.nil)))) (fun wz hw => hw.pick [2] rfl)
      · replace hF11 := cneg hC15 hF11
        refine W.exit ?_
        obtain rfl := Option.some.inj hF11
        exact W.joinAt3 hK9 out19 A17 c18 (einr hN11) (.cons rfl (.nil)) (.nil) (fun wz hw => hw.pick [0] rfl)
    · -- behind
      rintro out16 A14 c15 rfl
      refine W.seqR fun Q21 hQ21 => ?_
      refine WL.q (Y.move (.pl rfl)) rfl ?_
      refine WL.q (Y.assign (.pl rfl)) rfl ?_
      refine WL.q (Y.assign (.pl rfl)) rfl ?_
      refine WL.next hQ21 (.cons (i := 4) rfl (.cons (i := 5) rfl (.nil))) ?_
      obtain rfl := Option.some.inj hF
      refine W.retV (fn := Try.f53) (vs := [.slice A14 (out16).length c15, .int .i64 0]) Try.results53 ⟨.tmp rfl, ⟨.tmp rfl, trivial⟩⟩ (fun _ _ h => h) (fun wz hw => ?_)
      exact hR _ _ ⟨(A14, c15), trivial, rfl, (hw.pick [0] rfl)⟩

def local_Orders_L51 (N : Nat) (r30 : ((List Step) × Bool)) (r14 : (List (Int × (List Int)))) (v25 : Int) : ((List Step) × Int) → Option (((List Step) × Int) ⊕ (List Step))
  | (w34, v35) =>
    cond (decide (v35 < ((r30.1).length : Int)))
      (bd (ix w34 v35) fun (x36 : Step) =>
      bd (ix ((mget r14 v25).getD []) x36.call) fun (x37 : Int) =>
      ck (ok64 (v35 + 1)) <|
      some (.inl ((w34.set v35.toNat (Step.mk x37 x36.res)), (v35 + 1))))
      (some (.inr w34))

def local_Orders_L47 (N : Nat) (types1 : (List Int)) (l6 : (List Event)) (r14 : (List (Int × (List Int)))) : ((List (List Step)) × Int) → Option (((List (List Step)) × Int) ⊕ ((List (List Step)) ⊕ ((List (List Step)) × Int)))
  | (out23, v25) =>
    cond (decide (v25 < ((types1).length : Int)))
      (bd (α := ((List (List Step)) ⊕ ((List (List Step)) × Int))) (bd (local_find N types1 l6 v25) fun (r30 : ((List Step) × Bool)) =>
        cond (!r30.2)
          (some (.inr ([], 4)))
          (bd (α := (List Step)) (iter (local_Orders_L51 N r30 r14 v25) N (r30.1, 0)) <|
          fun (w33 : (List Step)) => 
            ck (limB 24 ((out23).length + (([w33] : List (List Step))).length)) <|
            some (.inl (out23 ++ ([w33] : List (List Step)))))) <|
      Sum.elim (fun (out28 : (List (List Step))) => 
        ck (ok64 (v25 + 1)) <|
        some (.inl (out28, (v25 + 1)))) (fun p => some (.inr (.inr p))))
      (some (.inr (.inl out23)))

def local_Orders (N : Nat) (types1 : (List Int)) (l6 : (List Event)) : Option ((List (List Step)) × Int) :=
  bd (local_check N types1 l6) fun (r11 : ((List Call) × Int)) =>
  cond (!(decide (r11.2 = 0)))
    (some ([], r11.2))
    (bd (local_numbers N r11.1) fun (r14 : (List (Int × (List Int)))) =>
    bd (α := ((List (List Step)) ⊕ ((List (List Step)) × Int))) (iter (local_Orders_L47 N types1 l6 r14) N ([], 0)) <|
    Sum.elim (fun (out19 : (List (List Step))) => 
      some (out19, 0)) (fun p => some p))

theorem local_Orders_ok {N : Nat} {types1 : (List Int)} {l6 : (List Event)} {res : ((List (List Step)) × Int)} (hF : local_Orders N types1 l6 = some res) (w : World) {v5 : Value} (hs4 : SlIn (eI .i64) 1 w v5 types1) {v10 : Value} (hs9 : SlIn encEvent 4 w v10 l6) :
    Made Try.prog 57 [v5, v10] w (fun g : (Option Addr × Nat × List Hd) => .tuple #[.slice g.1 (res.1).length g.2.1, .int .i64 res.2]) (fun g => [cN encSl (innSl encStep 2 58) 1 g.1 g.2.1 44 g.2.2 res.1]) (fun g => True) := by
  obtain ⟨A2, c3, rfl, hcc3, hs4⟩ := hs4.form
  obtain ⟨A7, c8, rfl, hcc8, hs9⟩ := hs9.form
  refine W.enter (n := 65) Try.func57 rfl rfl Sub.refl (by simp) (St.start w) fun R hR => ?_
  unfold local_Orders at hF
  refine W.seqR fun Q1 hQ1 => ?_
  refine WL.q (Y.assign (.pl rfl)) rfl ?_
  refine WL.q (Y.assign (.pl rfl)) rfl ?_
  refine WL.next hQ1 (.cons (i := 0) rfl (.cons (i := 1) rfl (.nil))) ?_
  refine W.seqR fun Q2 hQ2 => ?_
  refine WL.q (Y.move (.pl rfl)) rfl ?_
  refine WL.q (Y.move (.pl rfl)) rfl ?_
  obtain ⟨r11, hr11, hF⟩ := bnd hF
  refine WL.step (WO.callM isGo79 (.cons (.pl rfl) (.cons (.pl rfl) (.nil))) rfl (fun wz hw => local_check_ok (hr11) wz (hs4.mono hw) (hs9.mono hw)) ?_)
  rintro ⟨A12, c13⟩ -
  refine WL.q (Y.move (.pl rfl)) rfl ?_
  refine WL.q (Y.extract (.pl rfl) rfl) rfl ?_
  refine WL.q (Y.extract (.pl rfl) rfl) rfl ?_
  refine WL.q (Y.assign (.pl rfl)) rfl ?_
  refine WL.q (Y.assign (.pl rfl)) rfl ?_
  refine WL.next hQ2 (.cons (i := 0) rfl (.cons (i := 1) rfl (.cons (i := 6) rfl (.cons (i := 7) rfl (.nil))))) ?_
  refine W.seq fun K3 hK3 => ?_
  refine W.seqR fun Q4 hQ4 => ?_
  refine WL.q (Y.move (.pl rfl)) rfl ?_
  refine WL.q (Y.neq (.pl rfl) (.pl rfl)) rfl ?_
  refine WL.next hQ4 (.cons (i := 0) rfl (.cons (i := 1) rfl (.cons (i := 6) rfl (.cons (i := 7) rfl (.cons (i := 21) rfl (.nil)))))) ?_
  refine W.cond (.pl rfl) (fun hC5 => ?_) (fun hC5 => ?_)
  · replace hF := cpos hC5 hF
    refine W.seqR fun Q6 hQ6 => ?_
    refine WL.q (Y.move (.pl rfl)) rfl ?_
    refine WL.q (Y.assign (.pl rfl)) rfl ?_
    refine WL.q (Y.assign (.pl rfl)) rfl ?_
    refine WL.next hQ6 (.cons (i := 4) rfl (.cons (i := 5) rfl (.nil))) ?_
    obtain rfl := Option.some.inj hF
    refine W.retV (fn := Try.f57) (vs := [.slice none 0 0, .int .i64 r11.2]) Try.results57 ⟨.tmp rfl, ⟨.tmp rfl, trivial⟩⟩ (fun _ _ h => h) (fun wz hw => ?_)
    exact hR _ _ ⟨(none, 0, []), trivial, rfl, ((St.nilN (hw.pick [] rfl) encSl (innSl encStep 2 58) 1 44).pick [0] rfl)⟩
  · replace hF := cneg hC5 hF
    refine W.skip ?_
    refine W.go hK3 (.cons (i := 0) rfl (.cons (i := 1) rfl (.cons (i := 6) rfl (.nil)))) ?_
    refine W.seqR fun Q7 hQ7 => ?_
    refine WL.q (Y.move (.pl rfl)) rfl ?_
    obtain ⟨r14, hr14, hF⟩ := bnd hF
    refine WL.step (WO.callM isGo82 (.cons (.pl rfl) (.nil)) rfl (fun wz hw => local_numbers_ok (hr14) wz (SlIn.ofRow lenCall hw (i := 0) rfl)) ?_)
    rintro ⟨b15, hd16⟩ -
    refine WL.q (Y.assign (.pl rfl)) rfl ?_
    refine WL.next hQ7 (.cons (i := 0) rfl (.cons (i := 1) rfl (.cons (i := 8) rfl (.nil)))) ?_
    refine W.seqR fun Q8 hQ8 => ?_
    refine WL.q (Y.assign (.pl rfl)) rfl ?_
    refine WL.next hQ8 (.cons (i := 0) rfl (.cons (i := 1) rfl (.cons (i := 8) rfl (.cons (i := 9) rfl (.nil))))) ?_
    obtain ⟨o9, hF9, hF⟩ := bnd hF
    refine W.join4 (Em := fun (out19 : (List (List Step))) (A17 : Option Addr) (c18 : Nat) (hd20 : List Hd) => [(9, .slice A17 (out19).length c18)]) (M := fun out19 A17 c18 hd20 => [cN encSl (innSl encStep 2 58) 1 A17 c18 44 hd20 out19]) (I := fun out19 A17 c18 hd20 => (.inl out19) = o9) (.nil) (fun K10 hK10 => ?_) ?_
    · -- up to
      refine W.seqR fun Q11 hQ11 => ?_
      refine WL.q (Y.move (.pl rfl)) rfl ?_
      refine WL.q (Y.len Try.underlying22 (.pl rfl)) rfl ?_
      refine WL.q (Y.move (.pl rfl)) rfl ?_
      refine WL.next hQ11 (.cons (i := 0) rfl (.cons (i := 1) rfl (.cons (i := 8) rfl (.cons (i := 9) rfl (.cons (i := 26) rfl (.cons (i := 27) rfl (.nil))))))) ?_
      refine W.block ?_
      refine W.loop5 (Em := fun (out23 : (List (List Step))) (v25 : Int) (A21 : Option Addr) (c22 : Nat) (hd24 : List Hd) => [(9, .slice A21 (out23).length c22), (27, .int .i64 v25)]) (M := fun out23 v25 A21 c22 hd24 => [cMN (eI .i64) 1 3 b15 hd16 r14, cN encSl (innSl encStep 2 58) 1 A21 c22 44 hd24 out23]) (I := fun out23 v25 A21 c22 hd24 k12 => iter (local_Orders_L47 N types1 l6 r14) k12 (out23, v25) = some o9) [] 0 none 0 [] N (hF9) (.cons rfl (.cons rfl (.nil))) (.cons (i := 0) rfl (.cons (i := 1) rfl (.cons (i := 8) rfl (.cons (i := 26) rfl (.nil))))) (fun wz hw => (St.nilN (hw.pick [0] rfl) encSl (innSl encStep 2 58) 1 44).pick [1, 0] rfl) (fun out23 v25 A21 c22 hd24 k12 hI K13 hK13 => ?_)
      obtain ⟨k12, t12, rfl, hF12, hN12⟩ := iter_step hI
      refine W.seqR fun Q14 hQ14 => ?_
      refine WL.q (Y.lss (.pl rfl) (.pl rfl)) rfl ?_
      refine WL.next hQ14 (.cons (i := 0) rfl (.cons (i := 1) rfl (.cons (i := 8) rfl (.cons (i := 9) rfl (.cons (i := 26) rfl (.cons (i := 27) rfl (.cons (i := 28) rfl (.nil)))))))) ?_
      refine W.seq fun K15 hK15 => ?_
      refine W.cond (.pl rfl) (fun hC16 => ?_) (fun hC16 => ?_)
      · replace hF12 := cpos hC16 hF12
        refine W.skip ?_
        refine W.go hK15 (.cons (i := 0) rfl (.cons (i := 1) rfl (.cons (i := 8) rfl (.cons (i := 9) rfl (.cons (i := 26) rfl (.cons (i := 27) rfl (.nil))))))) ?_
        obtain ⟨o17, hF17, hF12⟩ := bnd hF12
        refine W.join4 (Em := fun (out28 : (List (List Step))) (A26 : Option Addr) (c27 : Nat) (hd29 : List Hd) => [(9, .slice A26 (out28).length c27)]) (M := fun out28 A26 c27 hd29 => [cMN (eI .i64) 1 3 b15 hd16 r14, cN encSl (innSl encStep 2 58) 1 A26 c27 44 hd29 out28]) (I := fun out28 A26 c27 hd29 => (.inl out28) = o17) (.cons (i := 0) rfl (.cons (i := 1) rfl (.cons (i := 8) rfl (.cons (i := 26) rfl (.cons (i := 27) rfl (.nil)))))) (fun K18 hK18 => ?_) ?_
        · -- up to
          refine W.block ?_
          refine W.seqR fun Q19 hQ19 => ?_
          refine WL.q (Y.move (.pl rfl)) rfl ?_
          refine WL.q (Y.assign (.pl rfl)) rfl ?_
          refine WL.next hQ19 (.cons (i := 0) rfl (.cons (i := 1) rfl (.cons (i := 8) rfl (.cons (i := 9) rfl (.cons (i := 10) rfl (.cons (i := 26) rfl (.cons (i := 27) rfl (.nil)))))))) ?_
          refine W.seqR fun Q20 hQ20 => ?_
          refine WL.q (Y.move (.pl rfl)) rfl ?_
          refine WL.q (Y.move (.pl rfl)) rfl ?_
          refine WL.q (Y.move (.pl rfl)) rfl ?_
          obtain ⟨r30, hr30, hF17⟩ := bnd hF17
          refine WL.step (WO.callM isGo80 (.cons (.pl rfl) (.cons (.pl rfl) (.cons (.pl rfl) (.nil)))) rfl (fun wz hw => local_find_ok (hr30) wz (hs4.mono hw) (hs9.mono hw)) ?_)
          rintro ⟨A31, c32⟩ -
          refine WL.q (Y.move (.pl rfl)) rfl ?_
          refine WL.q (Y.extract (.pl rfl) rfl) rfl ?_
          refine WL.q (Y.extract (.pl rfl) rfl) rfl ?_
          refine WL.q (Y.assign (.pl rfl)) rfl ?_
          refine WL.q (Y.assign (.pl rfl)) rfl ?_
          refine WL.next hQ20 (.cons (i := 0) rfl (.cons (i := 1) rfl (.cons (i := 8) rfl (.cons (i := 9) rfl (.cons (i := 10) rfl (.cons (i := 11) rfl (.cons (i := 12) rfl (.cons (i := 26) rfl (.cons (i := 27) rfl (.nil)))))))))) ?_
          refine W.seq fun K21 hK21 => ?_
          refine W.seqR fun Q22 hQ22 => ?_
          refine WL.q (Y.move (.pl rfl)) rfl ?_
          refine WL.q (Y.not (.pl rfl)) rfl ?_
          refine WL.next hQ22 (.cons (i := 0) rfl (.cons (i := 1) rfl (.cons (i := 8) rfl (.cons (i := 9) rfl (.cons (i := 10) rfl (.cons (i := 11) rfl (.cons (i := 26) rfl (.cons (i := 27) rfl (.cons (i := 38) rfl (.nil)))))))))) ?_
          refine W.cond (.pl rfl) (fun hC23 => ?_) (fun hC23 => ?_)
          · replace hF17 := cpos hC23 hF17
            refine W.seqR fun Q24 hQ24 => ?_
            refine WL.q (Y.assign (.pl rfl)) rfl ?_
            refine WL.q (Y.assign (.pl rfl)) rfl ?_
            refine WL.next hQ24 (.cons (i := 4) rfl (.cons (i := 5) rfl (.nil))) ?_
            obtain rfl := Option.some.inj hF17
            obtain rfl := Option.some.inj hF12
            obtain rfl := einr hN12
            obtain rfl := Option.some.inj hF
            refine W.retV (fn := Try.f57) (vs := [.slice none 0 0, .int .i64 4]) Try.results57 ⟨.tmp rfl, ⟨.tmp rfl, trivial⟩⟩ (fun _ _ h => h) (fun wz hw => ?_)
            exact hR _ _ ⟨(none, 0, []), trivial, rfl, ((St.nilN (hw.pick [] rfl) encSl (innSl encStep 2 58) 1 44).pick [0] rfl)⟩
          · replace hF17 := cneg hC23 hF17
            refine W.skip ?_
            refine W.go hK21 (.cons (i := 0) rfl (.cons (i := 1) rfl (.cons (i := 8) rfl (.cons (i := 9) rfl (.cons (i := 10) rfl (.cons (i := 11) rfl (.cons (i := 26) rfl (.cons (i := 27) rfl (.nil))))))))) ?_
            obtain ⟨o25, hF25, hF17⟩ := bnd hF17
            refine W.join1 (Em := fun (w33 : (List Step)) => [(11, .slice A31 (w33).length c32)]) (M := fun w33 => [cMN (eI .i64) 1 3 b15 hd16 r14, cN encSl (innSl encStep 2 58) 1 A21 c22 44 hd24 out23, cR encStep 2 A31 c32 58 w33]) (I := fun w33 => w33 = o25) (.cons (i := 0) rfl (.cons (i := 1) rfl (.cons (i := 8) rfl (.cons (i := 9) rfl (.cons (i := 26) rfl (.cons (i := 27) rfl (.nil))))))) (fun K26 hK26 => ?_) ?_
            · -- up to
              refine W.seqR fun Q27 hQ27 => ?_
              refine WL.q (Y.move (.pl rfl)) rfl ?_
              refine WL.q (Y.len Try.underlying44 (.pl rfl)) rfl ?_
              refine WL.q (Y.move (.pl rfl)) rfl ?_
              refine WL.next hQ27 (.cons (i := 0) rfl (.cons (i := 1) rfl (.cons (i := 8) rfl (.cons (i := 9) rfl (.cons (i := 10) rfl (.cons (i := 11) rfl (.cons (i := 26) rfl (.cons (i := 27) rfl (.cons (i := 40) rfl (.cons (i := 41) rfl (.nil))))))))))) ?_
              refine W.block ?_
              refine W.loop2 (Em := fun (w34 : (List Step)) (v35 : Int) => [(11, .slice A31 (w34).length c32), (41, .int .i64 v35)]) (M := fun w34 v35 => [cMN (eI .i64) 1 3 b15 hd16 r14, cN encSl (innSl encStep 2 58) 1 A21 c22 44 hd24 out23, cR encStep 2 A31 c32 58 w34]) (I := fun w34 v35 k28 => iter (local_Orders_L51 N r30 r14 v25) k28 (w34, v35) = some o25) r30.1 0 N (hF25) (.cons rfl (.cons rfl (.nil))) (.cons (i := 0) rfl (.cons (i := 1) rfl (.cons (i := 8) rfl (.cons (i := 9) rfl (.cons (i := 10) rfl (.cons (i := 26) rfl (.cons (i := 27) rfl (.cons (i := 40) rfl (.nil))))))))) (fun wz hw => hw.pick [1, 2, 0] rfl) (fun w34 v35 k28 hI K29 hK29 => ?_)
              obtain ⟨k28, t28, rfl, hF28, hN28⟩ := iter_step hI
              refine W.seqR fun Q30 hQ30 => ?_
              refine WL.q (Y.lss (.pl rfl) (.pl rfl)) rfl ?_
              refine WL.next hQ30 (.cons (i := 0) rfl (.cons (i := 1) rfl (.cons (i := 8) rfl (.cons (i := 9) rfl (.cons (i := 10) rfl (.cons (i := 11) rfl (.cons (i := 26) rfl (.cons (i := 27) rfl (.cons (i := 40) rfl (.cons (i := 41) rfl (.cons (i := 42) rfl (.nil)))))))))))) ?_
              refine W.seq fun K31 hK31 => ?_
              refine W.cond (.pl rfl) (fun hC32 => ?_) (fun hC32 => ?_)
              · replace hF28 := cpos hC32 hF28
                refine W.skip ?_
                refine W.go hK31 (.cons (i := 0) rfl (.cons (i := 1) rfl (.cons (i := 8) rfl (.cons (i := 9) rfl (.cons (i := 10) rfl (.cons (i := 11) rfl (.cons (i := 26) rfl (.cons (i := 27) rfl (.cons (i := 40) rfl (.cons (i := 41) rfl (.nil))))))))))) ?_
                refine W.seq fun K33 hK33 => ?_
                refine W.block ?_
                refine W.seqR fun Q34 hQ34 => ?_
                refine WL.q (Y.move (.pl rfl)) rfl ?_
                refine WL.q (Y.assign (.pl rfl)) rfl ?_
                refine WL.next hQ34 (.cons (i := 0) rfl (.cons (i := 1) rfl (.cons (i := 8) rfl (.cons (i := 9) rfl (.cons (i := 10) rfl (.cons (i := 11) rfl (.cons (i := 13) rfl (.cons (i := 26) rfl (.cons (i := 27) rfl (.cons (i := 40) rfl (.cons (i := 41) rfl (.nil)))))))))))) ?_
                refine W.regT 14 (by kernel_rfl) (by kernel_rfl) ?_
                refine WS.q (Y.move (.pl rfl)) rfl ?_
                refine WS.q (Y.move (.pl rfl)) rfl ?_
                refine WS.q (Y.move (.pl rfl)) rfl ?_
                refine WS.q (Y.move (.pl rfl)) rfl ?_
                refine WS.q (Y.mgetN (enc := (eI .i64)) (sz := 1) (E := 3) Try.underlying117 Try.underlying3 zero22 (.pl rfl) (.pl rfl) (i := 0) rfl) rfl ?_
                refine WS.q (Y.move (.pl rfl)) rfl ?_
                refine WS.q (Y.move (.pl rfl)) rfl ?_
                obtain ⟨x36, hx36, hF28⟩ := bnd hF28
                refine WS.q (Y.rowEl Try.underlying44 cells58 (i := 2) rfl (.pl rfl) rfl (.pl rfl) (ix_lt (hx36))) rfl ?_
                refine WS.q (Y.rowField (off := 0) (ft := 3) Try.underlying58 rfl cells3 (i' := 2) rfl (ix_lt (hx36)) (.pl rfl)) rfl ?_
                refine WS.q (Y.loadR (enc := encStep) (v := .int .i64 x36.call) (a := x36) (idx := v35) (j := 0) Try.underlying3 rfl lenStep (i := 2) rfl (.pl rfl) (ix_get (hx36)) rfl rfl) rfl ?_
                obtain ⟨x37, hx37, hF28⟩ := bnd hF28
                refine WS.q (Y.wEl (enc := (eI .i64)) (sz := 1) Try.underlying22 cells3 (fun wz hw => (SlIn.inM (k := v25) (fun _ => rfl) hw (i := 0) rfl)) (.pl rfl) (.pl rfl) (ix_lt (hx37))) rfl ?_
                refine WS.q (Y.loadW (enc := (eI .i64)) (v := .int .i64 x37) (j := 0) Try.underlying3 rfl (fun wz hw => (SlIn.inM (k := v25) (fun _ => rfl) hw (i := 0) rfl)) (.pl rfl) (hx37) rfl rfl) rfl ?_
                refine WS.q (Y.rowEl Try.underlying44 cells58 (i := 2) rfl (.pl rfl) rfl (.pl rfl) (ix_lt (hx36))) rfl ?_
                refine WS.q (Y.rowField (off := 0) (ft := 3) Try.underlying58 rfl cells3 (i' := 2) rfl (ix_lt (hx36)) (.pl rfl)) rfl ?_
                refine WS.tail ?_
                refine WL.step (WO.storeS (enc := encStep) (a := x36) (a' := (Step.mk x37 x36.res)) (idx := v35) (j := 0) cells3 (.pl rfl) (.pl rfl) rfl lenStep (i := 2) rfl (ix_get (hx36)) rfl (by decide) rfl ?_)
                refine WL.nil ?_
                refine W.go hK33 (.cons (i := 0) rfl (.cons (i := 1) rfl (.cons (i := 8) rfl (.cons (i := 9) rfl (.cons (i := 10) rfl (.cons (i := 11) rfl (.cons (i := 26) rfl (.cons (i := 27) rfl (.cons (i := 40) rfl (.cons (i := 41) rfl (.nil))))))))))) ?_
                refine W.reg ?_
                obtain ⟨hk38, hF28⟩ := ckh hF28
                refine WL.q (Y.add (.pl rfl) (.pl rfl) (ok64_lt (hk38))) rfl ?_
                refine WL.q (Y.move (.pl rfl)) rfl ?_
                refine WL.nil ?_
                obtain rfl := Option.some.inj hF28
                exact W.again2 hK29 (w34.set v35.toNat (Step.mk x37 x36.res)) (v35 + 1) k28 hN28 (Nat.lt_succ_self _) (.cons (eqSl (by simp)) (.cons rfl (.nil))) (.cons (i := 0) rfl (.cons (i := 1) rfl (.cons (i := 8) rfl (.cons (i := 9) rfl (.cons (i := 10) rfl (.cons (i := 26) rfl (.cons (i := 27) rfl (.cons (i := 40) rfl (.nil))))))))) (fun wz hw => hw.pick [0, 1, 2] rfl)
              · replace hF28 := cneg hC32 hF28
                refine W.exit ?_
                obtain rfl := Option.some.inj hF28
                exact W.joinAt1 hK26 w34 (einr hN28) (.cons rfl (.nil)) (.cons (i := 0) rfl (.cons (i := 1) rfl (.cons (i := 8) rfl (.cons (i := 9) rfl (.cons (i := 26) rfl (.cons (i := 27) rfl (.nil))))))) (fun wz hw => hw.pick [0, 1, 2] rfl)
            · -- behind
              rintro w33 rfl
              refine W.reg ?_
              refine WL.q (Y.move (.pl rfl)) rfl ?_
              refine WL.q (Y.move (.pl rfl)) rfl ?_
              refine WL.step (WO.bsliceN (enc := encSl) (inn := (innSl encStep 2 58)) (hs := ([((A31, c32) : Hd)] : List Hd)) (xs := ([w33] : List (List Step))) Try.underlying78 bz44 (.cons (.pl rfl) (.nil)) rfl rfl rfl rfl rfl lenSl (by decide) (by decide) (.pick [2, 0, 1] rfl) rfl fun b39 => ?_)
              obtain ⟨hk42, hF17⟩ := ckh hF17
              refine WL.step (WO.appendN (enc := encSl) (inn := (innSl encStep 2 58)) (hs := hd24) Try.underlying78 ap44 lenSl oneSl (.pl rfl) rfl (.pl rfl) (i := 1) rfl (hk42) rfl fun A40 c41 => ?_)
              refine WL.q (Y.assign (.pl rfl)) rfl ?_
              refine WL.nil ?_
              exact W.joinAt4 hK18 (out23 ++ ([w33] : List (List Step))) A40 c41 (hd24 ++ ([((A31, c32) : Hd)] : List Hd)) (Option.some.inj hF17) (.cons rfl (.nil)) (.cons (i := 0) rfl (.cons (i := 1) rfl (.cons (i := 8) rfl (.cons (i := 26) rfl (.cons (i := 27) rfl (.nil)))))) (fun wz hw => hw.pick [1, 0] rfl)
        · -- behind
          rintro out28 A26 c27 hd29 rfl
          refine W.reg ?_
          obtain ⟨hk43, hF12⟩ := ckh hF12
          refine WL.q (Y.add (.pl rfl) (.pl rfl) (ok64_lt (hk43))) rfl ?_
          refine WL.q (Y.move (.pl rfl)) rfl ?_
          refine WL.nil ?_
          obtain rfl := Option.some.inj hF12
          exact W.again5 hK13 out28 (v25 + 1) A26 c27 hd29 k12 hN12 (Nat.lt_succ_self _) (.cons rfl (.cons rfl (.nil))) (.cons (i := 0) rfl (.cons (i := 1) rfl (.cons (i := 8) rfl (.cons (i := 26) rfl (.nil))))) (fun wz hw => hw.pick [0, 1] rfl)
      · replace hF12 := cneg hC16 hF12
        refine W.exit ?_
        obtain rfl := Option.some.inj hF12
        exact W.joinAt4 hK10 out23 A21 c22 hd24 (einr hN12) (.cons rfl (.nil)) (.nil) (fun wz hw => hw.pick [1] rfl)
    · -- behind
      rintro out19 A17 c18 hd20 rfl
      refine W.seqR fun Q39 hQ39 => ?_
      refine WL.q (Y.move (.pl rfl)) rfl ?_
      refine WL.q (Y.assign (.pl rfl)) rfl ?_
      refine WL.q (Y.assign (.pl rfl)) rfl ?_
      refine WL.next hQ39 (.cons (i := 4) rfl (.cons (i := 5) rfl (.nil))) ?_
      obtain rfl := Option.some.inj hF
      refine W.retV (fn := Try.f57) (vs := [.slice A17 (out19).length c18, .int .i64 0]) Try.results57 ⟨.tmp rfl, ⟨.tmp rfl, trivial⟩⟩ (fun _ _ h => h) (fun wz hw => ?_)
      exact hR _ _ ⟨(A17, c18, hd20), trivial, rfl, (hw.pick [0] rfl)⟩

def slices_Equal_bool_bool_L3 (N : Nat) (s11 : (List Bool)) (s26 : (List Bool)) : Int → Option (Int ⊕ (Unit ⊕ Bool))
  | v11 =>
    cond (decide (v11 < ((s11).length : Int)))
      (bd (ix s11 v11) fun (x12 : Bool) =>
      bd (ix s26 v11) fun (x13 : Bool) =>
      cond (!(x12 == x13))
        (some (.inr (.inr false)))
        (ck (ok64 (v11 + 1)) <|
        some (.inl (v11 + 1))))
      (some (.inr (.inl ())))

def slices_Equal_bool_bool (N : Nat) (s11 : (List Bool)) (s26 : (List Bool)) : Option Bool :=
  cond (!(decide (((s11).length : Int) = ((s26).length : Int))))
    (some false)
    (bd (α := (Unit ⊕ Bool)) (iter (slices_Equal_bool_bool_L3 N s11 s26) N 0) <|
    Sum.elim (fun _ => 
      some true) (fun p => some p))

theorem slices_Equal_bool_bool_ok {N : Nat} {s11 : (List Bool)} {s26 : (List Bool)} {res : Bool} (hF : slices_Equal_bool_bool N s11 s26 = some res) (w : World) {v5 : Value} (hs4 : SlIn eB 1 w v5 s11) {v10 : Value} (hs9 : SlIn eB 1 w v10 s26) :
    Pure Try.prog 54 [v5, v10] w (.bool res) := by
  obtain ⟨A2, c3, rfl, hcc3, hs4⟩ := hs4.form
  obtain ⟨A7, c8, rfl, hcc8, hs9⟩ := hs9.form
  refine W.enter (n := 26) Try.func54 rfl rfl Sub.refl (by simp) (St.start w) fun R hR => ?_
  unfold slices_Equal_bool_bool at hF
  refine W.seqR fun Q1 hQ1 => ?_
  refine WL.q (Y.assign (.pl rfl)) rfl ?_
  refine WL.next hQ1 (.cons (i := 0) rfl (.cons (i := 1) rfl (.nil))) ?_
  refine W.seq fun K2 hK2 => ?_
  refine W.seqR fun Q3 hQ3 => ?_
  refine WL.q (Y.move (.pl rfl)) rfl ?_
  refine WL.q (Y.len Try.underlying73 (.pl rfl)) rfl ?_
  refine WL.q (Y.move (.pl rfl)) rfl ?_
  refine WL.q (Y.len Try.underlying73 (.pl rfl)) rfl ?_
  refine WL.q (Y.neq (.pl rfl) (.pl rfl)) rfl ?_
  refine WL.next hQ3 (.cons (i := 0) rfl (.cons (i := 1) rfl (.cons (i := 10) rfl (.nil)))) ?_
  refine W.cond (.pl rfl) (fun hC4 => ?_) (fun hC4 => ?_)
  · replace hF := cpos hC4 hF
    refine W.seqR fun Q5 hQ5 => ?_
    refine WL.q (Y.assign (.pl rfl)) rfl ?_
    refine WL.next hQ5 (.cons (i := 4) rfl (.nil)) ?_
    obtain rfl := Option.some.inj hF
    refine W.retV (fn := Try.f54) (vs := [.bool false]) Try.results54 ⟨.tmp rfl, trivial⟩ (fun _ _ h => h) (fun wz hw => ?_)
    exact hR _ _ ⟨rfl, (hw.pick [] rfl)⟩
  · replace hF := cneg hC4 hF
    refine W.skip ?_
    refine W.go hK2 (.cons (i := 0) rfl (.cons (i := 1) rfl (.nil))) ?_
    obtain ⟨o6, hF6, hF⟩ := bnd hF
    refine W.join0 (Em := []) (M := []) (I := (.inl ()) = o6) (.nil) (fun K7 hK7 => ?_) ?_
    · -- up to
      refine W.seqR fun Q8 hQ8 => ?_
      refine WL.q (Y.move (.pl rfl)) rfl ?_
      refine WL.q (Y.len Try.underlying73 (.pl rfl)) rfl ?_
      refine WL.q (Y.move (.pl rfl)) rfl ?_
      refine WL.next hQ8 (.cons (i := 0) rfl (.cons (i := 1) rfl (.cons (i := 12) rfl (.cons (i := 13) rfl (.nil))))) ?_
      refine W.block ?_
      refine W.loop1 (Em := fun (v11 : Int) => [(13, .int .i64 v11)]) (M := fun v11 => []) (I := fun v11 k9 => iter (slices_Equal_bool_bool_L3 N s11 s26) k9 v11 = some o6) 0 N (hF6) (.cons rfl (.nil)) (.cons (i := 0) rfl (.cons (i := 1) rfl (.cons (i := 12) rfl (.nil)))) (fun wz hw => hw.pick [] rfl) (fun v11 k9 hI K10 hK10 => ?_)
      obtain ⟨k9, t9, rfl, hF9, hN9⟩ := iter_step hI
      refine W.seqR fun Q11 hQ11 => ?_
      refine WL.q (Y.lss (.pl rfl) (.pl rfl)) rfl ?_
      refine WL.next hQ11 (.cons (i := 0) rfl (.cons (i := 1) rfl (.cons (i := 12) rfl (.cons (i := 13) rfl (.cons (i := 14) rfl (.nil)))))) ?_
      refine W.seq fun K12 hK12 => ?_
      refine W.cond (.pl rfl) (fun hC13 => ?_) (fun hC13 => ?_)
      · replace hF9 := cpos hC13 hF9
        refine W.skip ?_
        refine W.go hK12 (.cons (i := 0) rfl (.cons (i := 1) rfl (.cons (i := 12) rfl (.cons (i := 13) rfl (.nil))))) ?_
        refine W.seq fun K14 hK14 => ?_
        refine W.block ?_
        refine W.seqR fun Q15 hQ15 => ?_
        refine WL.q (Y.move (.pl rfl)) rfl ?_
        refine WL.q (Y.assign (.pl rfl)) rfl ?_
        refine WL.next hQ15 (.cons (i := 0) rfl (.cons (i := 1) rfl (.cons (i := 5) rfl (.cons (i := 12) rfl (.cons (i := 13) rfl (.nil)))))) ?_
        refine W.seqD (by kernel_rfl) (by kernel_rfl) fun R16 hR16 => ?_
        refine WD.q (Y.move (.pl rfl)) rfl ?_
        refine WD.q (Y.move (.pl rfl)) rfl ?_
        obtain ⟨x12, hx12, hF9⟩ := bnd hF9
        refine WD.q (Y.slEl Try.underlying73 cells4 hs4 (.pl rfl) (.pl rfl) (ix_lt (hx12))) rfl ?_
        refine WD.q (Y.loadS (enc := eB) (v := .bool x12) (j := 0) Try.underlying4 rfl hs4 (.pl rfl) (hx12) rfl rfl) rfl ?_
        refine WD.q (Y.move (.pl rfl)) rfl ?_
        refine WD.q (Y.move (.pl rfl)) rfl ?_
        obtain ⟨x13, hx13, hF9⟩ := bnd hF9
        refine WD.q (Y.slEl Try.underlying73 cells4 hs9 (.pl rfl) (.pl rfl) (ix_lt (hx13))) rfl ?_
        refine WD.q (Y.loadS (enc := eB) (v := .bool x13) (j := 0) Try.underlying4 rfl hs9 (.pl rfl) (hx13) rfl rfl) rfl ?_
        refine WD.q (Y.neqB Try.underlying4 (.pl rfl) (.pl rfl)) rfl ?_
        refine WD.next hR16 (.cons (i := 0) rfl (.cons (i := 1) rfl (.cons (i := 12) rfl (.cons (i := 13) rfl (.cons (i := 24) rfl (.nil)))))) ?_
        refine W.cond (.pl rfl) (fun hC17 => ?_) (fun hC17 => ?_)
        · replace hF9 := cpos hC17 hF9
          refine W.seqR fun Q18 hQ18 => ?_
          refine WL.q (Y.assign (.pl rfl)) rfl ?_
          refine WL.next hQ18 (.cons (i := 4) rfl (.nil)) ?_
          obtain rfl := Option.some.inj hF9
          obtain rfl := einr hN9
          obtain rfl := Option.some.inj hF
          refine W.retV (fn := Try.f54) (vs := [.bool false]) Try.results54 ⟨.tmp rfl, trivial⟩ (fun _ _ h => h) (fun wz hw => ?_)
          exact hR _ _ ⟨rfl, (hw.pick [] rfl)⟩
        · replace hF9 := cneg hC17 hF9
          refine W.skip ?_
          refine W.go hK14 (.cons (i := 0) rfl (.cons (i := 1) rfl (.cons (i := 12) rfl (.cons (i := 13) rfl (.nil))))) ?_
          refine W.reg ?_
          obtain ⟨hk14, hF9⟩ := ckh hF9
          refine WL.q (Y.add (.pl rfl) (.pl rfl) (ok64_lt (hk14))) rfl ?_
          refine WL.q (Y.move (.pl rfl)) rfl ?_
          refine WL.nil ?_
          obtain rfl := Option.some.inj hF9
          exact W.again1 hK10 (v11 + 1) k9 hN9 (Nat.lt_succ_self _) (.cons rfl (.nil)) (.cons (i := 0) rfl (.cons (i := 1) rfl (.cons (i := 12) rfl (.nil)))) (fun wz hw => hw.pick [] rfl)
      · replace hF9 := cneg hC13 hF9
        refine W.exit ?_
        obtain rfl := Option.some.inj hF9
        exact W.joinAt0 hK7  (einr hN9) (.nil) (.nil) (fun wz hw => hw.pick [] rfl)
    · -- behind
      rintro  rfl
      refine W.seqR fun Q20 hQ20 => ?_
      refine WL.q (Y.assign (.pl rfl)) rfl ?_
      refine WL.next hQ20 (.cons (i := 4) rfl (.nil)) ?_
      obtain rfl := Option.some.inj hF
      refine W.retV (fn := Try.f54) (vs := [.bool true]) Try.results54 ⟨.tmp rfl, trivial⟩ (fun _ _ h => h) (fun wz hw => ?_)
      exact hR _ _ ⟨rfl, (hw.pick [] rfl)⟩

def alibkeep_localLives (N : Nat) : Option Bool :=
  bd (local_Parts N ([1, 2] : List Int) ([(Event.mk 0 0 1 5), (Event.mk 0 0 0 0), (Event.mk 1 1 4 0), (Event.mk 1 1 0 3)] : List Event)) fun (r3 : ((List Bool) × Int)) =>
  bd (local_Orders N ([1, 2] : List Int) ([(Event.mk 0 0 1 5), (Event.mk 0 0 0 0), (Event.mk 1 1 4 0), (Event.mk 1 1 0 3)] : List Event)) fun (r7 : ((List (List Step)) × Int)) =>
  ck (slB (([(Event.mk 0 0 1 5), (Event.mk 0 0 0 0), (Event.mk 1 1 4 0), (Event.mk 1 1 0 3)] : List Event)).length 0 3) <|
  bd (local_Orders N ([1, 2] : List Int) (([(Event.mk 0 0 1 5), (Event.mk 0 0 0 0), (Event.mk 1 1 4 0), (Event.mk 1 1 0 3)] : List Event).take (3 : Int).toNat)) fun (r13 : ((List (List Step)) × Int)) =>
  bd (α := Bool) (bd (alibkeep_ok N ([r3.2, r13.2] : List Int)) fun (r19 : Bool) =>
    cond (r19 == true)
      (bd (slices_Equal_bool_bool N r3.1 ([true, false] : List Bool)) fun (r21 : Bool) =>
      bd ((cond ((((r19 && r21) && (decide (r7.2 = 4))) && (decide (((r13.1).length : Int) = 2))) == true) (ix r13.1 0) (some []))) fun (x22 : (List Step)) =>
      bd ((cond (((((r19 && r21) && (decide (r7.2 = 4))) && (decide (((r13.1).length : Int) = 2))) && (decide (((x22).length : Int) = 1))) == true) (ix r13.1 1) (some []))) fun (x23 : (List Step)) =>
      some (((((r19 && r21) && (decide (r7.2 = 4))) && (decide (((r13.1).length : Int) = 2))) && (decide (((x22).length : Int) = 1))) && (decide (((x23).length : Int) = 0))))
      (bd ((cond ((((r19 && false) && (decide (r7.2 = 4))) && (decide (((r13.1).length : Int) = 2))) == true) (ix r13.1 0) (some []))) fun (x24 : (List Step)) =>
      bd ((cond (((((r19 && false) && (decide (r7.2 = 4))) && (decide (((r13.1).length : Int) = 2))) && (decide (((x24).length : Int) = 1))) == true) (ix r13.1 1) (some []))) fun (x25 : (List Step)) =>
      some (((((r19 && false) && (decide (r7.2 = 4))) && (decide (((r13.1).length : Int) = 2))) && (decide (((x24).length : Int) = 1))) && (decide (((x25).length : Int) = 0))))) <|
  fun (v17 : Bool) => 
    some v17

theorem alibkeep_localLives_ok {N : Nat} {res : Bool} (hF : alibkeep_localLives N = some res) (w : World) :
    Pure Try.prog 55 [] w (.bool res) := by
  refine W.enter (n := 64) Try.func55 rfl rfl Sub.refl (by simp) (St.start w) fun R hR => ?_
  unfold alibkeep_localLives at hF
  refine W.seqR fun Q1 hQ1 => ?_
  refine WL.q (Y.assign (.pl rfl)) rfl ?_
  refine WL.next hQ1 (.nil) ?_
  refine W.seqR fun Q2 hQ2 => ?_
  refine WL.q (Y.build (cs := (encEvent (Event.mk 0 0 1 5)).toArray) shape49 (.cons (.pl rfl) (.cons (.pl rfl) (.cons (.pl rfl) (.nil)))) (one_parts ⟨rfl, ⟨rfl, ⟨rfl, trivial⟩⟩⟩) rfl) rfl ?_
  refine WL.q (Y.build (cs := (encEvent (Event.mk 0 0 0 0)).toArray) shape49 (.cons (.pl rfl) (.nil)) (one_parts ⟨rfl, trivial⟩) rfl) rfl ?_
  refine WL.q (Y.build (cs := (encEvent (Event.mk 1 1 4 0)).toArray) shape49 (.cons (.pl rfl) (.cons (.pl rfl) (.cons (.pl rfl) (.nil)))) (one_parts ⟨rfl, ⟨rfl, ⟨rfl, trivial⟩⟩⟩) rfl) rfl ?_
  refine WL.q (Y.build (cs := (encEvent (Event.mk 1 1 0 3)).toArray) shape49 (.cons (.pl rfl) (.cons (.pl rfl) (.cons (.pl rfl) (.nil)))) (one_parts ⟨rfl, ⟨rfl, ⟨rfl, trivial⟩⟩⟩) rfl) rfl ?_
  refine WL.step (WO.bsliceC (enc := encEvent) (ys := ([(Event.mk 0 0 1 5), (Event.mk 0 0 0 0), (Event.mk 1 1 4 0), (Event.mk 1 1 0 3)] : List Event)) Try.underlying43 bz49 (.cons (.pl rfl) (.cons (.pl rfl) (.cons (.pl rfl) (.cons (.pl rfl) (.nil))))) rfl lenEvent rfl rfl (by decide) (by decide) rfl fun b1 => ?_)
  refine WL.q (Y.assign (.pl rfl)) rfl ?_
  refine WL.next hQ2 (.cons (i := 1) rfl (.nil)) ?_
  refine W.seqR fun Q3 hQ3 => ?_
  refine WL.step (WO.bsliceC (enc := (eI .i64)) (ys := ([1, 2] : List Int)) Try.underlying22 bz3 (.cons (.pl rfl) (.cons (.pl rfl) (.nil))) rfl (fun _ => rfl) rfl rfl (by decide) (by decide) rfl fun b2 => ?_)
  refine WL.q (Y.move (.pl rfl)) rfl ?_
  obtain ⟨r3, hr3, hF⟩ := bnd hF
  refine WL.step (WO.callM isGo53 (.cons (.pl rfl) (.cons (.pl rfl) (.nil))) rfl (fun wz hw => local_Parts_ok (hr3) wz (SlIn.ofRow (fun _ => rfl) hw (i := 0) rfl) (SlIn.ofRow lenEvent hw (i := 1) rfl)) ?_)
  rintro ⟨A4, c5⟩ -
  refine WL.q (Y.move (.pl rfl)) rfl ?_
  refine WL.q (Y.extract (.pl rfl) rfl) rfl ?_
  refine WL.q (Y.extract (.pl rfl) rfl) rfl ?_
  refine WL.q (Y.assign (.pl rfl)) rfl ?_
  refine WL.q (Y.assign (.pl rfl)) rfl ?_
  refine WL.next hQ3 (.cons (i := 1) rfl (.cons (i := 2) rfl (.cons (i := 3) rfl (.nil)))) ?_
  refine W.seqR fun Q4 hQ4 => ?_
  refine WL.step (WO.bsliceC (enc := (eI .i64)) (ys := ([1, 2] : List Int)) Try.underlying22 bz3 (.cons (.pl rfl) (.cons (.pl rfl) (.nil))) rfl (fun _ => rfl) rfl rfl (by decide) (by decide) rfl fun b6 => ?_)
  refine WL.q (Y.move (.pl rfl)) rfl ?_
  obtain ⟨r7, hr7, hF⟩ := bnd hF
  refine WL.step (WO.callM isGo57 (.cons (.pl rfl) (.cons (.pl rfl) (.nil))) rfl (fun wz hw => local_Orders_ok (hr7) wz (SlIn.ofRow (fun _ => rfl) hw (i := 0) rfl) (SlIn.ofRow lenEvent hw (i := 3) rfl)) ?_)
  rintro ⟨A8, c9, hd10⟩ -
  refine WL.q (Y.move (.pl rfl)) rfl ?_
  refine WL.q (Y.extract (.pl rfl) rfl) rfl ?_
  refine WL.q (Y.extract (.pl rfl) rfl) rfl ?_
  refine WL.q (Y.assign (.pl rfl)) rfl ?_
  refine WL.q (Y.assign (.pl rfl)) rfl ?_
  refine WL.next hQ4 (.cons (i := 1) rfl (.cons (i := 2) rfl (.cons (i := 3) rfl (.cons (i := 5) rfl (.nil))))) ?_
  refine W.seqR fun Q5 hQ5 => ?_
  refine WL.step (WO.bsliceC (enc := (eI .i64)) (ys := ([1, 2] : List Int)) Try.underlying22 bz3 (.cons (.pl rfl) (.cons (.pl rfl) (.nil))) rfl (fun _ => rfl) rfl rfl (by decide) (by decide) rfl fun b11 => ?_)
  refine WL.q (Y.move (.pl rfl)) rfl ?_
  obtain ⟨hk12, hF⟩ := ckh hF
  refine WL.q (Y.sliceR0 Try.underlying43 cells49 (i := 5) rfl (.pl rfl) rfl (.pl rfl) (hk12)) rfl ?_
  obtain ⟨r13, hr13, hF⟩ := bnd hF
  refine WL.step (WO.callM isGo57 (.cons (.pl rfl) (.cons (.pl rfl) (.nil))) rfl (fun wz hw => local_Orders_ok (hr13) wz (SlIn.ofRow (fun _ => rfl) hw (i := 0) rfl) (SlIn.sub0 (SlIn.ofRow (enc := encEvent) (sz := 4) lenEvent hw (i := 5) rfl) (slB_nat0 (hk12)))) ?_)
  rintro ⟨A14, c15, hd16⟩ -
  refine WL.q (Y.move (.pl rfl)) rfl ?_
  refine WL.q (Y.extract (.pl rfl) rfl) rfl ?_
  refine WL.q (Y.extract (.pl rfl) rfl) rfl ?_
  refine WL.q (Y.assign (.pl rfl)) rfl ?_
  refine WL.q (Y.assign (.pl rfl)) rfl ?_
  refine WL.next hQ5 (.cons (i := 2) rfl (.cons (i := 3) rfl (.cons (i := 5) rfl (.cons (i := 6) rfl (.cons (i := 7) rfl (.nil)))))) ?_
  obtain ⟨o6, hF6, hF⟩ := bnd hF
  refine W.join1 (Em := fun (v17 : Bool) => [(0, .bool v17)]) (M := fun v17 => []) (I := fun v17 => v17 = o6) (.nil) (fun K7 hK7 => ?_) ?_
  · -- up to
    refine W.reg ?_
    refine WL.q (Y.move (.pl rfl)) rfl ?_
    refine WL.q (Y.move (.pl rfl)) rfl ?_
    refine WL.step (WO.bsliceC (enc := (eI .i64)) (ys := ([r3.2, r13.2] : List Int)) Try.underlying88 bz29 (.cons (.pl rfl) (.cons (.pl rfl) (.nil))) rfl (fun _ => rfl) rfl rfl (by decide) (by decide) rfl fun b18 => ?_)
    obtain ⟨r19, hr19, hF6⟩ := bnd hF6
    refine WL.step (WO.callP isGo28 (.cons (.pl rfl) (.nil)) rfl (fun wz hw => alibkeep_ok_ok (hr19) wz (SlIn.ofRow (fun _ => rfl) hw (i := 0) rfl)) ?_)
    refine WL.q (Y.move (.pl rfl)) rfl ?_
    refine WL.g (.pl rfl rfl rfl) (fun hg => Y.move (.pl rfl)) rfl ?_
    refine bsplit (r19 == true) (fun hg8 => ?_) (fun hg8 => ?_)
    · replace hF6 := cpos hg8 hF6
      refine WL.gd (.pl rfl rfl rfl) (hg8) ?_
      refine WL.step (WO.bsliceC (enc := eB) (ys := ([true, false] : List Bool)) Try.underlying73 bz4 (.cons (.pl rfl) (.cons (.pl rfl) (.nil))) rfl (fun _ => rfl) rfl rfl (by decide) (by decide) rfl fun b20 => ?_)
      refine WL.gd (.pl rfl rfl rfl) (hg8) ?_
      obtain ⟨r21, hr21, hF6⟩ := bnd hF6
      refine WL.step (WO.callP isGo54 (.cons (.gd (hg8) rfl) (.cons (.pl rfl) (.nil))) rfl (fun wz hw => slices_Equal_bool_bool_ok (hr21) wz (SlIn.ofRow (fun _ => rfl) hw (i := 6) rfl) (SlIn.ofRow (fun _ => rfl) hw (i := 0) rfl)) ?_)
      refine WL.q (Y.and (.pl rfl) (fun _ => .pl rfl)) rfl ?_
      refine WL.q (Y.move (.pl rfl)) rfl ?_
      refine WL.g (.pl rfl rfl rfl) (fun hg => Y.move (.pl rfl)) rfl ?_
      refine WL.g (.pl rfl rfl rfl) (fun hg => Y.eql (.gd (hg) rfl) (.pl rfl)) rfl ?_
      refine WL.q (Y.and (.pl rfl) (fun h2 => .gd (eqt h2) rfl)) rfl ?_
      refine WL.q (Y.move (.pl rfl)) rfl ?_
      refine WL.g (.pl rfl rfl rfl) (fun hg => Y.move (.pl rfl)) rfl ?_
      refine WL.g (.pl rfl rfl rfl) (fun hg => Y.len Try.underlying78 (.gd (hg) rfl)) rfl ?_
      refine WL.g (.pl rfl rfl rfl) (fun hg => Y.eql (.gd (hg) rfl) (.pl rfl)) rfl ?_
      refine WL.q (Y.and (.pl rfl) (fun h2 => .gd (eqt h2) rfl)) rfl ?_
      refine WL.q (Y.move (.pl rfl)) rfl ?_
      refine WL.g (.pl rfl rfl rfl) (fun hg => Y.move (.pl rfl)) rfl ?_
      obtain ⟨x22, hx22, hF6⟩ := bnd hF6
      refine WL.g (.pl rfl rfl rfl) (fun hg => Y.nEl Try.underlying78 cells44 (i := 2) rfl (.gd (hg) rfl) rfl (.pl rfl) (ix_lt (gpos hg hx22))) rfl ?_
      refine WL.g (.pl rfl rfl rfl) (fun hg => Y.loadN (enc := encSl) (h0 := ((none, 0) : Hd)) (v := .slice (hd16.getD (0 : Int).toNat ((none, 0) : Hd)).1 (x22).length (hd16.getD (0 : Int).toNat ((none, 0) : Hd)).2) (a := x22) (idx := 0) (j := 0) Try.underlying44 rfl lenSl (i := 2) rfl (.gd (hg) rfl) (ix_get (gpos hg hx22)) rfl rfl) rfl ?_
      refine WL.g (.pl rfl rfl rfl) (fun hg => Y.len Try.underlying44 (.gd (hg) rfl)) rfl ?_
      refine WL.g (.pl rfl rfl rfl) (fun hg => Y.eql (.gd (hg) rfl) (.pl rfl)) rfl ?_
      refine WL.q (Y.and (.pl rfl) (fun h2 => .gd (eqt h2) rfl)) rfl ?_
      refine WL.q (Y.move (.pl rfl)) rfl ?_
      refine WL.g (.pl rfl rfl rfl) (fun hg => Y.move (.pl rfl)) rfl ?_
      obtain ⟨x23, hx23, hF6⟩ := bnd hF6
      refine WL.g (.pl rfl rfl rfl) (fun hg => Y.nEl Try.underlying78 cells44 (i := 2) rfl (.gd (hg) rfl) rfl (.pl rfl) (ix_lt (gpos hg hx23))) rfl ?_
      refine WL.g (.pl rfl rfl rfl) (fun hg => Y.loadN (enc := encSl) (h0 := ((none, 0) : Hd)) (v := .slice (hd16.getD (1 : Int).toNat ((none, 0) : Hd)).1 (x23).length (hd16.getD (1 : Int).toNat ((none, 0) : Hd)).2) (a := x23) (idx := 1) (j := 0) Try.underlying44 rfl lenSl (i := 2) rfl (.gd (hg) rfl) (ix_get (gpos hg hx23)) rfl rfl) rfl ?_
      refine WL.g (.pl rfl rfl rfl) (fun hg => Y.len Try.underlying44 (.gd (hg) rfl)) rfl ?_
      refine WL.g (.pl rfl rfl rfl) (fun hg => Y.eql (.gd (hg) rfl) (.pl rfl)) rfl ?_
      refine WL.q (Y.and (.pl rfl) (fun h2 => .gd (eqt h2) rfl)) rfl ?_
      refine WL.q (Y.assign (.pl rfl)) rfl ?_
      refine WL.nil ?_
      exact W.joinAt1 hK7 (((((r19 && r21) && (decide (r7.2 = 4))) && (decide (((r13.1).length : Int) = 2))) && (decide (((x22).length : Int) = 1))) && (decide (((x23).length : Int) = 0))) (Option.some.inj hF6) (.cons rfl (.nil)) (.nil) (fun wz hw => hw.pick [] rfl)
    · replace hF6 := cneg hg8 hF6
      refine WL.gn (.pl rfl rfl rfl) hg8 rfl ?_
      refine WL.gn (.pl rfl rfl rfl) hg8 rfl ?_
      refine WL.q (Y.and (b := false) (.pl rfl) (fun h2 => (gabsA hg8 h2).elim)) rfl ?_
      refine WL.q (Y.move (.pl rfl)) rfl ?_
      refine WL.g (.pl rfl rfl rfl) (fun hg => Y.move (.pl rfl)) rfl ?_
      refine WL.g (.pl rfl rfl rfl) (fun hg => Y.eql (.gd (hg) rfl) (.pl rfl)) rfl ?_
      refine WL.q (Y.and (.pl rfl) (fun h2 => .gd (eqt h2) rfl)) rfl ?_
      refine WL.q (Y.move (.pl rfl)) rfl ?_
      refine WL.g (.pl rfl rfl rfl) (fun hg => Y.move (.pl rfl)) rfl ?_
      refine WL.g (.pl rfl rfl rfl) (fun hg => Y.len Try.underlying78 (.gd (hg) rfl)) rfl ?_
      refine WL.g (.pl rfl rfl rfl) (fun hg => Y.eql (.gd (hg) rfl) (.pl rfl)) rfl ?_
      refine WL.q (Y.and (.pl rfl) (fun h2 => .gd (eqt h2) rfl)) rfl ?_
      refine WL.q (Y.move (.pl rfl)) rfl ?_
      refine WL.g (.pl rfl rfl rfl) (fun hg => Y.move (.pl rfl)) rfl ?_
      obtain ⟨x24, hx24, hF6⟩ := bnd hF6
      refine WL.g (.pl rfl rfl rfl) (fun hg => Y.nEl Try.underlying78 cells44 (i := 1) rfl (.gd (hg) rfl) rfl (.pl rfl) (ix_lt (gpos hg hx24))) rfl ?_
      refine WL.g (.pl rfl rfl rfl) (fun hg => Y.loadN (enc := encSl) (h0 := ((none, 0) : Hd)) (v := .slice (hd16.getD (0 : Int).toNat ((none, 0) : Hd)).1 (x24).length (hd16.getD (0 : Int).toNat ((none, 0) : Hd)).2) (a := x24) (idx := 0) (j := 0) Try.underlying44 rfl lenSl (i := 1) rfl (.gd (hg) rfl) (ix_get (gpos hg hx24)) rfl rfl) rfl ?_
      refine WL.g (.pl rfl rfl rfl) (fun hg => Y.len Try.underlying44 (.gd (hg) rfl)) rfl ?_
      refine WL.g (.pl rfl rfl rfl) (fun hg => Y.eql (.gd (hg) rfl) (.pl rfl)) rfl ?_
      refine WL.q (Y.and (.pl rfl) (fun h2 => .gd (eqt h2) rfl)) rfl ?_
      refine WL.q (Y.move (.pl rfl)) rfl ?_
      refine WL.g (.pl rfl rfl rfl) (fun hg => Y.move (.pl rfl)) rfl ?_
      obtain ⟨x25, hx25, hF6⟩ := bnd hF6
      refine WL.g (.pl rfl rfl rfl) (fun hg => Y.nEl Try.underlying78 cells44 (i := 1) rfl (.gd (hg) rfl) rfl (.pl rfl) (ix_lt (gpos hg hx25))) rfl ?_
      refine WL.g (.pl rfl rfl rfl) (fun hg => Y.loadN (enc := encSl) (h0 := ((none, 0) : Hd)) (v := .slice (hd16.getD (1 : Int).toNat ((none, 0) : Hd)).1 (x25).length (hd16.getD (1 : Int).toNat ((none, 0) : Hd)).2) (a := x25) (idx := 1) (j := 0) Try.underlying44 rfl lenSl (i := 1) rfl (.gd (hg) rfl) (ix_get (gpos hg hx25)) rfl rfl) rfl ?_
      refine WL.g (.pl rfl rfl rfl) (fun hg => Y.len Try.underlying44 (.gd (hg) rfl)) rfl ?_
      refine WL.g (.pl rfl rfl rfl) (fun hg => Y.eql (.gd (hg) rfl) (.pl rfl)) rfl ?_
      refine WL.q (Y.and (.pl rfl) (fun h2 => .gd (eqt h2) rfl)) rfl ?_
      refine WL.q (Y.assign (.pl rfl)) rfl ?_
      refine WL.nil ?_
      exact W.joinAt1 hK7 (((((r19 && false) && (decide (r7.2 = 4))) && (decide (((r13.1).length : Int) = 2))) && (decide (((x24).length : Int) = 1))) && (decide (((x25).length : Int) = 0))) (Option.some.inj hF6) (.cons rfl (.nil)) (.nil) (fun wz hw => hw.pick [] rfl)
  · -- behind
    rintro v17 rfl
    obtain rfl := Option.some.inj hF
    refine W.retV (fn := Try.f55) (vs := [.bool v17]) Try.results55 ⟨.tmp rfl, trivial⟩ (fun _ _ h => h) (fun wz hw => ?_)
    exact hR _ _ ⟨rfl, (hw.pick [] rfl)⟩

end Go.Proofs.Ytpakplmpihhmbaa
