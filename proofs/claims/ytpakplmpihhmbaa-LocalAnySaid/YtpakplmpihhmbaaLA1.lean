/- local.check: what its code computes, and the walk. -/
import Derived.Test.YtpakplmpihhmbaaA2
set_option linter.unusedVariables false
set_option linter.unusedSimpArgs false
set_option linter.unusedSectionVars false
set_option maxRecDepth 100000
namespace Go.Proofs.Ytpakplmpihhmbaa
open Go.RowKit
theorem isGo82 : IsGo Try.prog 82 := ⟨_, Try.func82, by kernel_rfl, rfl⟩
theorem zero22 : ∃ i, Try.prog.info? 22 = some i ∧ i.zero = some (Value.slice none 0 0) := ⟨_, rfl, by kernel_rfl⟩
def local_numbers_L3 (N : Nat) (calls1 : (List Call)) : ((List (Int × (List Int))) × Int) → Option (((List (Int × (List Int))) × Int) ⊕ (List (Int × (List Int))))
  | (out9, v11) =>
    cond (decide (v11 < ((calls1).length : Int)))
      (bd (ix calls1 v11) fun (x12 : Call) =>
      ck (limB 8 ((((mget out9 x12.thing).getD [])).length + (([v11] : List Int)).length)) <|
      ck (ok64 (v11 + 1)) <|
      some (.inl ((mput out9 x12.thing (((mget out9 x12.thing).getD []) ++ ([v11] : List Int))), (v11 + 1))))
      (some (.inr out9))

def local_numbers (N : Nat) (calls1 : (List Call)) : Option (List (Int × (List Int))) :=
  bd (α := (List (Int × (List Int)))) (iter (local_numbers_L3 N calls1) N (([] : List (Int × (List Int))), 0)) <|
  fun (out7 : (List (Int × (List Int)))) => 
    some out7

theorem local_numbers_ok {N : Nat} {calls1 : (List Call)} {res : (List (Int × (List Int)))} (hF : local_numbers N calls1 = some res) (w : World) {v5 : Value} (hs4 : SlIn encCall 7 w v5 calls1) :
    Made Try.prog 82 [v5] w (fun g : (Nat × List Hd) => .map (some g.1)) (fun g => [cMN (eI .i64) 1 3 g.1 g.2 res]) (fun g => True) := by
  obtain ⟨A2, c3, rfl, hcc3, hs4⟩ := hs4.form
  refine W.enter (n := 26) Try.func82 rfl rfl Sub.refl (by simp) (St.start w) fun R hR => ?_
  unfold local_numbers at hF
  refine W.seqR fun Q1 hQ1 => ?_
  refine WL.q (Y.assign (.pl rfl)) rfl ?_
  refine WL.next hQ1 (.cons (i := 0) rfl (.nil)) ?_
  refine W.seqR fun Q2 hQ2 => ?_
  refine WL.step (WO.mmakeN (eI .i64) 1 3 rfl fun b6 => ?_)
  refine WL.q (Y.assign (.pl rfl)) rfl ?_
  refine WL.next hQ2 (.cons (i := 0) rfl (.cons (i := 3) rfl (.nil))) ?_
  obtain ⟨o3, hF3, hF⟩ := bnd hF
  refine W.join2 (Em := fun (out7 : (List (Int × (List Int)))) (hd8 : List Hd) => []) (M := fun out7 hd8 => [cMN (eI .i64) 1 3 b6 hd8 out7]) (I := fun out7 hd8 => out7 = o3) (.cons (i := 3) rfl (.nil)) (fun K4 hK4 => ?_) ?_
  · -- up to
    refine W.seqR fun Q5 hQ5 => ?_
    refine WL.q (Y.move (.pl rfl)) rfl ?_
    refine WL.q (Y.len Try.underlying51 (.pl rfl)) rfl ?_
    refine WL.q (Y.move (.pl rfl)) rfl ?_
    refine WL.next hQ5 (.cons (i := 3) rfl (.cons (i := 7) rfl (.cons (i := 8) rfl (.cons (i := 9) rfl (.nil))))) ?_
    refine W.block ?_
    refine W.loop3 (Em := fun (out9 : (List (Int × (List Int)))) (v11 : Int) (hd10 : List Hd) => [(9, .int .i64 v11)]) (M := fun out9 v11 hd10 => [cMN (eI .i64) 1 3 b6 hd10 out9]) (I := fun out9 v11 hd10 k6 => iter (local_numbers_L3 N calls1) k6 (out9, v11) = some o3) ([] : List (Int × (List Int))) 0 [] N (hF3) (.cons rfl (.nil)) (.cons (i := 3) rfl (.cons (i := 7) rfl (.cons (i := 8) rfl (.nil)))) (fun wz hw => hw.pick [0] rfl) (fun out9 v11 hd10 k6 hI K7 hK7 => ?_)
    obtain ⟨k6, t6, rfl, hF6, hN6⟩ := iter_step hI
    refine W.seqR fun Q8 hQ8 => ?_
    refine WL.q (Y.lss (.pl rfl) (.pl rfl)) rfl ?_
    refine WL.next hQ8 (.cons (i := 3) rfl (.cons (i := 7) rfl (.cons (i := 8) rfl (.cons (i := 9) rfl (.cons (i := 10) rfl (.nil)))))) ?_
    refine W.seq fun K9 hK9 => ?_
    refine W.cond (.pl rfl) (fun hC10 => ?_) (fun hC10 => ?_)
    · replace hF6 := cpos hC10 hF6
      refine W.skip ?_
      refine W.go hK9 (.cons (i := 3) rfl (.cons (i := 7) rfl (.cons (i := 8) rfl (.cons (i := 9) rfl (.nil))))) ?_
      refine W.seq fun K11 hK11 => ?_
      refine W.block ?_
      refine W.seqR fun Q12 hQ12 => ?_
      refine WL.q (Y.move (.pl rfl)) rfl ?_
      obtain ⟨x12, hx12, hF6⟩ := bnd hF6
      refine WL.q (Y.slEl Try.underlying51 cells55 hs4 (.pl rfl) (.pl rfl) (ix_lt (hx12))) rfl ?_
      refine WL.q (Y.loadSA (enc := encCall) (ds := (encCall x12)) (j := 0) Try.underlying55 rfl cells55 hs4 (.pl rfl) (hx12) rfl rfl subW) rfl ?_
      refine WL.step (WO.alloc (cs := (encCall (Call.mk 0 0 0 0 0 0 0)).toArray) zero55 rfl rfl fun b13 => ?_)
      refine WL.q (Y.assign (.pl rfl)) rfl ?_
      refine WL.step (WO.storeBA (ds := (encCall x12)) (cs' := (encCall x12)) cells55 (.pl rfl) (.pl rfl) rfl (oneCall _) (i := 0) rfl (lel (o := 0) (l := 7) (m := 7) (by decide) rfl rfl) (putW rfl) ?_)
      refine WL.next hQ12 (.cons (i := 3) rfl (.cons (i := 4) rfl (.cons (i := 5) rfl (.cons (i := 7) rfl (.cons (i := 8) rfl (.cons (i := 9) rfl (.nil))))))) ?_
      refine W.regXK 10 [0] (by kernel_rfl) ?_
      refine WX.pure 0 #[true, false, false, false, false, false, false, false, false, false, false] rfl (by kernel_rfl) (fun _ _ => Y.move (.pl rfl)) rfl ?_
      refine WX.pure 1 #[true, true, false, false, false, false, false, false, false, false, false] rfl (by kernel_rfl) (fun _ _ => Y.fieldAddr0 (off := 1) (ft := 3) Try.underlying55 rfl cells3 (.pl rfl)) rfl ?_
      refine WX.take 2 #[true, true, true, false, false, false, false, false, false, false, false] (fun wz hw => hw.pick [0] rfl) rfl (by kernel_rfl) (Y.loadB (v := .int .i64 x12.thing) Try.underlying3 rfl (.pl rfl) (i := 0) rfl (rfl)) rfl ?_
      refine WX.pure 3 #[true, true, true, true, false, false, false, false, false, false, false] rfl (by kernel_rfl) (fun _ _ => Y.move (.pl rfl)) rfl ?_
      refine WX.pure 4 #[true, true, true, true, true, false, false, false, false, false, false] rfl (by kernel_rfl) (fun _ _ => Y.fieldAddr0 (off := 1) (ft := 3) Try.underlying55 rfl cells3 (.pl rfl)) rfl ?_
      refine WX.take 5 #[true, true, true, true, true, true, false, false, false, false, false] (fun wz hw => hw.pick [0] rfl) rfl (by kernel_rfl) (Y.loadB (v := .int .i64 x12.thing) Try.underlying3 rfl (.pl rfl) (i := 0) rfl (rfl)) rfl ?_
      refine WX.pure 7 #[true, true, true, true, true, true, false, true, false, false, false] rfl (by kernel_rfl) (fun _ _ => Y.move (.pl rfl)) rfl ?_
      obtain ⟨hk17, hF6⟩ := ckh hF6
      refine WX.branch [6, 8] (fun wz hw => hw.pick [0] rfl) (by kernel_rfl) ⟨?_, ?_, trivial⟩
      · skip
        refine WXI.step #[true, true, true, true, true, true, true, true, false, false, false] rfl rfl (WO.q (Y.mgetN (enc := (eI .i64)) (sz := 1) (E := 3) Try.underlying117 Try.underlying3 zero22 (.pl rfl) (.pl rfl) (i := 1) rfl) rfl ?_)
        refine WX.one 8 #[true, true, true, true, true, true, true, true, true, false, false] (fun wz hw => hw.pick [0] rfl) rfl (by kernel_rfl) (WO.bsliceC (enc := (eI .i64)) (ys := ([v11] : List Int)) Try.underlying22 bz3 (.cons (.pl rfl) (.nil)) rfl (fun _ => rfl) rfl rfl (by decide) (by decide) rfl fun b14 => ?_)
        refine WX.one 9 #[true, true, true, true, true, true, true, true, true, true, false] (fun wz hw => hw.pick [1] rfl) rfl (by kernel_rfl) (WO.entO (Ent.takeM (k := x12.thing) (i := 2) rfl) (WO.appendC (enc := (eI .i64)) Try.underlying22 ap3 (fun _ => rfl) oneI (.pl rfl) rfl (.pl rfl) (i := 0) rfl (m2 := 2) rfl (hk17) rfl fun A15 c16 => ?_))
        refine WX.stop #[true, true, true, true, true, true, true, true, true, true, true] (fun wz hw => hw.pick [3] rfl) rfl (by kernel_rfl) (WO.msetN (enc := (eI .i64)) (sz := 1) (E := 3) (ys := (((mget out9 x12.thing).getD []) ++ ([v11] : List Int))) Try.underlying117 Try.underlying3 (.pl rfl) (.pl rfl) (.pl rfl) (i := 1) rfl (.pick [0, 1, 2] rfl) ?_)
        refine WA.done (by kernel_rfl) ?_
        refine W.go hK11 (.cons (i := 3) rfl (.cons (i := 7) rfl (.cons (i := 8) rfl (.cons (i := 9) rfl (.nil))))) ?_
        refine W.reg ?_
        obtain ⟨hk18, hF6⟩ := ckh hF6
        refine WL.q (Y.add (.pl rfl) (.pl rfl) (ok64_lt (hk18))) rfl ?_
        refine WL.q (Y.move (.pl rfl)) rfl ?_
        refine WL.nil ?_
        obtain rfl := Option.some.inj hF6
        exact W.again3 hK7 (mput out9 x12.thing (((mget out9 x12.thing).getD []) ++ ([v11] : List Int))) (v11 + 1) (hputM hd10 out9 x12.thing (A15, c16) (((mget out9 x12.thing).getD []) ++ ([v11] : List Int))) k6 hN6 (Nat.lt_succ_self _) (.cons rfl (.nil)) (.cons (i := 3) rfl (.cons (i := 7) rfl (.cons (i := 8) rfl (.nil)))) (fun wz hw => hw.pick [0] rfl)
      · skip
        refine WXI.step #[true, true, true, true, true, true, false, true, true, false, false] rfl rfl (WO.bsliceC (enc := (eI .i64)) (ys := ([v11] : List Int)) Try.underlying22 bz3 (.cons (.pl rfl) (.nil)) rfl (fun _ => rfl) rfl rfl (by decide) (by decide) rfl fun b19 => ?_)
        refine WX.one 6 #[true, true, true, true, true, true, true, true, true, false, false] (fun wz hw => hw.pick [1] rfl) rfl (by kernel_rfl) (WO.q (Y.mgetN (enc := (eI .i64)) (sz := 1) (E := 3) Try.underlying117 Try.underlying3 zero22 (.pl rfl) (.pl rfl) (i := 2) rfl) rfl ?_)
        refine WX.one 9 #[true, true, true, true, true, true, true, true, true, true, false] (fun wz hw => hw.pick [1] rfl) rfl (by kernel_rfl) (WO.entO (Ent.takeM (k := x12.thing) (i := 2) rfl) (WO.appendC (enc := (eI .i64)) Try.underlying22 ap3 (fun _ => rfl) oneI (.pl rfl) rfl (.pl rfl) (i := 0) rfl (m2 := 2) rfl (hk17) rfl fun A20 c21 => ?_))
        refine WX.stop #[true, true, true, true, true, true, true, true, true, true, true] (fun wz hw => hw.pick [3] rfl) rfl (by kernel_rfl) (WO.msetN (enc := (eI .i64)) (sz := 1) (E := 3) (ys := (((mget out9 x12.thing).getD []) ++ ([v11] : List Int))) Try.underlying117 Try.underlying3 (.pl rfl) (.pl rfl) (.pl rfl) (i := 1) rfl (.pick [0, 1, 2] rfl) ?_)
        refine WA.done (by kernel_rfl) ?_
        refine W.go hK11 (.cons (i := 3) rfl (.cons (i := 7) rfl (.cons (i := 8) rfl (.cons (i := 9) rfl (.nil))))) ?_
        refine W.reg ?_
        obtain ⟨hk22, hF6⟩ := ckh hF6
        refine WL.q (Y.add (.pl rfl) (.pl rfl) (ok64_lt (hk22))) rfl ?_
        refine WL.q (Y.move (.pl rfl)) rfl ?_
        refine WL.nil ?_
        obtain rfl := Option.some.inj hF6
        exact W.again3 hK7 (mput out9 x12.thing (((mget out9 x12.thing).getD []) ++ ([v11] : List Int))) (v11 + 1) (hputM hd10 out9 x12.thing (A20, c21) (((mget out9 x12.thing).getD []) ++ ([v11] : List Int))) k6 hN6 (Nat.lt_succ_self _) (.cons rfl (.nil)) (.cons (i := 3) rfl (.cons (i := 7) rfl (.cons (i := 8) rfl (.nil)))) (fun wz hw => hw.pick [0] rfl)
    · replace hF6 := cneg hC10 hF6
      refine W.exit ?_
      obtain rfl := Option.some.inj hF6
      exact W.joinAt2 hK4 out9 hd10 (einr hN6) (.nil) (.cons (i := 3) rfl (.nil)) (fun wz hw => hw.pick [0] rfl)
  · -- behind
    rintro out7 hd8 rfl
    refine W.seqR fun Q16 hQ16 => ?_
    refine WL.q (Y.move (.pl rfl)) rfl ?_
    refine WL.q (Y.assign (.pl rfl)) rfl ?_
    refine WL.next hQ16 (.cons (i := 2) rfl (.nil)) ?_
    obtain rfl := Option.some.inj hF
    refine W.retV (fn := Try.f82) (vs := [.map (some b6)]) Try.results82 ⟨.tmp rfl, trivial⟩ (fun _ _ h => h) (fun wz hw => ?_)
    exact hR _ _ ⟨(b6, hd8), trivial, rfl, (hw.pick [0] rfl)⟩

def local_check_L3 (N : Nat) : Option (Int × (List Int)) → Option (Unit ⊕ (Unit ⊕ ((List Call) × Int)))
  | none =>
      some (.inr (.inl ()))
  | some (k24, xs25) =>
      cond (decide (9 < ((xs25).length : Int)))
        (some (.inr (.inr ([], 2))))
        (some (.inl ()))

def local_check (N : Nat) (types1 : (List Int)) (l6 : (List Event)) : Option ((List Call) × Int) :=
  bd (history_Calls N types1 l6) fun (r11 : ((List Call) × Int × Int)) =>
  cond (!(decide (r11.2.2 = 0)))
    (some ([], r11.2.2))
    (cond (decide (12 < ((r11.1).length : Int)))
      (some ([], 2))
      (bd (α := (Unit ⊕ ((List Call) × Int))) (bd (local_numbers N r11.1) fun (r14 : (List (Int × (List Int)))) =>
        rangeM (local_check_L3 N) r14) <|
      Sum.elim (fun _ => 
        some (r11.1, 0)) (fun p => some p)))

theorem local_check_ok {N : Nat} {types1 : (List Int)} {l6 : (List Event)} {res : ((List Call) × Int)} (hF : local_check N types1 l6 = some res) (w : World) {v5 : Value} (hs4 : SlIn (eI .i64) 1 w v5 types1) {v10 : Value} (hs9 : SlIn encEvent 4 w v10 l6) :
    Made Try.prog 79 [v5, v10] w (fun g : (Option Addr × Nat) => .tuple #[.slice g.1 (res.1).length g.2, .int .i64 res.2]) (fun g => [cR encCall 7 g.1 g.2 55 res.1]) (fun g => True) := by
  obtain ⟨A2, c3, rfl, hcc3, hs4⟩ := hs4.form
  obtain ⟨A7, c8, rfl, hcc8, hs9⟩ := hs9.form
  refine W.enter (n := 37) Try.func79 rfl rfl Sub.refl (by simp) (St.start w) fun R hR => ?_
  unfold local_check at hF
  refine W.seqR fun Q1 hQ1 => ?_
  refine WL.q (Y.assign (.pl rfl)) rfl ?_
  refine WL.q (Y.assign (.pl rfl)) rfl ?_
  refine WL.next hQ1 (.cons (i := 0) rfl (.cons (i := 1) rfl (.nil))) ?_
  refine W.seqR fun Q2 hQ2 => ?_
  refine WL.q (Y.move (.pl rfl)) rfl ?_
  refine WL.q (Y.move (.pl rfl)) rfl ?_
  obtain ⟨r11, hr11, hF⟩ := bnd hF
  refine WL.step (WO.callM isGo37 (.cons (.pl rfl) (.cons (.pl rfl) (.nil))) rfl (fun wz hw => history_Calls_ok (hr11) wz (hs4.mono hw) (hs9.mono hw)) ?_)
  rintro ⟨A12, c13⟩ -
  refine WL.q (Y.move (.pl rfl)) rfl ?_
  refine WL.q (Y.extract (.pl rfl) rfl) rfl ?_
  refine WL.q (Y.extract (.pl rfl) rfl) rfl ?_
  refine WL.q (Y.extract (.pl rfl) rfl) rfl ?_
  refine WL.q (Y.assign (.pl rfl)) rfl ?_
  refine WL.q (Y.assign (.pl rfl)) rfl ?_
  refine WL.q (Y.assign (.pl rfl)) rfl ?_
  refine WL.next hQ2 (.cons (i := 6) rfl (.cons (i := 8) rfl (.nil))) ?_
  refine W.seq fun K3 hK3 => ?_
  refine W.block ?_
  refine W.seqR fun Q4 hQ4 => ?_
  refine WL.q (Y.move (.pl rfl)) rfl ?_
  refine WL.q (Y.neq (.pl rfl) (.pl rfl)) rfl ?_
  refine WL.q (Y.assign (.pl rfl)) rfl ?_
  refine WL.next hQ4 (.cons (i := 6) rfl (.cons (i := 8) rfl (.cons (i := 18) rfl (.nil)))) ?_
  refine W.cond (.pl rfl) (fun hC5 => ?_) (fun hC5 => ?_)
  · replace hF := cpos hC5 hF
    refine W.seqR fun Q6 hQ6 => ?_
    refine WL.q (Y.move (.pl rfl)) rfl ?_
    refine WL.q (Y.assign (.pl rfl)) rfl ?_
    refine WL.q (Y.assign (.pl rfl)) rfl ?_
    refine WL.next hQ6 (.cons (i := 4) rfl (.cons (i := 5) rfl (.nil))) ?_
    obtain rfl := Option.some.inj hF
    refine W.retV (fn := Try.f79) (vs := [.slice none 0 0, .int .i64 r11.2.2]) Try.results79 ⟨.tmp rfl, ⟨.tmp rfl, trivial⟩⟩ (fun _ _ h => h) (fun wz hw => ?_)
    exact hR _ _ ⟨(none, 0), trivial, rfl, ((St.nilR (hw.pick [] rfl) encCall 7 55).pick [0] rfl)⟩
  · replace hF := cneg hC5 hF
    refine W.seqR fun Q7 hQ7 => ?_
    refine WL.q (Y.move (.pl rfl)) rfl ?_
    refine WL.q (Y.len Try.underlying51 (.pl rfl)) rfl ?_
    refine WL.q (Y.gtr (.pl rfl) (.pl rfl)) rfl ?_
    refine WL.q (Y.assign (.pl rfl)) rfl ?_
    refine WL.next hQ7 (.cons (i := 6) rfl (.cons (i := 22) rfl (.nil))) ?_
    refine W.cond (.pl rfl) (fun hC8 => ?_) (fun hC8 => ?_)
    · replace hF := cpos hC8 hF
      refine W.seqR fun Q9 hQ9 => ?_
      refine WL.q (Y.assign (.pl rfl)) rfl ?_
      refine WL.q (Y.assign (.pl rfl)) rfl ?_
      refine WL.next hQ9 (.cons (i := 4) rfl (.cons (i := 5) rfl (.nil))) ?_
      obtain rfl := Option.some.inj hF
      refine W.retV (fn := Try.f79) (vs := [.slice none 0 0, .int .i64 2]) Try.results79 ⟨.tmp rfl, ⟨.tmp rfl, trivial⟩⟩ (fun _ _ h => h) (fun wz hw => ?_)
      exact hR _ _ ⟨(none, 0), trivial, rfl, ((St.nilR (hw.pick [] rfl) encCall 7 55).pick [0] rfl)⟩
    · replace hF := cneg hC8 hF
      refine W.skip ?_
      refine W.go hK3 (.cons (i := 6) rfl (.nil)) ?_
      obtain ⟨o10, hF10, hF⟩ := bnd hF
      refine W.join0 (Em := []) (M := [cR encCall 7 A12 c13 55 r11.1]) (I := (.inl ()) = o10) (.cons (i := 6) rfl (.nil)) (fun K11 hK11 => ?_) ?_
      · -- up to
        refine W.seqR fun Q12 hQ12 => ?_
        refine WL.q (Y.move (.pl rfl)) rfl ?_
        obtain ⟨r14, hr14, hF10⟩ := bnd hF10
        refine WL.step (WO.callM isGo82 (.cons (.pl rfl) (.nil)) rfl (fun wz hw => local_numbers_ok (hr14) wz (SlIn.ofRow lenCall hw (i := 0) rfl)) ?_)
        rintro ⟨b15, hd16⟩ -
        refine WL.step (WO.rangeN (enc := (eI .i64)) (sz := 1) (E := 3) Try.underlying117 (.pl rfl) (i := 0) rfl rfl fun r17 es18 clk19 hst20 hrel21 hlen22 => ?_)
        refine WL.next hQ12 (.cons (i := 6) rfl (.cons (i := 28) rfl (.nil))) ?_
        refine W.block ?_
        refine W.loop1 (Em := fun (_ : Array Nat) => []) (M := fun sn23 => [cObj r17 (.mapIter (some b15) clk19 sn23 clk19), cObj b15 (.map es18 clk19), cR encCall 7 A12 c13 55 r11.1]) (I := fun sn23 kz => RangeI (local_check_L3 N) es18 r14 sn23 ∧ kz = (Go.leftOf es18 sn23).size) #[] (Go.leftOf es18 #[]).size ⟨RangeI.zero, rfl⟩ (.nil) (.cons (i := 6) rfl (.cons (i := 28) rfl (.nil))) (fun wz hw => hw) (fun sn23 k13 hIz K13 hK14 => ?_)
        obtain ⟨hI16, hk013⟩ := hIz
        refine W.seqR fun Q17 hQ17 => ?_
        refine WL.step (WO.next (i := 1) (j := 0) hst20 (.pl rfl) rfl rfl rfl ?_ ?_)
        · intro hall
          obtain ⟨t13, hF13, hN13⟩ := rangeM_over hF10 (RangeI.all hI16 hlen22 hall)
          refine WL.q (Y.extract (.pl rfl) rfl) rfl ?_
          refine WL.next hQ17 (.cons (i := 6) rfl (.cons (i := 28) rfl (.cons (i := 30) rfl (.nil)))) ?_
          refine W.seq fun K18 hK18 => ?_
          refine W.condF (.pl rfl) ?_
          refine W.exit ?_
          obtain rfl := Option.some.inj hF13
          exact W.joinAt0 hK11  (einr hN13) (.nil) (.cons (i := 6) rfl (.nil)) (fun wz hw => hw.pick [2] rfl)
        · intro en27 hm28 hn33
          obtain ⟨i34, hi29⟩ := List.mem_iff_getElem?.1 hm28
          obtain ⟨⟨k24, xs25⟩, hp30⟩ : ∃ p, (r14)[i34]? = some p := ⟨_, List.getElem?_eq_getElem (by rw [← hlen22]; exact (List.getElem?_eq_some_iff.1 hi29).1)⟩
          obtain ⟨hd26, hk31, hv32⟩ := hrel21 _ _ _ hi29 hp30
          obtain ⟨t13, hF13, hN13⟩ := rangeM_at hF10 (List.mem_of_getElem? hp30)
          have hE15 := hF13
          refine WL.q (Y.extract (.pl rfl) rfl) rfl ?_
          refine WL.next hQ17 (.cons (i := 6) rfl (.cons (i := 28) rfl (.cons (i := 30) rfl (.nil)))) ?_
          refine W.seq fun K20 hK20 => ?_
          refine W.condT (.pl rfl) ?_
          refine W.skip ?_
          refine W.go hK20 (.cons (i := 6) rfl (.cons (i := 28) rfl (.nil))) ?_
          refine W.block ?_
          refine W.seqR fun Q22 hQ22 => ?_
          refine WL.q (Y.entry hst20 hm28 hk31 hv32 (.pl rfl) (i := 1) rfl (j := 0) rfl) rfl ?_
          refine WL.q (Y.extract (.pl rfl) rfl) rfl ?_
          refine WL.q (Y.assign (.pl rfl)) rfl ?_
          refine WL.next hQ22 (.cons (i := 6) rfl (.cons (i := 10) rfl (.cons (i := 28) rfl (.nil)))) ?_
          refine W.seqR fun Q23 hQ23 => ?_
          refine WL.q (Y.move (.pl rfl)) rfl ?_
          refine WL.q (Y.len Try.underlying22 (.pl rfl)) rfl ?_
          refine WL.q (Y.gtr (.pl rfl) (.pl rfl)) rfl ?_
          refine WL.next hQ23 (.cons (i := 6) rfl (.cons (i := 28) rfl (.cons (i := 35) rfl (.nil)))) ?_
          refine W.cond (.pl rfl) (fun hC24 => ?_) (fun hC24 => ?_)
          · replace hF13 := cpos hC24 hF13
            refine W.seqR fun Q25 hQ25 => ?_
            refine WL.q (Y.assign (.pl rfl)) rfl ?_
            refine WL.q (Y.assign (.pl rfl)) rfl ?_
            refine WL.next hQ25 (.cons (i := 4) rfl (.cons (i := 5) rfl (.nil))) ?_
            obtain rfl := Option.some.inj hF13
            obtain rfl := einr hN13
            obtain rfl := Option.some.inj hF
            refine W.retV (fn := Try.f79) (vs := [.slice none 0 0, .int .i64 2]) Try.results79 ⟨.tmp rfl, ⟨.tmp rfl, trivial⟩⟩ (fun _ _ h => h) (fun wz hw => ?_)
            exact hR _ _ ⟨(none, 0), trivial, rfl, ((St.nilR (hw.pick [] rfl) encCall 7 55).pick [0] rfl)⟩
          · replace hF13 := cneg hC24 hF13
            refine W.skip ?_
            obtain rfl := Option.some.inj hF13
            exact W.again1 hK14 (sn23.push en27.born) (Go.leftOf es18 (sn23.push en27.born)).size ⟨RangeI.step hI16 hst20 hi29 hp30 hE15, rfl⟩ (by rw [hk013]; exact Go.left_shrinks _ _ _ (mem_leftOf hm28 hn33)) (.nil) (.cons (i := 6) rfl (.cons (i := 28) rfl (.nil))) (fun wz hw => hw.pick [0, 1, 2] rfl)
      · -- behind
        rintro  rfl
        refine W.seqR fun Q26 hQ26 => ?_
        refine WL.q (Y.move (.pl rfl)) rfl ?_
        refine WL.q (Y.assign (.pl rfl)) rfl ?_
        refine WL.q (Y.assign (.pl rfl)) rfl ?_
        refine WL.next hQ26 (.cons (i := 4) rfl (.cons (i := 5) rfl (.nil))) ?_
        obtain rfl := Option.some.inj hF
        refine W.retV (fn := Try.f79) (vs := [.slice A12 (r11.1).length c13, .int .i64 0]) Try.results79 ⟨.tmp rfl, ⟨.tmp rfl, trivial⟩⟩ (fun _ _ h => h) (fun wz hw => ?_)
        exact hR _ _ ⟨(A12, c13), trivial, rfl, (hw.pick [0] rfl)⟩

end Go.Proofs.Ytpakplmpihhmbaa
