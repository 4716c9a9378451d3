/- CausalWeaker, CausalAlone: what their code computes, and the walks. -/
import Derived.Test.YtpakplmpihhmbaaA2
set_option linter.unusedVariables false
set_option linter.unusedSimpArgs false
set_option linter.unusedSectionVars false
set_option maxRecDepth 100000
namespace Go.Proofs.Ytpakplmpihhmbaa
open Go.RowKit
theorem cells43 : Try.prog.cellsOf 43 = 0 + 1 := by kernel_rfl
theorem cells127 : Try.prog.cellsOf 127 = 1 + 1 := by kernel_rfl
theorem cells152 : Try.prog.cellsOf 152 = 3 + 1 := by kernel_rfl
theorem isGo46 : IsGo Try.prog 46 := ⟨_, Try.func46, by kernel_rfl, rfl⟩
theorem isGo60 : IsGo Try.prog 60 := ⟨_, Try.func60, by kernel_rfl, rfl⟩
theorem isGo61 : IsGo Try.prog 61 := ⟨_, Try.func61, by kernel_rfl, rfl⟩
theorem isGo62 : IsGo Try.prog 62 := ⟨_, Try.func62, by kernel_rfl, rfl⟩
theorem isGo75 : IsGo Try.prog 75 := ⟨_, Try.func75, by kernel_rfl, rfl⟩
theorem isGo84 : IsGo Try.prog 84 := ⟨_, Try.func84, by kernel_rfl, rfl⟩
theorem isGo85 : IsGo Try.prog 85 := ⟨_, Try.func85, by kernel_rfl, rfl⟩
theorem isGo86 : IsGo Try.prog 86 := ⟨_, Try.func86, by kernel_rfl, rfl⟩
theorem isGo87 : IsGo Try.prog 87 := ⟨_, Try.func87, by kernel_rfl, rfl⟩
theorem isGo88 : IsGo Try.prog 88 := ⟨_, Try.func88, by kernel_rfl, rfl⟩
theorem isGo89 : IsGo Try.prog 89 := ⟨_, Try.func89, by kernel_rfl, rfl⟩
theorem isGo90 : IsGo Try.prog 90 := ⟨_, Try.func90, by kernel_rfl, rfl⟩
theorem isGo97 : IsGo Try.prog 97 := ⟨_, Try.func97, by kernel_rfl, rfl⟩
theorem isGo98 : IsGo Try.prog 98 := ⟨_, Try.func98, by kernel_rfl, rfl⟩
theorem isGo103 : IsGo Try.prog 103 := ⟨_, Try.func103, by kernel_rfl, rfl⟩
theorem isGo104 : IsGo Try.prog 104 := ⟨_, Try.func104, by kernel_rfl, rfl⟩
theorem zero43 : ∃ i, Try.prog.info? 43 = some i ∧ i.zero = some (Value.slice none 0 0) := ⟨_, rfl, by kernel_rfl⟩
theorem zero127 : ∃ i, Try.prog.info? 127 = some i ∧ i.zero = some (Value.agg #[(Value.int .i64 0), (Value.int .i64 0)]) := ⟨_, rfl, by kernel_rfl⟩
theorem bz127 : ∃ i, Try.prog.info? 127 = some i ∧ i.zero = some (Value.agg #[(Value.int .i64 0), (Value.int .i64 0)]) ∧ i.size = 2 := ⟨_, rfl, by kernel_rfl, by kernel_rfl⟩
theorem ap49 : ∃ i z, Try.prog.info? 49 = some i ∧ i.zero = some z ∧ i.size = 4 ∧ i.bytes = 32 ∧ z.cells.size = 4 ∧ 0 < 4 := ⟨_, (Value.agg #[(Value.int .i64 0), (Value.int .i64 0), (Value.int .i64 0), (Value.int .i64 0)]), rfl, by kernel_rfl, by kernel_rfl, by kernel_rfl, by kernel_rfl, by decide⟩
theorem shape154 : Shape Try.prog 154 [(0, 1), (1, 13), (14, 1), (15, 1), (16, 4)] #[(Value.slice none 0 0), (Value.int .i64 0), (Value.int .u16 0), (Value.int .u16 0), (Value.int .u16 0), (Value.int .u16 0), (Value.int .u16 0), (Value.int .u16 0), (Value.int .u16 0), (Value.int .u16 0), (Value.int .u16 0), (Value.int .u16 0), (Value.int .u16 0), (Value.int .u16 0), (Value.int .u16 0), (Value.int .u16 0), (Value.int .i64 0), (Value.int .i64 0), (Value.int .i64 0), (Value.int .i64 0)] := ⟨_, _, Value.agg #[(Value.slice none 0 0), (Value.int .i64 0), (Value.int .u16 0), (Value.int .u16 0), (Value.int .u16 0), (Value.int .u16 0), (Value.int .u16 0), (Value.int .u16 0), (Value.int .u16 0), (Value.int .u16 0), (Value.int .u16 0), (Value.int .u16 0), (Value.int .u16 0), (Value.int .u16 0), (Value.int .u16 0), (Value.int .u16 0), (Value.int .i64 0), (Value.int .i64 0), (Value.int .i64 0), (Value.int .i64 0)], Try.underlying154, rfl, by kernel_rfl, rfl, by kernel_rfl, by decide⟩
theorem azero127 : ∃ i zv, Try.prog.info? 127 = some i ∧ i.zero = some zv ∧ zv.cells = #[(Value.int .i64 0), (Value.int .i64 0)] := ⟨_, (Value.agg #[(Value.int .i64 0), (Value.int .i64 0)]), rfl, by kernel_rfl, rfl⟩
theorem eqg99 : EqIA Try.prog 99 12 .i64 .u16 := ⟨3, 97, 96, .u16, by kernel_rfl, by kernel_rfl, by kernel_rfl, by kernel_rfl, by kernel_rfl, by kernel_rfl, by kernel_rfl, by kernel_rfl, by kernel_rfl, by decide⟩
def causal_check_L17 (N : Nat) (types1 : (List Int)) : Int → Option (Int ⊕ (Unit ⊕ ((List Call) × Int)))
  | v14 =>
    cond (decide (v14 < ((types1).length : Int)))
      (bd (ix types1 v14) fun (x15 : Int) =>
      cond (!(decide (x15 = 1)))
        (some (.inr (.inr ([], 6))))
        (ck (ok64 (v14 + 1)) <|
        some (.inl (v14 + 1))))
      (some (.inr (.inl ())))

def causal_check_L31 (N : Nat) (r11 : ((List Call) × Int × Int)) (v17 : Int) (x18 : Call) : Int → Option (Int ⊕ (Unit ⊕ ((List Call) × Int)))
  | v21 =>
    cond (decide (v21 < (((r11.1.take v17.toNat)).length : Int)))
      (bd (ix (r11.1.take v17.toNat) v21) fun (x22 : Call) =>
      cond ((((decide (x18.kind = 1)) && (decide (x22.kind = 1))) && (decide (x18.thing = x22.thing))) && (decide (x18.arg = x22.arg)))
        (some (.inr (.inr ([], 6))))
        (ck (ok64 (v21 + 1)) <|
        some (.inl (v21 + 1))))
      (some (.inr (.inl ())))

def causal_check_L29 (N : Nat) (r11 : ((List Call) × Int × Int)) : Int → Option (Int ⊕ (Unit ⊕ ((List Call) × Int)))
  | v17 =>
    cond (decide (v17 < ((r11.1).length : Int)))
      (bd (α := (Unit ⊕ ((List Call) × Int))) (bd (ix r11.1 v17) fun (x18 : Call) =>
        cond (decide (x18.to_ = (-1)))
          (some (.inr ([], 6)))
          (ck (slB (r11.1).length 0 v17) <|
          iter (causal_check_L31 N r11 v17 x18) N 0)) <|
      Sum.elim (fun _ => 
        ck (ok64 (v17 + 1)) <|
        some (.inl (v17 + 1))) (fun p => some (.inr (.inr p))))
      (some (.inr (.inl ())))

def causal_check (N : Nat) (types1 : (List Int)) (l6 : (List Event)) : Option ((List Call) × Int) :=
  bd (history_Calls N types1 l6) fun (r11 : ((List Call) × Int × Int)) =>
  cond (!(decide (r11.2.2 = 0)))
    (some ([], r11.2.2))
    (bd (α := (Unit ⊕ ((List Call) × Int))) (iter (causal_check_L17 N types1) N 0) <|
    Sum.elim (fun _ => 
      bd (α := (Unit ⊕ ((List Call) × Int))) (iter (causal_check_L29 N r11) N 0) <|
      Sum.elim (fun _ => 
        cond (decide (7 < ((r11.1).length : Int)))
          (some ([], 2))
          (some (r11.1, 0))) (fun p => some p)) (fun p => some p))

theorem causal_check_ok {N : Nat} {types1 : (List Int)} {l6 : (List Event)} {res : ((List Call) × Int)} (hF : causal_check N types1 l6 = some res) (w : World) {v5 : Value} (hs4 : SlIn (eI .i64) 1 w v5 types1) {v10 : Value} (hs9 : SlIn encEvent 4 w v10 l6) :
    Made Try.prog 84 [v5, v10] w (fun g : (Option Addr × Nat) => .tuple #[.slice g.1 (res.1).length g.2, .int .i64 res.2]) (fun g => [cR encCall 7 g.1 g.2 55 res.1]) (fun _ => True) := by
  obtain ⟨A2, c3, rfl, hcc3, hs4⟩ := hs4.form
  obtain ⟨A7, c8, rfl, hcc8, hs9⟩ := hs9.form
  refine W.enter (n := 80) Try.func84 rfl rfl Sub.refl (by simp) (St.start w) fun R hR => ?_
  unfold causal_check at hF
  -- region 0: causal.go:11
  refine W.seqR fun Q1 hQ1 => ?_
  refine WL.q (Y.assign (.pl rfl)) rfl ?_
  refine WL.q (Y.assign (.pl rfl)) rfl ?_
  refine WL.next hQ1 (.cons (i := 0) rfl (.cons (i := 1) rfl (.nil))) ?_
  -- region 1: causal.go:12
  refine W.seqR fun Q2 hQ2 => ?_
  refine WL.q (Y.move (.pl rfl)) rfl ?_
  refine WL.q (Y.move (.pl rfl)) rfl ?_
  obtain ⟨r11, hr11, hF⟩ := bnd hF
  refine WL.step (WO.callM isGo37 (.cons (.pl rfl) (.cons (.pl rfl) (.nil))) rfl (fun w hw => history_Calls_ok (hr11) w (hs4.mono hw) (hs9.mono hw)) ?_)
  rintro ⟨A12, c13⟩ -
  refine WL.q (Y.move (.pl rfl)) rfl ?_
  refine WL.q (Y.extract (.pl rfl) rfl) rfl ?_
  refine WL.q (Y.extract (.pl rfl) rfl) rfl ?_
  refine WL.q (Y.extract (.pl rfl) rfl) rfl ?_
  refine WL.q (Y.assign (.pl rfl)) rfl ?_
  refine WL.q (Y.assign (.pl rfl)) rfl ?_
  refine WL.q (Y.assign (.pl rfl)) rfl ?_
  refine WL.next hQ2 (.cons (i := 0) rfl (.cons (i := 6) rfl (.cons (i := 8) rfl (.nil)))) ?_
  refine W.seq fun K3 hK3 => ?_
  -- region 2: causal.go:13
  refine W.seqR fun Q4 hQ4 => ?_
  refine WL.q (Y.move (.pl rfl)) rfl ?_
  refine WL.q (Y.neq (.pl rfl) (.pl rfl)) rfl ?_
  refine WL.next hQ4 (.cons (i := 0) rfl (.cons (i := 6) rfl (.cons (i := 8) rfl (.cons (i := 23) rfl (.nil))))) ?_
  refine W.cond (.pl rfl) (fun hC5 => ?_) (fun hC5 => ?_)
  · replace hF := cpos hC5 hF
    -- region 3: causal.go:14
    refine W.seqR fun Q6 hQ6 => ?_
    refine WL.q (Y.move (.pl rfl)) rfl ?_
    refine WL.q (Y.assign (.pl rfl)) rfl ?_
    refine WL.q (Y.assign (.pl rfl)) rfl ?_
    refine WL.next hQ6 (.cons (i := 4) rfl (.cons (i := 5) rfl (.nil))) ?_
    obtain rfl := Option.some.inj hF
    refine W.retV (fn := Try.f84) (vs := [.slice none 0 0, .int .i64 r11.2.2]) Try.results84 ⟨.tmp rfl, ⟨.tmp rfl, trivial⟩⟩ (fun _ _ h => h) (fun w hw => ?_)
    exact hR _ _ ⟨(none, 0), trivial, rfl, ((St.nilR (hw.pick [] rfl) encCall 7 55).pick [0] rfl)⟩
  · replace hF := cneg hC5 hF
    refine W.skip ?_
    refine W.go hK3 (.cons (i := 0) rfl (.cons (i := 6) rfl (.nil))) ?_
    obtain ⟨o7, hF7, hF⟩ := bnd hF
    refine W.join0 (Em := []) (M := [cR encCall 7 A12 c13 55 r11.1]) (I := (.inl ()) = o7) (.cons (i := 6) rfl (.nil)) (fun K8 hK8 => ?_) ?_
    · -- up to
      -- region 4: causal.go:16
      refine W.seqR fun Q9 hQ9 => ?_
      refine WL.q (Y.move (.pl rfl)) rfl ?_
      refine WL.q (Y.len Try.underlying22 (.pl rfl)) rfl ?_
      refine WL.q (Y.move (.pl rfl)) rfl ?_
      refine WL.next hQ9 (.cons (i := 6) rfl (.cons (i := 25) rfl (.cons (i := 26) rfl (.cons (i := 27) rfl (.nil))))) ?_
      refine W.block ?_
      refine W.loop1 (Em := fun (v14 : Int) => [(27, .int .i64 v14)]) (M := fun v14 => [cR encCall 7 A12 c13 55 r11.1]) (I := fun v14 k10 => iter (causal_check_L17 N types1) k10 v14 = some o7) 0 N (hF7) (.cons rfl (.nil)) (.cons (i := 6) rfl (.cons (i := 25) rfl (.cons (i := 26) rfl (.nil)))) (fun w hw => hw.pick [0] rfl) (fun v14 k10 hI K11 hK11 => ?_)
      obtain ⟨k10, t10, rfl, hF10, hN10⟩ := iter_step hI
      -- region 5: causal.go:16
      refine W.seqR fun Q12 hQ12 => ?_
      refine WL.q (Y.lss (.pl rfl) (.pl rfl)) rfl ?_
      refine WL.next hQ12 (.cons (i := 6) rfl (.cons (i := 25) rfl (.cons (i := 26) rfl (.cons (i := 27) rfl (.cons (i := 28) rfl (.nil)))))) ?_
      refine W.seq fun K13 hK13 => ?_
      refine W.cond (.pl rfl) (fun hC14 => ?_) (fun hC14 => ?_)
      · replace hF10 := cpos hC14 hF10
        refine W.skip ?_
        refine W.go hK13 (.cons (i := 6) rfl (.cons (i := 25) rfl (.cons (i := 26) rfl (.cons (i := 27) rfl (.nil))))) ?_
        refine W.seq fun K15 hK15 => ?_
        refine W.block ?_
        -- region 6: causal.go:16
        refine W.seqR fun Q16 hQ16 => ?_
        obtain ⟨x15, hx15, hF10⟩ := bnd hF10
        refine WL.q (Y.slEl Try.underlying22 cells3 hs4 (.pl rfl) (.pl rfl) (ix_lt (hx15))) rfl ?_
        refine WL.q (Y.loadS (enc := (eI .i64)) (v := .int .i64 x15) (j := 0) Try.underlying3 rfl hs4 (.pl rfl) (hx15) rfl rfl) rfl ?_
        refine WL.q (Y.assign (.pl rfl)) rfl ?_
        refine WL.next hQ16 (.cons (i := 6) rfl (.cons (i := 10) rfl (.cons (i := 25) rfl (.cons (i := 26) rfl (.cons (i := 27) rfl (.nil)))))) ?_
        -- region 7: causal.go:17
        refine W.seqR fun Q17 hQ17 => ?_
        refine WL.q (Y.move (.pl rfl)) rfl ?_
        refine WL.q (Y.neq (.pl rfl) (.pl rfl)) rfl ?_
        refine WL.next hQ17 (.cons (i := 6) rfl (.cons (i := 25) rfl (.cons (i := 26) rfl (.cons (i := 27) rfl (.cons (i := 32) rfl (.nil)))))) ?_
        refine W.cond (.pl rfl) (fun hC18 => ?_) (fun hC18 => ?_)
        · replace hF10 := cpos hC18 hF10
          -- region 8: causal.go:18
          refine W.seqR fun Q19 hQ19 => ?_
          refine WL.q (Y.assign (.pl rfl)) rfl ?_
          refine WL.q (Y.assign (.pl rfl)) rfl ?_
          refine WL.next hQ19 (.cons (i := 4) rfl (.cons (i := 5) rfl (.nil))) ?_
          obtain rfl := Option.some.inj hF10
          obtain rfl := einr hN10
          obtain rfl := Option.some.inj hF
          refine W.retV (fn := Try.f84) (vs := [.slice none 0 0, .int .i64 6]) Try.results84 ⟨.tmp rfl, ⟨.tmp rfl, trivial⟩⟩ (fun _ _ h => h) (fun w hw => ?_)
          exact hR _ _ ⟨(none, 0), trivial, rfl, ((St.nilR (hw.pick [] rfl) encCall 7 55).pick [0] rfl)⟩
        · replace hF10 := cneg hC18 hF10
          refine W.skip ?_
          refine W.go hK15 (.cons (i := 6) rfl (.cons (i := 25) rfl (.cons (i := 26) rfl (.cons (i := 27) rfl (.nil))))) ?_
          -- region 9: causal.go:16
          refine W.reg ?_
          obtain ⟨hk16, hF10⟩ := ckh hF10
          refine WL.q (Y.add (.pl rfl) (.pl rfl) (ok64_lt (hk16))) rfl ?_
          refine WL.q (Y.move (.pl rfl)) rfl ?_
          refine WL.nil ?_
          obtain rfl := Option.some.inj hF10
          exact W.again1 hK11 (v14 + 1) k10 hN10 (Nat.lt_succ_self _) (.cons rfl (.nil)) (.cons (i := 6) rfl (.cons (i := 25) rfl (.cons (i := 26) rfl (.nil)))) (fun w hw => hw.pick [0] rfl)
      · replace hF10 := cneg hC14 hF10
        refine W.exit ?_
        obtain rfl := Option.some.inj hF10
        exact W.joinAt0 hK8  (einr hN10) (.nil) (.cons (i := 6) rfl (.nil)) (fun w hw => hw.pick [0] rfl)
    · -- behind
      rintro  rfl
      obtain ⟨o21, hF21, hF⟩ := bnd hF
      refine W.join0 (Em := []) (M := [cR encCall 7 A12 c13 55 r11.1]) (I := (.inl ()) = o21) (.cons (i := 6) rfl (.nil)) (fun K22 hK22 => ?_) ?_
      · -- up to
        -- region 10: causal.go:21
        refine W.seqR fun Q23 hQ23 => ?_
        refine WL.q (Y.move (.pl rfl)) rfl ?_
        refine WL.q (Y.len Try.underlying51 (.pl rfl)) rfl ?_
        refine WL.q (Y.move (.pl rfl)) rfl ?_
        refine WL.next hQ23 (.cons (i := 6) rfl (.cons (i := 34) rfl (.cons (i := 35) rfl (.cons (i := 36) rfl (.nil))))) ?_
        refine W.block ?_
        refine W.loop1 (Em := fun (v17 : Int) => [(36, .int .i64 v17)]) (M := fun v17 => [cR encCall 7 A12 c13 55 r11.1]) (I := fun v17 k24 => iter (causal_check_L29 N r11) k24 v17 = some o21) 0 N (hF21) (.cons rfl (.nil)) (.cons (i := 6) rfl (.cons (i := 34) rfl (.cons (i := 35) rfl (.nil)))) (fun w hw => hw.pick [0] rfl) (fun v17 k24 hI K25 hK25 => ?_)
        obtain ⟨k24, t24, rfl, hF24, hN24⟩ := iter_step hI
        -- region 11: causal.go:21
        refine W.seqR fun Q26 hQ26 => ?_
        refine WL.q (Y.lss (.pl rfl) (.pl rfl)) rfl ?_
        refine WL.next hQ26 (.cons (i := 6) rfl (.cons (i := 34) rfl (.cons (i := 35) rfl (.cons (i := 36) rfl (.cons (i := 37) rfl (.nil)))))) ?_
        refine W.seq fun K27 hK27 => ?_
        refine W.cond (.pl rfl) (fun hC28 => ?_) (fun hC28 => ?_)
        · replace hF24 := cpos hC28 hF24
          refine W.skip ?_
          refine W.go hK27 (.cons (i := 6) rfl (.cons (i := 34) rfl (.cons (i := 35) rfl (.cons (i := 36) rfl (.nil))))) ?_
          obtain ⟨o29, hF29, hF24⟩ := bnd hF24
          refine W.join0 (Em := []) (M := [cR encCall 7 A12 c13 55 r11.1]) (I := (.inl ()) = o29) (.cons (i := 6) rfl (.cons (i := 34) rfl (.cons (i := 35) rfl (.cons (i := 36) rfl (.nil))))) (fun K30 hK30 => ?_) ?_
          · -- up to
            refine W.block ?_
            -- region 12: causal.go:21
            refine W.seqR fun Q31 hQ31 => ?_
            refine WL.q (Y.move (.pl rfl)) rfl ?_
            obtain ⟨x18, hx18, hF29⟩ := bnd hF29
            refine WL.q (Y.rowEl Try.underlying51 cells55 (i := 0) rfl (.pl rfl) rfl (.pl rfl) (ix_lt (hx18))) rfl ?_
            refine WL.q (Y.loadRA (enc := encCall) (ds := (encCall x18)) (a := x18) (idx := v17) (j := 0) Try.underlying55 rfl cells55 lenCall (i := 0) rfl (.pl rfl) (ix_get (hx18)) rfl rfl subW) rfl ?_
            refine WL.step (WO.alloc (cs := (encCall (Call.mk 0 0 0 0 0 0 0)).toArray) zero55 rfl rfl fun b19 => ?_)
            refine WL.q (Y.assign (.pl rfl)) rfl ?_
            refine WL.step (WO.storeBA (ds := (encCall x18)) (cs' := (encCall x18)) cells55 (.pl rfl) (.pl rfl) rfl (oneCall _) (i := 0) rfl (lel (o := 0) (l := 7) (m := 7) (by decide) rfl rfl) (putW rfl) ?_)
            refine WL.next hQ31 (.cons (i := 6) rfl (.cons (i := 11) rfl (.cons (i := 12) rfl (.cons (i := 34) rfl (.cons (i := 35) rfl (.cons (i := 36) rfl (.nil))))))) ?_
            refine W.seq fun K32 hK32 => ?_
            -- region 13: causal.go:22
            refine W.seqR fun Q33 hQ33 => ?_
            refine WL.q (Y.fieldAddr0 (off := 6) (ft := 3) Try.underlying55 rfl cells3 (.pl rfl)) rfl ?_
            refine WL.q (Y.loadB (v := .int .i64 x18.to_) Try.underlying3 rfl (.pl rfl) (i := 0) rfl (rfl)) rfl ?_
            refine WL.q (Y.eql (.pl rfl) (.pl rfl)) rfl ?_
            refine WL.next hQ33 (.cons (i := 6) rfl (.cons (i := 11) rfl (.cons (i := 12) rfl (.cons (i := 34) rfl (.cons (i := 35) rfl (.cons (i := 36) rfl (.cons (i := 43) rfl (.nil)))))))) ?_
            refine W.cond (.pl rfl) (fun hC34 => ?_) (fun hC34 => ?_)
            · replace hF29 := cpos hC34 hF29
              -- region 14: causal.go:23
              refine W.seqR fun Q35 hQ35 => ?_
              refine WL.q (Y.assign (.pl rfl)) rfl ?_
              refine WL.q (Y.assign (.pl rfl)) rfl ?_
              refine WL.next hQ35 (.cons (i := 4) rfl (.cons (i := 5) rfl (.nil))) ?_
              obtain rfl := Option.some.inj hF29
              obtain rfl := Option.some.inj hF24
              obtain rfl := einr hN24
              obtain rfl := Option.some.inj hF
              refine W.retV (fn := Try.f84) (vs := [.slice none 0 0, .int .i64 6]) Try.results84 ⟨.tmp rfl, ⟨.tmp rfl, trivial⟩⟩ (fun _ _ h => h) (fun w hw => ?_)
              exact hR _ _ ⟨(none, 0), trivial, rfl, ((St.nilR (hw.pick [] rfl) encCall 7 55).pick [0] rfl)⟩
            · replace hF29 := cneg hC34 hF29
              refine W.skip ?_
              refine W.go hK32 (.cons (i := 6) rfl (.cons (i := 11) rfl (.cons (i := 12) rfl (.cons (i := 34) rfl (.cons (i := 35) rfl (.cons (i := 36) rfl (.nil))))))) ?_
              -- region 15: causal.go:25
              refine W.seqR fun Q36 hQ36 => ?_
              refine WL.q (Y.move (.pl rfl)) rfl ?_
              refine WL.q (Y.move (.pl rfl)) rfl ?_
              obtain ⟨hk20, hF29⟩ := ckh hF29
              refine WL.q (Y.sliceR0 Try.underlying51 cells55 (i := 1) rfl (.pl rfl) rfl (.pl rfl) (hk20)) rfl ?_
              refine WL.q (Y.len Try.underlying51 (.pl rfl)) rfl ?_
              refine WL.q (Y.move (.pl rfl)) rfl ?_
              refine WL.next hQ36 (.cons (i := 6) rfl (.cons (i := 12) rfl (.cons (i := 34) rfl (.cons (i := 35) rfl (.cons (i := 36) rfl (.cons (i := 46) rfl (.cons (i := 47) rfl (.cons (i := 48) rfl (.nil))))))))) ?_
              refine W.block ?_
              refine W.loop1 (Em := fun (v21 : Int) => [(48, .int .i64 v21)]) (M := fun v21 => [cR encCall 7 A12 c13 55 r11.1, cBx b19 55 (encCall x18)]) (I := fun v21 k37 => iter (causal_check_L31 N r11 v17 x18) k37 v21 = some o29) 0 N (hF29) (.cons rfl (.nil)) (.cons (i := 6) rfl (.cons (i := 12) rfl (.cons (i := 34) rfl (.cons (i := 35) rfl (.cons (i := 36) rfl (.cons (i := 46) rfl (.cons (i := 47) rfl (.nil)))))))) (fun w hw => hw.pick [1, 0] rfl) (fun v21 k37 hI K38 hK38 => ?_)
              obtain ⟨k37, t37, rfl, hF37, hN37⟩ := iter_step hI
              -- region 16: causal.go:25
              refine W.seqR fun Q39 hQ39 => ?_
              refine WL.q (Y.lss (.pl rfl) (.pl rfl)) rfl ?_
              refine WL.next hQ39 (.cons (i := 6) rfl (.cons (i := 12) rfl (.cons (i := 34) rfl (.cons (i := 35) rfl (.cons (i := 36) rfl (.cons (i := 46) rfl (.cons (i := 47) rfl (.cons (i := 48) rfl (.cons (i := 49) rfl (.nil)))))))))) ?_
              refine W.seq fun K40 hK40 => ?_
              refine W.cond (.pl rfl) (fun hC41 => ?_) (fun hC41 => ?_)
              · replace hF37 := cpos hC41 hF37
                refine W.skip ?_
                refine W.go hK40 (.cons (i := 6) rfl (.cons (i := 12) rfl (.cons (i := 34) rfl (.cons (i := 35) rfl (.cons (i := 36) rfl (.cons (i := 46) rfl (.cons (i := 47) rfl (.cons (i := 48) rfl (.nil))))))))) ?_
                refine W.seq fun K42 hK42 => ?_
                refine W.block ?_
                -- region 17: causal.go:25
                refine W.seqR fun Q43 hQ43 => ?_
                obtain ⟨x22, hx22, hF37⟩ := bnd hF37
                refine WL.q (Y.viewEl0 (xs := r11.1) Try.underlying51 cells55 (i := 0) rfl (.pl rfl) (.pl rfl) (ix_lt (hx22)) (ix_lt (ix_view0 (hx22))).2) rfl ?_
                refine WL.q (Y.loadRA (enc := encCall) (ds := (encCall x22)) (a := x22) (idx := v21) (j := 0) Try.underlying55 rfl cells55 lenCall (i := 0) rfl (.pl rfl) (ix_get (ix_view0 (hx22))) rfl rfl subW) rfl ?_
                refine WL.step (WO.alloc (cs := (encCall (Call.mk 0 0 0 0 0 0 0)).toArray) zero55 rfl rfl fun b23 => ?_)
                refine WL.step (WO.storeBA (ds := (encCall x22)) (cs' := (encCall x22)) cells55 (.pl rfl) (.pl rfl) rfl (oneCall _) (i := 0) rfl (lel (o := 0) (l := 7) (m := 7) (by decide) rfl rfl) (putW rfl) ?_)
                refine WL.next hQ43 (.cons (i := 6) rfl (.cons (i := 12) rfl (.cons (i := 14) rfl (.cons (i := 34) rfl (.cons (i := 35) rfl (.cons (i := 36) rfl (.cons (i := 46) rfl (.cons (i := 47) rfl (.cons (i := 48) rfl (.nil)))))))))) ?_
                -- region 18: causal.go:26
                refine W.seqR fun Q44 hQ44 => ?_
                refine WL.q (Y.fieldAddr0 (off := 2) (ft := 3) Try.underlying55 rfl cells3 (.pl rfl)) rfl ?_
                refine WL.q (Y.loadB (v := .int .i64 x18.kind) Try.underlying3 rfl (.pl rfl) (i := 2) rfl (rfl)) rfl ?_
                refine WL.q (Y.eql (.pl rfl) (.pl rfl)) rfl ?_
                refine WL.q (Y.move (.pl rfl)) rfl ?_
                refine WL.g (.pl rfl rfl rfl) (fun hg => Y.fieldAddr0 (off := 2) (ft := 3) Try.underlying55 rfl cells3 (.pl rfl)) rfl ?_
                refine WL.g (.pl rfl rfl rfl) (fun hg => Y.loadB (v := .int .i64 x22.kind) Try.underlying3 rfl (.gd (hg) rfl) (i := 0) rfl (rfl)) rfl ?_
                refine WL.g (.pl rfl rfl rfl) (fun hg => Y.eql (.gd (hg) rfl) (.pl rfl)) rfl ?_
                refine WL.q (Y.and (.pl rfl) (fun h2 => .gd (eqt h2) rfl)) rfl ?_
                refine WL.q (Y.move (.pl rfl)) rfl ?_
                refine WL.g (.pl rfl rfl rfl) (fun hg => Y.fieldAddr0 (off := 1) (ft := 3) Try.underlying55 rfl cells3 (.pl rfl)) rfl ?_
                refine WL.g (.pl rfl rfl rfl) (fun hg => Y.loadB (v := .int .i64 x18.thing) Try.underlying3 rfl (.gd (hg) rfl) (i := 2) rfl (rfl)) rfl ?_
                refine WL.g (.pl rfl rfl rfl) (fun hg => Y.fieldAddr0 (off := 1) (ft := 3) Try.underlying55 rfl cells3 (.pl rfl)) rfl ?_
                refine WL.g (.pl rfl rfl rfl) (fun hg => Y.loadB (v := .int .i64 x22.thing) Try.underlying3 rfl (.gd (hg) rfl) (i := 0) rfl (rfl)) rfl ?_
                refine WL.g (.pl rfl rfl rfl) (fun hg => Y.eql (.gd (hg) rfl) (.gd (hg) rfl)) rfl ?_
                refine WL.q (Y.and (.pl rfl) (fun h2 => .gd (eqt h2) rfl)) rfl ?_
                refine WL.q (Y.move (.pl rfl)) rfl ?_
                refine WL.g (.pl rfl rfl rfl) (fun hg => Y.fieldAddr0 (off := 3) (ft := 3) Try.underlying55 rfl cells3 (.pl rfl)) rfl ?_
                refine WL.g (.pl rfl rfl rfl) (fun hg => Y.loadB (v := .int .i64 x18.arg) Try.underlying3 rfl (.gd (hg) rfl) (i := 2) rfl (rfl)) rfl ?_
                refine WL.g (.pl rfl rfl rfl) (fun hg => Y.fieldAddr0 (off := 3) (ft := 3) Try.underlying55 rfl cells3 (.pl rfl)) rfl ?_
                refine WL.g (.pl rfl rfl rfl) (fun hg => Y.loadB (v := .int .i64 x22.arg) Try.underlying3 rfl (.gd (hg) rfl) (i := 0) rfl (rfl)) rfl ?_
                refine WL.g (.pl rfl rfl rfl) (fun hg => Y.eql (.gd (hg) rfl) (.gd (hg) rfl)) rfl ?_
                refine WL.q (Y.and (.pl rfl) (fun h2 => .gd (eqt h2) rfl)) rfl ?_
                refine WL.next hQ44 (.cons (i := 6) rfl (.cons (i := 12) rfl (.cons (i := 34) rfl (.cons (i := 35) rfl (.cons (i := 36) rfl (.cons (i := 46) rfl (.cons (i := 47) rfl (.cons (i := 48) rfl (.cons (i := 73) rfl (.nil)))))))))) ?_
                refine W.cond (.pl rfl) (fun hC45 => ?_) (fun hC45 => ?_)
                · replace hF37 := cpos hC45 hF37
                  -- region 19: causal.go:27
                  refine W.seqR fun Q46 hQ46 => ?_
                  refine WL.q (Y.assign (.pl rfl)) rfl ?_
                  refine WL.q (Y.assign (.pl rfl)) rfl ?_
                  refine WL.next hQ46 (.cons (i := 4) rfl (.cons (i := 5) rfl (.nil))) ?_
                  obtain rfl := Option.some.inj hF37
                  obtain rfl := einr hN37
                  obtain rfl := Option.some.inj hF24
                  obtain rfl := einr hN24
                  obtain rfl := Option.some.inj hF
                  refine W.retV (fn := Try.f84) (vs := [.slice none 0 0, .int .i64 6]) Try.results84 ⟨.tmp rfl, ⟨.tmp rfl, trivial⟩⟩ (fun _ _ h => h) (fun w hw => ?_)
                  exact hR _ _ ⟨(none, 0), trivial, rfl, ((St.nilR (hw.pick [] rfl) encCall 7 55).pick [0] rfl)⟩
                · replace hF37 := cneg hC45 hF37
                  refine W.skip ?_
                  refine W.go hK42 (.cons (i := 6) rfl (.cons (i := 12) rfl (.cons (i := 34) rfl (.cons (i := 35) rfl (.cons (i := 36) rfl (.cons (i := 46) rfl (.cons (i := 47) rfl (.cons (i := 48) rfl (.nil))))))))) ?_
                  -- region 20: causal.go:25
                  refine W.reg ?_
                  obtain ⟨hk24, hF37⟩ := ckh hF37
                  refine WL.q (Y.add (.pl rfl) (.pl rfl) (ok64_lt (hk24))) rfl ?_
                  refine WL.q (Y.move (.pl rfl)) rfl ?_
                  refine WL.nil ?_
                  obtain rfl := Option.some.inj hF37
                  exact W.again1 hK38 (v21 + 1) k37 hN37 (Nat.lt_succ_self _) (.cons rfl (.nil)) (.cons (i := 6) rfl (.cons (i := 12) rfl (.cons (i := 34) rfl (.cons (i := 35) rfl (.cons (i := 36) rfl (.cons (i := 46) rfl (.cons (i := 47) rfl (.nil)))))))) (fun w hw => hw.pick [1, 2] rfl)
              · replace hF37 := cneg hC41 hF37
                refine W.exit ?_
                obtain rfl := Option.some.inj hF37
                exact W.joinAt0 hK30  (einr hN37) (.nil) (.cons (i := 6) rfl (.cons (i := 34) rfl (.cons (i := 35) rfl (.cons (i := 36) rfl (.nil))))) (fun w hw => hw.pick [0] rfl)
          · -- behind
            rintro  rfl
            -- region 21: causal.go:21
            refine W.reg ?_
            obtain ⟨hk25, hF24⟩ := ckh hF24
            refine WL.q (Y.add (.pl rfl) (.pl rfl) (ok64_lt (hk25))) rfl ?_
            refine WL.q (Y.move (.pl rfl)) rfl ?_
            refine WL.nil ?_
            obtain rfl := Option.some.inj hF24
            exact W.again1 hK25 (v17 + 1) k24 hN24 (Nat.lt_succ_self _) (.cons rfl (.nil)) (.cons (i := 6) rfl (.cons (i := 34) rfl (.cons (i := 35) rfl (.nil)))) (fun w hw => hw.pick [0] rfl)
        · replace hF24 := cneg hC28 hF24
          refine W.exit ?_
          obtain rfl := Option.some.inj hF24
          exact W.joinAt0 hK22  (einr hN24) (.nil) (.cons (i := 6) rfl (.nil)) (fun w hw => hw.pick [0] rfl)
      · -- behind
        rintro  rfl
        refine W.seq fun K49 hK49 => ?_
        -- region 22: causal.go:31
        refine W.seqR fun Q50 hQ50 => ?_
        refine WL.q (Y.move (.pl rfl)) rfl ?_
        refine WL.q (Y.len Try.underlying51 (.pl rfl)) rfl ?_
        refine WL.q (Y.gtr (.pl rfl) (.pl rfl)) rfl ?_
        refine WL.next hQ50 (.cons (i := 6) rfl (.cons (i := 78) rfl (.nil))) ?_
        refine W.cond (.pl rfl) (fun hC51 => ?_) (fun hC51 => ?_)
        · replace hF := cpos hC51 hF
          -- region 23: causal.go:32
          refine W.seqR fun Q52 hQ52 => ?_
          refine WL.q (Y.assign (.pl rfl)) rfl ?_
          refine WL.q (Y.assign (.pl rfl)) rfl ?_
          refine WL.next hQ52 (.cons (i := 4) rfl (.cons (i := 5) rfl (.nil))) ?_
          obtain rfl := Option.some.inj hF
          refine W.retV (fn := Try.f84) (vs := [.slice none 0 0, .int .i64 2]) Try.results84 ⟨.tmp rfl, ⟨.tmp rfl, trivial⟩⟩ (fun _ _ h => h) (fun w hw => ?_)
          exact hR _ _ ⟨(none, 0), trivial, rfl, ((St.nilR (hw.pick [] rfl) encCall 7 55).pick [0] rfl)⟩
        · replace hF := cneg hC51 hF
          refine W.skip ?_
          refine W.go hK49 (.cons (i := 6) rfl (.nil)) ?_
          -- region 24: causal.go:34
          refine W.seqR fun Q53 hQ53 => ?_
          refine WL.q (Y.move (.pl rfl)) rfl ?_
          refine WL.q (Y.assign (.pl rfl)) rfl ?_
          refine WL.q (Y.assign (.pl rfl)) rfl ?_
          refine WL.next hQ53 (.cons (i := 4) rfl (.cons (i := 5) rfl (.nil))) ?_
          obtain rfl := Option.some.inj hF
          refine W.retV (fn := Try.f84) (vs := [.slice A12 (r11.1).length c13, .int .i64 0]) Try.results84 ⟨.tmp rfl, ⟨.tmp rfl, trivial⟩⟩ (fun _ _ h => h) (fun w hw => ?_)
          exact hR _ _ ⟨(A12, c13), trivial, rfl, (hw.pick [0] rfl)⟩

def causal_programs_L27 (N : Nat) (calls1 : (List Call)) (x12 : Call) (v10 : Int) : ((List Int) × Int) → Option (((List Int) × Int) ⊕ (List Int))
  | (After14, v15) =>
    cond (decide (v15 < ((calls1).length : Int)))
      (bd (ix calls1 v15) fun (x16 : Call) =>
      cond ((decide (x12.who = x16.who)) && (decide (x12.from_ < x16.from_)))
        (bd (ax 12 0 After14 v10) fun (x18 : Int) =>
        bd (ax 12 0 After14 v10) fun (x19 : Int) =>
        ck (ok64 (v15 + 1)) <|
        some (.inl ((setA 12 0 After14 v10 (borI .u16 x18 (shlI .u16 1 (IntKind.u64.wrap v15)))), (v15 + 1))))
        (ck (ok64 (v15 + 1)) <|
        some (.inl (After14, (v15 + 1)))))
      (some (.inr After14))

def causal_programs_L25 (N : Nat) (calls1 : (List Call)) : ((List Int) × Int) → Option (((List Int) × Int) ⊕ (List Int))
  | (After9, v10) =>
    cond (decide (v10 < ((calls1).length : Int)))
      (bd (α := (List Int)) (bd (ix calls1 v10) fun (x12 : Call) =>
        iter (causal_programs_L27 N calls1 x12 v10) N (After9, 0)) <|
      fun (After11 : (List Int)) => 
        ck (ok64 (v10 + 1)) <|
        some (.inl (After11, (v10 + 1))))
      (some (.inr After9))

def causal_programs (N : Nat) (calls1 : (List Call)) : Option (List Int) :=
  bd (α := (List Int)) (iter (causal_programs_L25 N calls1) N ([], 0)) <|
  fun (After8 : (List Int)) => 
    some After8

theorem causal_programs_ok {N : Nat} {calls1 : (List Call)} {res : (List Int)} (hF : causal_programs N calls1 = some res) (w : World) {v5 : Value} (hs4 : SlIn encCall 7 w v5 calls1) :
    Pure Try.prog 87 [v5] w (.agg (encRel (Rel.mk ((calls1).length : Int) res)).toArray) := by
  obtain ⟨A2, c3, rfl, hcc3, hs4⟩ := hs4.form
  refine W.enter (n := 50) Try.func87 rfl rfl Sub.refl (by simp) (St.start w) fun R hR => ?_
  unfold causal_programs at hF
  -- region 0: causal.go:38
  refine W.seqR fun Q1 hQ1 => ?_
  refine WL.step (WO.alloc (cs := (encRel (Rel.mk 0 [])).toArray) zero99 rfl rfl fun b6 => ?_)
  refine WL.next hQ1 (.cons (i := 0) rfl (.cons (i := 2) rfl (.nil))) ?_
  -- region 1: causal.go:39
  refine W.seqR fun Q2 hQ2 => ?_
  refine WL.q (Y.move (.pl rfl)) rfl ?_
  refine WL.q (Y.len Try.underlying51 (.pl rfl)) rfl ?_
  refine WL.q (Y.build (cs := (encRel (Rel.mk ((calls1).length : Int) [])).toArray) shape99 (.cons (.pl rfl) (.nil)) (one_parts ⟨rfl, trivial⟩) rfl) rfl ?_
  refine WL.step (WO.alloc (cs := (encRel (Rel.mk 0 [])).toArray) zero99 rfl rfl fun b7 => ?_)
  refine WL.step (WO.storeBA (ds := (encRel (Rel.mk ((calls1).length : Int) []))) (cs' := (encRel (Rel.mk ((calls1).length : Int) []))) cells99 (.pl rfl) (.pl rfl) rfl (oneRel _) (i := 0) rfl (lel (o := 0) (l := 13) (m := 13) (by decide) rfl rfl) (putW rfl) ?_)
  refine WL.next hQ2 (.cons (i := 0) rfl (.cons (i := 2) rfl (.cons (i := 3) rfl (.nil)))) ?_
  obtain ⟨o3, hF3, hF⟩ := bnd hF
  refine W.join1 (Em := fun (After8 : (List Int)) => []) (M := fun After8 => [cBx b6 99 (encRel (Rel.mk 0 [])), cBx b7 99 (encRel (Rel.mk ((calls1).length : Int) After8))]) (I := fun After8 => After8 = o3) (.cons (i := 2) rfl (.cons (i := 3) rfl (.nil))) (fun K4 hK4 => ?_) ?_
  · -- up to
    -- region 2: causal.go:40
    refine W.seqR fun Q5 hQ5 => ?_
    refine WL.q (Y.move (.pl rfl)) rfl ?_
    refine WL.q (Y.len Try.underlying51 (.pl rfl)) rfl ?_
    refine WL.q (Y.move (.pl rfl)) rfl ?_
    refine WL.next hQ5 (.cons (i := 0) rfl (.cons (i := 2) rfl (.cons (i := 3) rfl (.cons (i := 11) rfl (.cons (i := 12) rfl (.cons (i := 13) rfl (.nil))))))) ?_
    refine W.block ?_
    refine W.loop2 (Em := fun (After9 : (List Int)) (v10 : Int) => [(13, .int .i64 v10)]) (M := fun After9 v10 => [cBx b6 99 (encRel (Rel.mk 0 [])), cBx b7 99 (encRel (Rel.mk ((calls1).length : Int) After9))]) (I := fun After9 v10 k6 => iter (causal_programs_L25 N calls1) k6 (After9, v10) = some o3) [] 0 N (hF3) (.cons rfl (.nil)) (.cons (i := 0) rfl (.cons (i := 2) rfl (.cons (i := 3) rfl (.cons (i := 11) rfl (.cons (i := 12) rfl (.nil)))))) (fun w hw => hw.pick [1, 0] rfl) (fun After9 v10 k6 hI K7 hK7 => ?_)
    obtain ⟨k6, t6, rfl, hF6, hN6⟩ := iter_step hI
    -- region 3: causal.go:40
    refine W.seqR fun Q8 hQ8 => ?_
    refine WL.q (Y.lss (.pl rfl) (.pl rfl)) rfl ?_
    refine WL.next hQ8 (.cons (i := 0) rfl (.cons (i := 2) rfl (.cons (i := 3) rfl (.cons (i := 11) rfl (.cons (i := 12) rfl (.cons (i := 13) rfl (.cons (i := 14) rfl (.nil)))))))) ?_
    refine W.seq fun K9 hK9 => ?_
    refine W.cond (.pl rfl) (fun hC10 => ?_) (fun hC10 => ?_)
    · replace hF6 := cpos hC10 hF6
      refine W.skip ?_
      refine W.go hK9 (.cons (i := 0) rfl (.cons (i := 2) rfl (.cons (i := 3) rfl (.cons (i := 11) rfl (.cons (i := 12) rfl (.cons (i := 13) rfl (.nil))))))) ?_
      obtain ⟨o11, hF11, hF6⟩ := bnd hF6
      refine W.join1 (Em := fun (After11 : (List Int)) => []) (M := fun After11 => [cBx b6 99 (encRel (Rel.mk 0 [])), cBx b7 99 (encRel (Rel.mk ((calls1).length : Int) After11))]) (I := fun After11 => After11 = o11) (.cons (i := 0) rfl (.cons (i := 2) rfl (.cons (i := 3) rfl (.cons (i := 11) rfl (.cons (i := 12) rfl (.cons (i := 13) rfl (.nil))))))) (fun K12 hK12 => ?_) ?_
      · -- up to
        refine W.block ?_
        -- region 4: causal.go:40
        refine W.seqR fun Q13 hQ13 => ?_
        refine WL.q (Y.move (.pl rfl)) rfl ?_
        obtain ⟨x12, hx12, hF11⟩ := bnd hF11
        refine WL.q (Y.slEl Try.underlying51 cells55 hs4 (.pl rfl) (.pl rfl) (ix_lt (hx12))) rfl ?_
        refine WL.q (Y.loadSA (enc := encCall) (ds := (encCall x12)) (j := 0) Try.underlying55 rfl cells55 hs4 (.pl rfl) (hx12) rfl rfl subW) rfl ?_
        refine WL.step (WO.alloc (cs := (encCall (Call.mk 0 0 0 0 0 0 0)).toArray) zero55 rfl rfl fun b13 => ?_)
        refine WL.q (Y.assign (.pl rfl)) rfl ?_
        refine WL.step (WO.storeBA (ds := (encCall x12)) (cs' := (encCall x12)) cells55 (.pl rfl) (.pl rfl) rfl (oneCall _) (i := 0) rfl (lel (o := 0) (l := 7) (m := 7) (by decide) rfl rfl) (putW rfl) ?_)
        refine WL.next hQ13 (.cons (i := 0) rfl (.cons (i := 2) rfl (.cons (i := 3) rfl (.cons (i := 4) rfl (.cons (i := 5) rfl (.cons (i := 11) rfl (.cons (i := 12) rfl (.cons (i := 13) rfl (.nil))))))))) ?_
        -- region 5: causal.go:41
        refine W.seqR fun Q14 hQ14 => ?_
        refine WL.q (Y.move (.pl rfl)) rfl ?_
        refine WL.q (Y.len Try.underlying51 (.pl rfl)) rfl ?_
        refine WL.q (Y.move (.pl rfl)) rfl ?_
        refine WL.next hQ14 (.cons (i := 0) rfl (.cons (i := 2) rfl (.cons (i := 3) rfl (.cons (i := 4) rfl (.cons (i := 5) rfl (.cons (i := 11) rfl (.cons (i := 12) rfl (.cons (i := 13) rfl (.cons (i := 18) rfl (.cons (i := 19) rfl (.cons (i := 20) rfl (.nil)))))))))))) ?_
        refine W.block ?_
        refine W.loop2 (Em := fun (After14 : (List Int)) (v15 : Int) => [(20, .int .i64 v15)]) (M := fun After14 v15 => [cBx b6 99 (encRel (Rel.mk 0 [])), cBx b7 99 (encRel (Rel.mk ((calls1).length : Int) After14)), cBx b13 55 (encCall x12)]) (I := fun After14 v15 k15 => iter (causal_programs_L27 N calls1 x12 v10) k15 (After14, v15) = some o11) After9 0 N (hF11) (.cons rfl (.nil)) (.cons (i := 0) rfl (.cons (i := 2) rfl (.cons (i := 3) rfl (.cons (i := 4) rfl (.cons (i := 5) rfl (.cons (i := 11) rfl (.cons (i := 12) rfl (.cons (i := 13) rfl (.cons (i := 18) rfl (.cons (i := 19) rfl (.nil))))))))))) (fun w hw => hw.pick [1, 2, 0] rfl) (fun After14 v15 k15 hI K16 hK16 => ?_)
        obtain ⟨k15, t15, rfl, hF15, hN15⟩ := iter_step hI
        -- region 6: causal.go:41
        refine W.seqR fun Q17 hQ17 => ?_
        refine WL.q (Y.lss (.pl rfl) (.pl rfl)) rfl ?_
        refine WL.next hQ17 (.cons (i := 0) rfl (.cons (i := 2) rfl (.cons (i := 3) rfl (.cons (i := 4) rfl (.cons (i := 5) rfl (.cons (i := 11) rfl (.cons (i := 12) rfl (.cons (i := 13) rfl (.cons (i := 18) rfl (.cons (i := 19) rfl (.cons (i := 20) rfl (.cons (i := 21) rfl (.nil))))))))))))) ?_
        refine W.seq fun K18 hK18 => ?_
        refine W.cond (.pl rfl) (fun hC19 => ?_) (fun hC19 => ?_)
        · replace hF15 := cpos hC19 hF15
          refine W.skip ?_
          refine W.go hK18 (.cons (i := 0) rfl (.cons (i := 2) rfl (.cons (i := 3) rfl (.cons (i := 4) rfl (.cons (i := 5) rfl (.cons (i := 11) rfl (.cons (i := 12) rfl (.cons (i := 13) rfl (.cons (i := 18) rfl (.cons (i := 19) rfl (.cons (i := 20) rfl (.nil)))))))))))) ?_
          refine W.seq fun K20 hK20 => ?_
          refine W.block ?_
          -- region 7: causal.go:41
          refine W.seqR fun Q21 hQ21 => ?_
          refine WL.q (Y.move (.pl rfl)) rfl ?_
          obtain ⟨x16, hx16, hF15⟩ := bnd hF15
          refine WL.q (Y.slEl Try.underlying51 cells55 hs4 (.pl rfl) (.pl rfl) (ix_lt (hx16))) rfl ?_
          refine WL.q (Y.loadSA (enc := encCall) (ds := (encCall x16)) (j := 0) Try.underlying55 rfl cells55 hs4 (.pl rfl) (hx16) rfl rfl subW) rfl ?_
          refine WL.step (WO.alloc (cs := (encCall (Call.mk 0 0 0 0 0 0 0)).toArray) zero55 rfl rfl fun b17 => ?_)
          refine WL.q (Y.assign (.pl rfl)) rfl ?_
          refine WL.step (WO.storeBA (ds := (encCall x16)) (cs' := (encCall x16)) cells55 (.pl rfl) (.pl rfl) rfl (oneCall _) (i := 0) rfl (lel (o := 0) (l := 7) (m := 7) (by decide) rfl rfl) (putW rfl) ?_)
          refine WL.next hQ21 (.cons (i := 0) rfl (.cons (i := 2) rfl (.cons (i := 3) rfl (.cons (i := 4) rfl (.cons (i := 5) rfl (.cons (i := 6) rfl (.cons (i := 7) rfl (.cons (i := 11) rfl (.cons (i := 12) rfl (.cons (i := 13) rfl (.cons (i := 18) rfl (.cons (i := 19) rfl (.cons (i := 20) rfl (.nil)))))))))))))) ?_
          -- region 8: causal.go:42
          refine W.seqR fun Q22 hQ22 => ?_
          refine WL.q (Y.fieldAddr0 (off := 0) (ft := 3) Try.underlying55 rfl cells3 (.pl rfl)) rfl ?_
          refine WL.q (Y.loadB (v := .int .i64 x12.who) Try.underlying3 rfl (.pl rfl) (i := 3) rfl (rfl)) rfl ?_
          refine WL.q (Y.fieldAddr0 (off := 0) (ft := 3) Try.underlying55 rfl cells3 (.pl rfl)) rfl ?_
          refine WL.q (Y.loadB (v := .int .i64 x16.who) Try.underlying3 rfl (.pl rfl) (i := 0) rfl (rfl)) rfl ?_
          refine WL.q (Y.eql (.pl rfl) (.pl rfl)) rfl ?_
          refine WL.q (Y.move (.pl rfl)) rfl ?_
          refine WL.g (.pl rfl rfl rfl) (fun hg => Y.fieldAddr0 (off := 5) (ft := 3) Try.underlying55 rfl cells3 (.pl rfl)) rfl ?_
          refine WL.g (.pl rfl rfl rfl) (fun hg => Y.loadB (v := .int .i64 x12.from_) Try.underlying3 rfl (.gd (hg) rfl) (i := 3) rfl (rfl)) rfl ?_
          refine WL.g (.pl rfl rfl rfl) (fun hg => Y.fieldAddr0 (off := 5) (ft := 3) Try.underlying55 rfl cells3 (.pl rfl)) rfl ?_
          refine WL.g (.pl rfl rfl rfl) (fun hg => Y.loadB (v := .int .i64 x16.from_) Try.underlying3 rfl (.gd (hg) rfl) (i := 0) rfl (rfl)) rfl ?_
          refine WL.g (.pl rfl rfl rfl) (fun hg => Y.lss (.gd (hg) rfl) (.gd (hg) rfl)) rfl ?_
          refine WL.q (Y.and (.pl rfl) (fun h2 => .gd (eqt h2) rfl)) rfl ?_
          refine WL.next hQ22 (.cons (i := 0) rfl (.cons (i := 2) rfl (.cons (i := 3) rfl (.cons (i := 4) rfl (.cons (i := 5) rfl (.cons (i := 6) rfl (.cons (i := 11) rfl (.cons (i := 12) rfl (.cons (i := 13) rfl (.cons (i := 18) rfl (.cons (i := 19) rfl (.cons (i := 20) rfl (.cons (i := 36) rfl (.nil)))))))))))))) ?_
          refine W.cond (.pl rfl) (fun hC23 => ?_) (fun hC23 => ?_)
          · replace hF15 := cpos hC23 hF15
            -- region 9: causal.go:43
            refine W.reg ?_
            refine WL.q (Y.move (.pl rfl)) rfl ?_
            refine WL.q (Y.fieldAddr0 (off := 1) (ft := 97) Try.underlying99 rfl cells97 (.pl rfl)) rfl ?_
            obtain ⟨x18, hx18, hF15⟩ := bnd hF15
            refine WL.q (Y.arrZ Try.underlying97 cells96 (.pl rfl) (.pl rfl) (ax_lt (hx18))) rfl ?_
            refine WL.q (Y.loadB (v := .int .u16 x18) Try.underlying96 rfl (.pl rfl) (i := 2) rfl (cellsA (pre := (Value.int .i64 ((calls1).length : Int) :: [])) (off := 1) (post := []) (a := After14) (enc := (eI .u16)) (d := 0) (n := 12) (sz := 1) (j := 0) (fun _ => rfl) rfl (ax_nat (hx18)) (ax_get (hx18)) rfl)) rfl ?_
            refine WL.q (Y.move (.pl rfl)) rfl ?_
            refine WL.q (Y.conv Try.underlying3 Try.underlying113 (.pl rfl)) rfl ?_
            refine WL.q (Y.shl (.pl rfl) (.pl rfl) (wrapU_nn rfl _)) rfl ?_
            refine WL.q (Y.bor (.pl rfl) (.pl rfl)) rfl ?_
            refine WL.q (Y.fieldAddr0 (off := 1) (ft := 97) Try.underlying99 rfl cells97 (.pl rfl)) rfl ?_
            obtain ⟨x19, hx19, hF15⟩ := bnd hF15
            refine WL.q (Y.arrZ Try.underlying97 cells96 (.pl rfl) (.pl rfl) (ax_lt (hx19))) rfl ?_
            refine WL.step (WO.storeB (cs' := (encRel (Rel.mk ((calls1).length : Int) (setA 12 0 After14 v10 (borI .u16 x18 (shlI .u16 1 (IntKind.u64.wrap v15))))))) cells96 (.pl rfl) (.pl rfl) rfl (i := 2) rfl (ltl (m := 13) (offlt (off := 1) (sz := 1) (j := 0) (ax_nat (hx19)) (by decide)) rfl) (cellsSet (pre := (Value.int .i64 ((calls1).length : Int) :: [])) (off := 1) (post := []) (a := After14) (enc := (eI .u16)) (d := 0) (n := 12) (sz := 1) (j := 0) (x := x19) (x' := (borI .u16 x18 (shlI .u16 1 (IntKind.u64.wrap v15)))) (fun _ => rfl) rfl (ax_lt (hx19)) (ax_get (hx19)) (by decide) rfl rfl) ?_)
            refine WL.nil ?_
            refine W.go hK20 (.cons (i := 0) rfl (.cons (i := 2) rfl (.cons (i := 3) rfl (.cons (i := 4) rfl (.cons (i := 5) rfl (.cons (i := 11) rfl (.cons (i := 12) rfl (.cons (i := 13) rfl (.cons (i := 18) rfl (.cons (i := 19) rfl (.cons (i := 20) rfl (.nil)))))))))))) ?_
            -- region 10: causal.go:41
            refine W.reg ?_
            obtain ⟨hk20, hF15⟩ := ckh hF15
            refine WL.q (Y.add (.pl rfl) (.pl rfl) (ok64_lt (hk20))) rfl ?_
            refine WL.q (Y.move (.pl rfl)) rfl ?_
            refine WL.nil ?_
            obtain rfl := Option.some.inj hF15
            exact W.again2 hK16 (setA 12 0 After14 v10 (borI .u16 x18 (shlI .u16 1 (IntKind.u64.wrap v15)))) (v15 + 1) k15 hN15 (Nat.lt_succ_self _) (.cons rfl (.nil)) (.cons (i := 0) rfl (.cons (i := 2) rfl (.cons (i := 3) rfl (.cons (i := 4) rfl (.cons (i := 5) rfl (.cons (i := 11) rfl (.cons (i := 12) rfl (.cons (i := 13) rfl (.cons (i := 18) rfl (.cons (i := 19) rfl (.nil))))))))))) (fun w hw => hw.pick [1, 2, 3] rfl)
          · replace hF15 := cneg hC23 hF15
            refine W.skip ?_
            refine W.go hK20 (.cons (i := 0) rfl (.cons (i := 2) rfl (.cons (i := 3) rfl (.cons (i := 4) rfl (.cons (i := 5) rfl (.cons (i := 11) rfl (.cons (i := 12) rfl (.cons (i := 13) rfl (.cons (i := 18) rfl (.cons (i := 19) rfl (.cons (i := 20) rfl (.nil)))))))))))) ?_
            -- region 10: causal.go:41
            refine W.reg ?_
            obtain ⟨hk21, hF15⟩ := ckh hF15
            refine WL.q (Y.add (.pl rfl) (.pl rfl) (ok64_lt (hk21))) rfl ?_
            refine WL.q (Y.move (.pl rfl)) rfl ?_
            refine WL.nil ?_
            obtain rfl := Option.some.inj hF15
            exact W.again2 hK16 After14 (v15 + 1) k15 hN15 (Nat.lt_succ_self _) (.cons rfl (.nil)) (.cons (i := 0) rfl (.cons (i := 2) rfl (.cons (i := 3) rfl (.cons (i := 4) rfl (.cons (i := 5) rfl (.cons (i := 11) rfl (.cons (i := 12) rfl (.cons (i := 13) rfl (.cons (i := 18) rfl (.cons (i := 19) rfl (.nil))))))))))) (fun w hw => hw.pick [1, 2, 3] rfl)
        · replace hF15 := cneg hC19 hF15
          refine W.exit ?_
          obtain rfl := Option.some.inj hF15
          exact W.joinAt1 hK12 After14 (einr hN15) (.nil) (.cons (i := 0) rfl (.cons (i := 2) rfl (.cons (i := 3) rfl (.cons (i := 11) rfl (.cons (i := 12) rfl (.cons (i := 13) rfl (.nil))))))) (fun w hw => hw.pick [0, 1] rfl)
      · -- behind
        rintro After11 rfl
        -- region 11: causal.go:40
        refine W.reg ?_
        obtain ⟨hk22, hF6⟩ := ckh hF6
        refine WL.q (Y.add (.pl rfl) (.pl rfl) (ok64_lt (hk22))) rfl ?_
        refine WL.q (Y.move (.pl rfl)) rfl ?_
        refine WL.nil ?_
        obtain rfl := Option.some.inj hF6
        exact W.again2 hK7 After11 (v10 + 1) k6 hN6 (Nat.lt_succ_self _) (.cons rfl (.nil)) (.cons (i := 0) rfl (.cons (i := 2) rfl (.cons (i := 3) rfl (.cons (i := 11) rfl (.cons (i := 12) rfl (.nil)))))) (fun w hw => hw.pick [0, 1] rfl)
    · replace hF6 := cneg hC10 hF6
      refine W.exit ?_
      obtain rfl := Option.some.inj hF6
      exact W.joinAt1 hK4 After9 (einr hN6) (.nil) (.cons (i := 2) rfl (.cons (i := 3) rfl (.nil))) (fun w hw => hw.pick [0, 1] rfl)
  · -- behind
    rintro After8 rfl
    -- region 12: causal.go:47
    refine W.seqR fun Q28 hQ28 => ?_
    refine WL.q (Y.loadBA (ds := (encRel (Rel.mk ((calls1).length : Int) After8))) Try.underlying99 rfl cells99 (.pl rfl) (i := 1) rfl rfl subW) rfl ?_
    refine WL.step (WO.storeBA (ds := (encRel (Rel.mk ((calls1).length : Int) After8))) (cs' := (encRel (Rel.mk ((calls1).length : Int) After8))) cells99 (.pl rfl) (.pl rfl) rfl (oneRel _) (i := 0) rfl (lel (o := 0) (l := 13) (m := 13) (by decide) rfl rfl) (putW rfl) ?_)
    refine WL.next hQ28 (.cons (i := 2) rfl (.nil)) ?_
    obtain rfl := Option.some.inj hF
    refine W.retV (fn := Try.f87) (vs := [.agg (encRel (Rel.mk ((calls1).length : Int) After8)).toArray]) Try.results87 ⟨.cellA Try.underlying99 rfl cells99 rfl (i := 0) rfl rfl, trivial⟩ (fun _ _ h => h) (fun w hw => ?_)
    exact hR _ _ ⟨rfl, (hw.pick [] rfl)⟩

def order_Check_L3 (N : Nat) (r1 : Rel) : Int → Option (Int ⊕ (Unit ⊕ Int))
  | v3 =>
    cond (decide (v3 < 12))
      (bd (ax 12 0 r1.after v3) fun (x4 : Int) =>
      cond (((decide (r1.n ≤ v3)) && (!(decide (x4 = 0)))) || (!(decide ((shrI .u16 x4 (IntKind.u64.wrap r1.n)) = 0))))
        (some (.inr (.inr 3)))
        (ck (ok64 (v3 + 1)) <|
        some (.inl (v3 + 1))))
      (some (.inr (.inl ())))

def order_Check (N : Nat) (r1 : Rel) : Option Int :=
  cond ((decide (r1.n < 0)) || (decide (12 < r1.n)))
    (some 1)
    (bd (α := (Unit ⊕ Int)) (iter (order_Check_L3 N r1) N 0) <|
    Sum.elim (fun _ => 
      some 0) (fun p => some p))

theorem order_Check_ok {N : Nat} {r1 : Rel} {res : Int} (hF : order_Check N r1 = some res) (w : World) :
    Pure Try.prog 103 [.agg (encRel r1).toArray] w (.int .i64 res) := by
  refine W.enter (n := 36) Try.func103 rfl rfl Sub.refl (by simp) (St.start w) fun R hR => ?_
  unfold order_Check at hF
  -- region 0: order.go:12
  refine W.seqR fun Q1 hQ1 => ?_
  refine WL.step (WO.boxA (.pl rfl) rfl fun b2 => ?_)
  refine WL.q (Y.assign (.pl rfl)) rfl ?_
  refine WL.next hQ1 (.cons (i := 1) rfl (.nil)) ?_
  refine W.seq fun K2 hK2 => ?_
  -- region 1: order.go:13
  refine W.seqR fun Q3 hQ3 => ?_
  refine WL.q (Y.fieldAddr0 (off := 0) (ft := 3) Try.underlying99 rfl cells3 (.pl rfl)) rfl ?_
  refine WL.q (Y.loadB (v := .int .i64 r1.n) Try.underlying3 rfl (.pl rfl) (i := 0) rfl (rfl)) rfl ?_
  refine WL.q (Y.lss (.pl rfl) (.pl rfl)) rfl ?_
  refine WL.q (Y.move (.pl rfl)) rfl ?_
  refine WL.g (.pl rfl rfl rfl) (fun hg => Y.fieldAddr0 (off := 0) (ft := 3) Try.underlying99 rfl cells3 (.pl rfl)) rfl ?_
  refine WL.g (.pl rfl rfl rfl) (fun hg => Y.loadB (v := .int .i64 r1.n) Try.underlying3 rfl (.gd (hg) rfl) (i := 0) rfl (rfl)) rfl ?_
  refine WL.g (.pl rfl rfl rfl) (fun hg => Y.gtr (.gd (hg) rfl) (.pl rfl)) rfl ?_
  refine WL.q (Y.or (.pl rfl) (fun h2 => .gd (eqf h2) rfl)) rfl ?_
  refine WL.next hQ3 (.cons (i := 1) rfl (.cons (i := 12) rfl (.nil))) ?_
  refine W.cond (.pl rfl) (fun hC4 => ?_) (fun hC4 => ?_)
  · replace hF := cpos hC4 hF
    -- region 2: order.go:14
    refine W.seqR fun Q5 hQ5 => ?_
    refine WL.q (Y.assign (.pl rfl)) rfl ?_
    refine WL.next hQ5 (.cons (i := 2) rfl (.nil)) ?_
    obtain rfl := Option.some.inj hF
    refine W.retV (fn := Try.f103) (vs := [.int .i64 1]) Try.results103 ⟨.tmp rfl, trivial⟩ (fun _ _ h => h) (fun w hw => ?_)
    exact hR _ _ ⟨rfl, (hw.pick [] rfl)⟩
  · replace hF := cneg hC4 hF
    refine W.skip ?_
    refine W.go hK2 (.cons (i := 1) rfl (.nil)) ?_
    obtain ⟨o6, hF6, hF⟩ := bnd hF
    refine W.join0 (Em := []) (M := []) (I := (.inl ()) = o6) (.nil) (fun K7 hK7 => ?_) ?_
    · -- up to
      -- region 3: order.go:16
      refine W.seqR fun Q8 hQ8 => ?_
      refine WL.q (Y.fieldAddr0 (off := 1) (ft := 97) Try.underlying99 rfl cells97 (.pl rfl)) rfl ?_
      refine WL.q (Y.loadBA (ds := ((encA 12 (eI .u16) 0) r1.after)) Try.underlying97 rfl cells97 (.pl rfl) (i := 0) rfl rfl (subM (pre := (Value.int .i64 r1.n :: [])) (o := 1) rfl)) rfl ?_
      refine WL.q (Y.move (.pl rfl)) rfl ?_
      refine WL.next hQ8 (.cons (i := 1) rfl (.cons (i := 14) rfl (.cons (i := 15) rfl (.nil)))) ?_
      refine W.block ?_
      refine W.loop1 (Em := fun (v3 : Int) => [(15, .int .i64 v3)]) (M := fun v3 => [cBx b2 99 (encRel r1)]) (I := fun v3 k9 => iter (order_Check_L3 N r1) k9 v3 = some o6) 0 N (hF6) (.cons rfl (.nil)) (.cons (i := 1) rfl (.cons (i := 14) rfl (.nil))) (fun w hw => hw.pick [0] rfl) (fun v3 k9 hI K10 hK10 => ?_)
      obtain ⟨k9, t9, rfl, hF9, hN9⟩ := iter_step hI
      -- region 4: order.go:16
      refine W.seqR fun Q11 hQ11 => ?_
      refine WL.q (Y.lss (.pl rfl) (.pl rfl)) rfl ?_
      refine WL.next hQ11 (.cons (i := 1) rfl (.cons (i := 14) rfl (.cons (i := 15) rfl (.cons (i := 16) rfl (.nil))))) ?_
      refine W.seq fun K12 hK12 => ?_
      refine W.cond (.pl rfl) (fun hC13 => ?_) (fun hC13 => ?_)
      · replace hF9 := cpos hC13 hF9
        refine W.skip ?_
        refine W.go hK12 (.cons (i := 1) rfl (.cons (i := 14) rfl (.cons (i := 15) rfl (.nil)))) ?_
        refine W.seq fun K14 hK14 => ?_
        refine W.block ?_
        -- region 5: order.go:16
        refine W.seqR fun Q15 hQ15 => ?_
        refine WL.q (Y.move (.pl rfl)) rfl ?_
        obtain ⟨x4, hx4, hF9⟩ := bnd hF9
        refine WL.q (Y.indexA (enc := (eI .u16)) Try.underlying97 Try.underlying96 rfl cells96 (.pl rfl) (.pl rfl) (hx4) rfl (fun _ => rfl)) rfl ?_
        refine WL.q (Y.assign (.pl rfl)) rfl ?_
        refine WL.q (Y.assign (.pl rfl)) rfl ?_
        refine WL.next hQ15 (.cons (i := 1) rfl (.cons (i := 3) rfl (.cons (i := 4) rfl (.cons (i := 14) rfl (.cons (i := 15) rfl (.nil)))))) ?_
        -- region 6: order.go:17
        refine W.seqR fun Q16 hQ16 => ?_
        refine WL.q (Y.move (.pl rfl)) rfl ?_
        refine WL.q (Y.fieldAddr0 (off := 0) (ft := 3) Try.underlying99 rfl cells3 (.pl rfl)) rfl ?_
        refine WL.q (Y.loadB (v := .int .i64 r1.n) Try.underlying3 rfl (.pl rfl) (i := 0) rfl (rfl)) rfl ?_
        refine WL.q (Y.geq (.pl rfl) (.pl rfl)) rfl ?_
        refine WL.q (Y.move (.pl rfl)) rfl ?_
        refine WL.g (.pl rfl rfl rfl) (fun hg => Y.move (.pl rfl)) rfl ?_
        refine WL.g (.pl rfl rfl rfl) (fun hg => Y.neq (.gd (hg) rfl) (.pl rfl)) rfl ?_
        refine WL.q (Y.and (.pl rfl) (fun h2 => .gd (eqt h2) rfl)) rfl ?_
        refine WL.q (Y.move (.pl rfl)) rfl ?_
        refine WL.g (.pl rfl rfl rfl) (fun hg => Y.move (.pl rfl)) rfl ?_
        refine WL.g (.pl rfl rfl rfl) (fun hg => Y.fieldAddr0 (off := 0) (ft := 3) Try.underlying99 rfl cells3 (.pl rfl)) rfl ?_
        refine WL.g (.pl rfl rfl rfl) (fun hg => Y.loadB (v := .int .i64 r1.n) Try.underlying3 rfl (.gd (hg) rfl) (i := 0) rfl (rfl)) rfl ?_
        refine WL.g (.pl rfl rfl rfl) (fun hg => Y.conv Try.underlying3 Try.underlying113 (.gd (hg) rfl)) rfl ?_
        refine WL.g (.pl rfl rfl rfl) (fun hg => Y.shr (.gd (hg) rfl) (.gd (hg) rfl) (wrapU_nn rfl _)) rfl ?_
        refine WL.g (.pl rfl rfl rfl) (fun hg => Y.neq (.gd (hg) rfl) (.pl rfl)) rfl ?_
        refine WL.q (Y.or (.pl rfl) (fun h2 => .gd (eqf h2) rfl)) rfl ?_
        refine WL.next hQ16 (.cons (i := 1) rfl (.cons (i := 14) rfl (.cons (i := 15) rfl (.cons (i := 34) rfl (.nil))))) ?_
        refine W.cond (.pl rfl) (fun hC17 => ?_) (fun hC17 => ?_)
        · replace hF9 := cpos hC17 hF9
          -- region 7: order.go:18
          refine W.seqR fun Q18 hQ18 => ?_
          refine WL.q (Y.assign (.pl rfl)) rfl ?_
          refine WL.next hQ18 (.cons (i := 2) rfl (.nil)) ?_
          obtain rfl := Option.some.inj hF9
          obtain rfl := einr hN9
          obtain rfl := Option.some.inj hF
          refine W.retV (fn := Try.f103) (vs := [.int .i64 3]) Try.results103 ⟨.tmp rfl, trivial⟩ (fun _ _ h => h) (fun w hw => ?_)
          exact hR _ _ ⟨rfl, (hw.pick [] rfl)⟩
        · replace hF9 := cneg hC17 hF9
          refine W.skip ?_
          refine W.go hK14 (.cons (i := 1) rfl (.cons (i := 14) rfl (.cons (i := 15) rfl (.nil)))) ?_
          -- region 8: order.go:16
          refine W.reg ?_
          obtain ⟨hk5, hF9⟩ := ckh hF9
          refine WL.q (Y.add (.pl rfl) (.pl rfl) (ok64_lt (hk5))) rfl ?_
          refine WL.q (Y.move (.pl rfl)) rfl ?_
          refine WL.nil ?_
          obtain rfl := Option.some.inj hF9
          exact W.again1 hK10 (v3 + 1) k9 hN9 (Nat.lt_succ_self _) (.cons rfl (.nil)) (.cons (i := 1) rfl (.cons (i := 14) rfl (.nil))) (fun w hw => hw.pick [0] rfl)
      · replace hF9 := cneg hC13 hF9
        refine W.exit ?_
        obtain rfl := Option.some.inj hF9
        exact W.joinAt0 hK7  (einr hN9) (.nil) (.nil) (fun w hw => hw.pick [] rfl)
    · -- behind
      rintro  rfl
      -- region 9: order.go:21
      refine W.seqR fun Q20 hQ20 => ?_
      refine WL.q (Y.assign (.pl rfl)) rfl ?_
      refine WL.next hQ20 (.cons (i := 2) rfl (.nil)) ?_
      obtain rfl := Option.some.inj hF
      refine W.retV (fn := Try.f103) (vs := [.int .i64 0]) Try.results103 ⟨.tmp rfl, trivial⟩ (fun _ _ h => h) (fun w hw => ?_)
      exact hR _ _ ⟨rfl, (hw.pick [] rfl)⟩

def order_closed_L27 (N : Nat) (r1 : Rel) (v6 : Int) : ((List Int) × Int) → Option (((List Int) × Int) ⊕ (List Int))
  | (After8, v9) =>
    cond (decide (v9 < r1.n))
      (bd (ax 12 0 After8 v9) fun (x10 : Int) =>
      cond (decide ((bandI .u16 (shrI .u16 x10 (IntKind.u64.wrap v6)) 1) = 1))
        (bd (ax 12 0 After8 v9) fun (x11 : Int) =>
        bd (ax 12 0 After8 v6) fun (x12 : Int) =>
        bd (ax 12 0 After8 v9) fun (x13 : Int) =>
        ck (ok64 (v9 + 1)) <|
        some (.inl ((setA 12 0 After8 v9 (borI .u16 x11 x12)), (v9 + 1))))
        (ck (ok64 (v9 + 1)) <|
        some (.inl (After8, (v9 + 1)))))
      (some (.inr After8))

def order_closed_L25 (N : Nat) (r1 : Rel) : ((List Int) × Int) → Option (((List Int) × Int) ⊕ (List Int))
  | (After5, v6) =>
    cond (decide (v6 < r1.n))
      (bd (α := (List Int)) (iter (order_closed_L27 N r1 v6) N (After5, 0)) <|
      fun (After7 : (List Int)) => 
        ck (ok64 (v6 + 1)) <|
        some (.inl (After7, (v6 + 1))))
      (some (.inr After5))

def order_closed (N : Nat) (r1 : Rel) : Option (List Int) :=
  bd (α := (List Int)) (iter (order_closed_L25 N r1) N (r1.after, 0)) <|
  fun (After4 : (List Int)) => 
    some After4

theorem order_closed_ok {N : Nat} {r1 : Rel} {res : (List Int)} (hF : order_closed N r1 = some res) (w : World) :
    Pure Try.prog 104 [.agg (encRel r1).toArray] w (.agg (encRel (Rel.mk r1.n res)).toArray) := by
  refine W.enter (n := 38) Try.func104 rfl rfl Sub.refl (by simp) (St.start w) fun R hR => ?_
  unfold order_closed at hF
  -- region 0: order.go:25
  refine W.seqR fun Q1 hQ1 => ?_
  refine WL.step (WO.boxA (.pl rfl) rfl fun b2 => ?_)
  refine WL.step (WO.alloc (cs := (encRel (Rel.mk 0 [])).toArray) zero99 rfl rfl fun b3 => ?_)
  refine WL.next hQ1 (.cons (i := 1) rfl (.cons (i := 2) rfl (.nil))) ?_
  obtain ⟨o2, hF2, hF⟩ := bnd hF
  refine W.join1 (Em := fun (After4 : (List Int)) => []) (M := fun After4 => [cBx b2 99 (encRel (Rel.mk r1.n After4)), cBx b3 99 (encRel (Rel.mk 0 []))]) (I := fun After4 => After4 = o2) (.cons (i := 1) rfl (.cons (i := 2) rfl (.nil))) (fun K3 hK3 => ?_) ?_
  · -- up to
    -- region 1: order.go:26
    refine W.seqR fun Q4 hQ4 => ?_
    refine WL.q (Y.fieldAddr0 (off := 0) (ft := 3) Try.underlying99 rfl cells3 (.pl rfl)) rfl ?_
    refine WL.q (Y.loadB (v := .int .i64 r1.n) Try.underlying3 rfl (.pl rfl) (i := 1) rfl (rfl)) rfl ?_
    refine WL.q (Y.move (.pl rfl)) rfl ?_
    refine WL.next hQ4 (.cons (i := 1) rfl (.cons (i := 2) rfl (.cons (i := 6) rfl (.cons (i := 7) rfl (.nil))))) ?_
    refine W.block ?_
    refine W.loop2 (Em := fun (After5 : (List Int)) (v6 : Int) => [(7, .int .i64 v6)]) (M := fun After5 v6 => [cBx b2 99 (encRel (Rel.mk r1.n After5)), cBx b3 99 (encRel (Rel.mk 0 []))]) (I := fun After5 v6 k5 => iter (order_closed_L25 N r1) k5 (After5, v6) = some o2) r1.after 0 N (hF2) (.cons rfl (.nil)) (.cons (i := 1) rfl (.cons (i := 2) rfl (.cons (i := 6) rfl (.nil)))) (fun w hw => hw.pick [1, 0] rfl) (fun After5 v6 k5 hI K6 hK6 => ?_)
    obtain ⟨k5, t5, rfl, hF5, hN5⟩ := iter_step hI
    -- region 2: order.go:26
    refine W.seqR fun Q7 hQ7 => ?_
    refine WL.q (Y.lss (.pl rfl) (.pl rfl)) rfl ?_
    refine WL.next hQ7 (.cons (i := 1) rfl (.cons (i := 2) rfl (.cons (i := 6) rfl (.cons (i := 7) rfl (.cons (i := 8) rfl (.nil)))))) ?_
    refine W.seq fun K8 hK8 => ?_
    refine W.cond (.pl rfl) (fun hC9 => ?_) (fun hC9 => ?_)
    · replace hF5 := cpos hC9 hF5
      refine W.skip ?_
      refine W.go hK8 (.cons (i := 1) rfl (.cons (i := 2) rfl (.cons (i := 6) rfl (.cons (i := 7) rfl (.nil))))) ?_
      obtain ⟨o10, hF10, hF5⟩ := bnd hF5
      refine W.join1 (Em := fun (After7 : (List Int)) => []) (M := fun After7 => [cBx b2 99 (encRel (Rel.mk r1.n After7)), cBx b3 99 (encRel (Rel.mk 0 []))]) (I := fun After7 => After7 = o10) (.cons (i := 1) rfl (.cons (i := 2) rfl (.cons (i := 6) rfl (.cons (i := 7) rfl (.nil))))) (fun K11 hK11 => ?_) ?_
      · -- up to
        refine W.block ?_
        -- region 3: order.go:26
        refine W.seqR fun Q12 hQ12 => ?_
        refine WL.q (Y.move (.pl rfl)) rfl ?_
        refine WL.q (Y.assign (.pl rfl)) rfl ?_
        refine WL.next hQ12 (.cons (i := 1) rfl (.cons (i := 2) rfl (.cons (i := 3) rfl (.cons (i := 6) rfl (.cons (i := 7) rfl (.nil)))))) ?_
        -- region 4: order.go:27
        refine W.seqR fun Q13 hQ13 => ?_
        refine WL.q (Y.fieldAddr0 (off := 0) (ft := 3) Try.underlying99 rfl cells3 (.pl rfl)) rfl ?_
        refine WL.q (Y.loadB (v := .int .i64 r1.n) Try.underlying3 rfl (.pl rfl) (i := 0) rfl (rfl)) rfl ?_
        refine WL.q (Y.move (.pl rfl)) rfl ?_
        refine WL.next hQ13 (.cons (i := 1) rfl (.cons (i := 2) rfl (.cons (i := 3) rfl (.cons (i := 6) rfl (.cons (i := 7) rfl (.cons (i := 11) rfl (.cons (i := 12) rfl (.nil)))))))) ?_
        refine W.block ?_
        refine W.loop2 (Em := fun (After8 : (List Int)) (v9 : Int) => [(12, .int .i64 v9)]) (M := fun After8 v9 => [cBx b2 99 (encRel (Rel.mk r1.n After8)), cBx b3 99 (encRel (Rel.mk 0 []))]) (I := fun After8 v9 k14 => iter (order_closed_L27 N r1 v6) k14 (After8, v9) = some o10) After5 0 N (hF10) (.cons rfl (.nil)) (.cons (i := 1) rfl (.cons (i := 2) rfl (.cons (i := 3) rfl (.cons (i := 6) rfl (.cons (i := 7) rfl (.cons (i := 11) rfl (.nil))))))) (fun w hw => hw.pick [0, 1] rfl) (fun After8 v9 k14 hI K15 hK15 => ?_)
        obtain ⟨k14, t14, rfl, hF14, hN14⟩ := iter_step hI
        -- region 5: order.go:27
        refine W.seqR fun Q16 hQ16 => ?_
        refine WL.q (Y.lss (.pl rfl) (.pl rfl)) rfl ?_
        refine WL.next hQ16 (.cons (i := 1) rfl (.cons (i := 2) rfl (.cons (i := 3) rfl (.cons (i := 6) rfl (.cons (i := 7) rfl (.cons (i := 11) rfl (.cons (i := 12) rfl (.cons (i := 13) rfl (.nil))))))))) ?_
        refine W.seq fun K17 hK17 => ?_
        refine W.cond (.pl rfl) (fun hC18 => ?_) (fun hC18 => ?_)
        · replace hF14 := cpos hC18 hF14
          refine W.skip ?_
          refine W.go hK17 (.cons (i := 1) rfl (.cons (i := 2) rfl (.cons (i := 3) rfl (.cons (i := 6) rfl (.cons (i := 7) rfl (.cons (i := 11) rfl (.cons (i := 12) rfl (.nil)))))))) ?_
          refine W.seq fun K19 hK19 => ?_
          refine W.block ?_
          -- region 6: order.go:27
          refine W.seqR fun Q20 hQ20 => ?_
          refine WL.q (Y.move (.pl rfl)) rfl ?_
          refine WL.q (Y.assign (.pl rfl)) rfl ?_
          refine WL.next hQ20 (.cons (i := 1) rfl (.cons (i := 2) rfl (.cons (i := 3) rfl (.cons (i := 4) rfl (.cons (i := 6) rfl (.cons (i := 7) rfl (.cons (i := 11) rfl (.cons (i := 12) rfl (.nil))))))))) ?_
          -- region 7: order.go:28
          refine W.seqR fun Q21 hQ21 => ?_
          refine WL.q (Y.move (.pl rfl)) rfl ?_
          refine WL.q (Y.fieldAddr0 (off := 1) (ft := 97) Try.underlying99 rfl cells97 (.pl rfl)) rfl ?_
          obtain ⟨x10, hx10, hF14⟩ := bnd hF14
          refine WL.q (Y.arrZ Try.underlying97 cells96 (.pl rfl) (.pl rfl) (ax_lt (hx10))) rfl ?_
          refine WL.q (Y.loadB (v := .int .u16 x10) Try.underlying96 rfl (.pl rfl) (i := 0) rfl (cellsA (pre := (Value.int .i64 r1.n :: [])) (off := 1) (post := []) (a := After8) (enc := (eI .u16)) (d := 0) (n := 12) (sz := 1) (j := 0) (fun _ => rfl) rfl (ax_nat (hx10)) (ax_get (hx10)) rfl)) rfl ?_
          refine WL.q (Y.move (.pl rfl)) rfl ?_
          refine WL.q (Y.conv Try.underlying3 Try.underlying113 (.pl rfl)) rfl ?_
          refine WL.q (Y.shr (.pl rfl) (.pl rfl) (wrapU_nn rfl _)) rfl ?_
          refine WL.q (Y.band (.pl rfl) (.pl rfl)) rfl ?_
          refine WL.q (Y.eql (.pl rfl) (.pl rfl)) rfl ?_
          refine WL.next hQ21 (.cons (i := 1) rfl (.cons (i := 2) rfl (.cons (i := 3) rfl (.cons (i := 4) rfl (.cons (i := 6) rfl (.cons (i := 7) rfl (.cons (i := 11) rfl (.cons (i := 12) rfl (.cons (i := 23) rfl (.nil)))))))))) ?_
          refine W.cond (.pl rfl) (fun hC22 => ?_) (fun hC22 => ?_)
          · replace hF14 := cpos hC22 hF14
            -- region 8: order.go:29
            refine W.regT 11 (by kernel_rfl) (by kernel_rfl) ?_
            refine WS.q (Y.move (.pl rfl)) rfl ?_
            refine WS.q (Y.fieldAddr0 (off := 1) (ft := 97) Try.underlying99 rfl cells97 (.pl rfl)) rfl ?_
            obtain ⟨x11, hx11, hF14⟩ := bnd hF14
            refine WS.q (Y.arrZ Try.underlying97 cells96 (.pl rfl) (.pl rfl) (ax_lt (hx11))) rfl ?_
            refine WS.q (Y.loadB (v := .int .u16 x11) Try.underlying96 rfl (.pl rfl) (i := 0) rfl (cellsA (pre := (Value.int .i64 r1.n :: [])) (off := 1) (post := []) (a := After8) (enc := (eI .u16)) (d := 0) (n := 12) (sz := 1) (j := 0) (fun _ => rfl) rfl (ax_nat (hx11)) (ax_get (hx11)) rfl)) rfl ?_
            refine WS.q (Y.move (.pl rfl)) rfl ?_
            refine WS.q (Y.fieldAddr0 (off := 1) (ft := 97) Try.underlying99 rfl cells97 (.pl rfl)) rfl ?_
            obtain ⟨x12, hx12, hF14⟩ := bnd hF14
            refine WS.q (Y.arrZ Try.underlying97 cells96 (.pl rfl) (.pl rfl) (ax_lt (hx12))) rfl ?_
            refine WS.q (Y.loadB (v := .int .u16 x12) Try.underlying96 rfl (.pl rfl) (i := 0) rfl (cellsA (pre := (Value.int .i64 r1.n :: [])) (off := 1) (post := []) (a := After8) (enc := (eI .u16)) (d := 0) (n := 12) (sz := 1) (j := 0) (fun _ => rfl) rfl (ax_nat (hx12)) (ax_get (hx12)) rfl)) rfl ?_
            refine WS.q (Y.bor (.pl rfl) (.pl rfl)) rfl ?_
            refine WS.q (Y.fieldAddr0 (off := 1) (ft := 97) Try.underlying99 rfl cells97 (.pl rfl)) rfl ?_
            obtain ⟨x13, hx13, hF14⟩ := bnd hF14
            refine WS.q (Y.arrZ Try.underlying97 cells96 (.pl rfl) (.pl rfl) (ax_lt (hx13))) rfl ?_
            refine WS.tail ?_
            refine WL.step (WO.storeB (cs' := (encRel (Rel.mk r1.n (setA 12 0 After8 v9 (borI .u16 x11 x12))))) cells96 (.pl rfl) (.pl rfl) rfl (i := 0) rfl (ltl (m := 13) (offlt (off := 1) (sz := 1) (j := 0) (ax_nat (hx13)) (by decide)) rfl) (cellsSet (pre := (Value.int .i64 r1.n :: [])) (off := 1) (post := []) (a := After8) (enc := (eI .u16)) (d := 0) (n := 12) (sz := 1) (j := 0) (x := x13) (x' := (borI .u16 x11 x12)) (fun _ => rfl) rfl (ax_lt (hx13)) (ax_get (hx13)) (by decide) rfl rfl) ?_)
            refine WL.nil ?_
            refine W.go hK19 (.cons (i := 1) rfl (.cons (i := 2) rfl (.cons (i := 3) rfl (.cons (i := 6) rfl (.cons (i := 7) rfl (.cons (i := 11) rfl (.cons (i := 12) rfl (.nil)))))))) ?_
            -- region 9: order.go:27
            refine W.reg ?_
            obtain ⟨hk14, hF14⟩ := ckh hF14
            refine WL.q (Y.add (.pl rfl) (.pl rfl) (ok64_lt (hk14))) rfl ?_
            refine WL.q (Y.move (.pl rfl)) rfl ?_
            refine WL.nil ?_
            obtain rfl := Option.some.inj hF14
            exact W.again2 hK15 (setA 12 0 After8 v9 (borI .u16 x11 x12)) (v9 + 1) k14 hN14 (Nat.lt_succ_self _) (.cons rfl (.nil)) (.cons (i := 1) rfl (.cons (i := 2) rfl (.cons (i := 3) rfl (.cons (i := 6) rfl (.cons (i := 7) rfl (.cons (i := 11) rfl (.nil))))))) (fun w hw => hw.pick [0, 1] rfl)
          · replace hF14 := cneg hC22 hF14
            refine W.skip ?_
            refine W.go hK19 (.cons (i := 1) rfl (.cons (i := 2) rfl (.cons (i := 3) rfl (.cons (i := 6) rfl (.cons (i := 7) rfl (.cons (i := 11) rfl (.cons (i := 12) rfl (.nil)))))))) ?_
            -- region 9: order.go:27
            refine W.reg ?_
            obtain ⟨hk15, hF14⟩ := ckh hF14
            refine WL.q (Y.add (.pl rfl) (.pl rfl) (ok64_lt (hk15))) rfl ?_
            refine WL.q (Y.move (.pl rfl)) rfl ?_
            refine WL.nil ?_
            obtain rfl := Option.some.inj hF14
            exact W.again2 hK15 After8 (v9 + 1) k14 hN14 (Nat.lt_succ_self _) (.cons rfl (.nil)) (.cons (i := 1) rfl (.cons (i := 2) rfl (.cons (i := 3) rfl (.cons (i := 6) rfl (.cons (i := 7) rfl (.cons (i := 11) rfl (.nil))))))) (fun w hw => hw.pick [0, 1] rfl)
        · replace hF14 := cneg hC18 hF14
          refine W.exit ?_
          obtain rfl := Option.some.inj hF14
          exact W.joinAt1 hK11 After8 (einr hN14) (.nil) (.cons (i := 1) rfl (.cons (i := 2) rfl (.cons (i := 6) rfl (.cons (i := 7) rfl (.nil))))) (fun w hw => hw.pick [0, 1] rfl)
      · -- behind
        rintro After7 rfl
        -- region 10: order.go:26
        refine W.reg ?_
        obtain ⟨hk16, hF5⟩ := ckh hF5
        refine WL.q (Y.add (.pl rfl) (.pl rfl) (ok64_lt (hk16))) rfl ?_
        refine WL.q (Y.move (.pl rfl)) rfl ?_
        refine WL.nil ?_
        obtain rfl := Option.some.inj hF5
        exact W.again2 hK6 After7 (v6 + 1) k5 hN5 (Nat.lt_succ_self _) (.cons rfl (.nil)) (.cons (i := 1) rfl (.cons (i := 2) rfl (.cons (i := 6) rfl (.nil)))) (fun w hw => hw.pick [0, 1] rfl)
    · replace hF5 := cneg hC9 hF5
      refine W.exit ?_
      obtain rfl := Option.some.inj hF5
      exact W.joinAt1 hK3 After5 (einr hN5) (.nil) (.cons (i := 1) rfl (.cons (i := 2) rfl (.nil))) (fun w hw => hw.pick [0, 1] rfl)
  · -- behind
    rintro After4 rfl
    -- region 11: order.go:33
    refine W.seqR fun Q27 hQ27 => ?_
    refine WL.q (Y.loadBA (ds := (encRel (Rel.mk r1.n After4))) Try.underlying99 rfl cells99 (.pl rfl) (i := 0) rfl rfl subW) rfl ?_
    refine WL.step (WO.storeBA (ds := (encRel (Rel.mk r1.n After4))) (cs' := (encRel (Rel.mk r1.n After4))) cells99 (.pl rfl) (.pl rfl) rfl (oneRel _) (i := 1) rfl (lel (o := 0) (l := 13) (m := 13) (by decide) rfl rfl) (putW rfl) ?_)
    refine WL.next hQ27 (.cons (i := 2) rfl (.nil)) ?_
    obtain rfl := Option.some.inj hF
    refine W.retV (fn := Try.f104) (vs := [.agg (encRel (Rel.mk r1.n After4)).toArray]) Try.results104 ⟨.cellA Try.underlying99 rfl cells99 rfl (i := 1) rfl rfl, trivial⟩ (fun _ _ h => h) (fun w hw => ?_)
    exact hR _ _ ⟨rfl, (hw.pick [] rfl)⟩

def order_Close_L3 (N : Nat) (r1 : Rel) (r5 : (List Int)) : Int → Option (Int ⊕ (Unit ⊕ (Int × (List Int) × Bool × Int)))
  | v7 =>
    cond (decide (v7 < r1.n))
      (bd (ax 12 0 r5 v7) fun (x8 : Int) =>
      cond (decide ((bandI .u16 (shrI .u16 x8 (IntKind.u64.wrap v7)) 1) = 1))
        (some (.inr (.inr (r1.n, r5, true, 0))))
        (ck (ok64 (v7 + 1)) <|
        some (.inl (v7 + 1))))
      (some (.inr (.inl ())))

def order_Close (N : Nat) (r1 : Rel) : Option (Int × (List Int) × Bool × Int) :=
  bd (order_Check N r1) fun (r4 : Int) =>
  cond (!(decide (r4 = 0)))
    (some (0, [], false, r4))
    (bd (order_closed N r1) fun (r5 : (List Int)) =>
    bd (α := (Unit ⊕ (Int × (List Int) × Bool × Int))) (iter (order_Close_L3 N r1 r5) N 0) <|
    Sum.elim (fun _ => 
      some (r1.n, r5, false, 0)) (fun p => some p))

theorem order_Close_ok {N : Nat} {r1 : Rel} {res : (Int × (List Int) × Bool × Int)} (hF : order_Close N r1 = some res) (w : World) :
    Pure Try.prog 97 [.agg (encRel r1).toArray] w (.tuple #[.agg (encRel (Rel.mk res.1 res.2.1)).toArray, .bool res.2.2.1, .int .i64 res.2.2.2]) := by
  refine W.enter (n := 33) Try.func97 rfl rfl Sub.refl (by simp) (St.start w) fun R hR => ?_
  unfold order_Close at hF
  -- region 0: order.go:37
  refine W.seqR fun Q1 hQ1 => ?_
  refine WL.step (WO.boxA (.pl rfl) rfl fun b2 => ?_)
  refine WL.step (WO.alloc (cs := (encRel (Rel.mk 0 [])).toArray) zero99 rfl rfl fun b3 => ?_)
  refine WL.q (Y.assign (.pl rfl)) rfl ?_
  refine WL.q (Y.assign (.pl rfl)) rfl ?_
  refine WL.next hQ1 (.cons (i := 1) rfl (.cons (i := 2) rfl (.nil))) ?_
  refine W.seq fun K2 hK2 => ?_
  -- region 1: order.go:38
  refine W.seqR fun Q3 hQ3 => ?_
  refine WL.q (Y.loadBA (ds := (encRel r1)) Try.underlying99 rfl cells99 (.pl rfl) (i := 1) rfl rfl subW) rfl ?_
  obtain ⟨r4, hr4, hF⟩ := bnd hF
  refine WL.step (WO.callP isGo103 (.cons (.pl rfl) (.nil)) rfl (fun w hw => order_Check_ok (hr4) w ) ?_)
  refine WL.q (Y.assign (.pl rfl)) rfl ?_
  refine WL.next hQ3 (.cons (i := 1) rfl (.cons (i := 2) rfl (.cons (i := 5) rfl (.nil)))) ?_
  -- region 2: order.go:38
  refine W.seqR fun Q4 hQ4 => ?_
  refine WL.q (Y.move (.pl rfl)) rfl ?_
  refine WL.q (Y.neq (.pl rfl) (.pl rfl)) rfl ?_
  refine WL.next hQ4 (.cons (i := 1) rfl (.cons (i := 2) rfl (.cons (i := 5) rfl (.cons (i := 11) rfl (.nil))))) ?_
  refine W.cond (.pl rfl) (fun hC5 => ?_) (fun hC5 => ?_)
  · replace hF := cpos hC5 hF
    -- region 3: order.go:39
    refine W.seqR fun Q6 hQ6 => ?_
    refine WL.q (Y.build (cs := (encRel (Rel.mk 0 [])).toArray) shape99 (.nil) (one_parts trivial) rfl) rfl ?_
    refine WL.q (Y.move (.pl rfl)) rfl ?_
    refine WL.step (WO.storeBA (ds := (encRel (Rel.mk 0 []))) (cs' := (encRel (Rel.mk 0 []))) cells99 (.pl rfl) (.pl rfl) rfl (oneRel _) (i := 0) rfl (lel (o := 0) (l := 13) (m := 13) (by decide) rfl rfl) (putW rfl) ?_)
    refine WL.q (Y.assign (.pl rfl)) rfl ?_
    refine WL.q (Y.assign (.pl rfl)) rfl ?_
    refine WL.next hQ6 (.cons (i := 2) rfl (.cons (i := 3) rfl (.cons (i := 4) rfl (.nil)))) ?_
    obtain rfl := Option.some.inj hF
    refine W.retV (fn := Try.f97) (vs := [.agg (encRel (Rel.mk 0 [])).toArray, .bool false, .int .i64 r4]) Try.results97 ⟨.cellA Try.underlying99 rfl cells99 rfl (i := 0) rfl rfl, ⟨.tmp rfl, ⟨.tmp rfl, trivial⟩⟩⟩ (fun _ _ h => h) (fun w hw => ?_)
    exact hR _ _ ⟨rfl, (hw.pick [] rfl)⟩
  · replace hF := cneg hC5 hF
    refine W.skip ?_
    refine W.go hK2 (.cons (i := 1) rfl (.cons (i := 2) rfl (.nil))) ?_
    -- region 4: order.go:41
    refine W.seqR fun Q7 hQ7 => ?_
    refine WL.q (Y.loadBA (ds := (encRel r1)) Try.underlying99 rfl cells99 (.pl rfl) (i := 1) rfl rfl subW) rfl ?_
    obtain ⟨r5, hr5, hF⟩ := bnd hF
    refine WL.step (WO.callP isGo104 (.cons (.pl rfl) (.nil)) rfl (fun w hw => order_closed_ok (hr5) w ) ?_)
    refine WL.step (WO.alloc (cs := (encRel (Rel.mk 0 [])).toArray) zero99 rfl rfl fun b6 => ?_)
    refine WL.step (WO.storeBA (ds := (encRel (Rel.mk r1.n r5))) (cs' := (encRel (Rel.mk r1.n r5))) cells99 (.pl rfl) (.pl rfl) rfl (oneRel _) (i := 0) rfl (lel (o := 0) (l := 13) (m := 13) (by decide) rfl rfl) (putW rfl) ?_)
    refine WL.next hQ7 (.cons (i := 2) rfl (.cons (i := 6) rfl (.nil))) ?_
    obtain ⟨o8, hF8, hF⟩ := bnd hF
    refine W.join0 (Em := []) (M := [cBx b3 99 (encRel (Rel.mk 0 [])), cBx b6 99 (encRel (Rel.mk r1.n r5))]) (I := (.inl ()) = o8) (.cons (i := 2) rfl (.cons (i := 6) rfl (.nil))) (fun K9 hK9 => ?_) ?_
    · -- up to
      -- region 5: order.go:42
      refine W.seqR fun Q10 hQ10 => ?_
      refine WL.q (Y.fieldAddr0 (off := 0) (ft := 3) Try.underlying99 rfl cells3 (.pl rfl)) rfl ?_
      refine WL.q (Y.loadB (v := .int .i64 r1.n) Try.underlying3 rfl (.pl rfl) (i := 0) rfl (rfl)) rfl ?_
      refine WL.q (Y.move (.pl rfl)) rfl ?_
      refine WL.next hQ10 (.cons (i := 2) rfl (.cons (i := 6) rfl (.cons (i := 17) rfl (.cons (i := 18) rfl (.nil))))) ?_
      refine W.block ?_
      refine W.loop1 (Em := fun (v7 : Int) => [(18, .int .i64 v7)]) (M := fun v7 => [cBx b3 99 (encRel (Rel.mk 0 [])), cBx b6 99 (encRel (Rel.mk r1.n r5))]) (I := fun v7 k11 => iter (order_Close_L3 N r1 r5) k11 v7 = some o8) 0 N (hF8) (.cons rfl (.nil)) (.cons (i := 2) rfl (.cons (i := 6) rfl (.cons (i := 17) rfl (.nil)))) (fun w hw => hw.pick [1, 0] rfl) (fun v7 k11 hI K12 hK12 => ?_)
      obtain ⟨k11, t11, rfl, hF11, hN11⟩ := iter_step hI
      -- region 6: order.go:42
      refine W.seqR fun Q13 hQ13 => ?_
      refine WL.q (Y.lss (.pl rfl) (.pl rfl)) rfl ?_
      refine WL.next hQ13 (.cons (i := 2) rfl (.cons (i := 6) rfl (.cons (i := 17) rfl (.cons (i := 18) rfl (.cons (i := 19) rfl (.nil)))))) ?_
      refine W.seq fun K14 hK14 => ?_
      refine W.cond (.pl rfl) (fun hC15 => ?_) (fun hC15 => ?_)
      · replace hF11 := cpos hC15 hF11
        refine W.skip ?_
        refine W.go hK14 (.cons (i := 2) rfl (.cons (i := 6) rfl (.cons (i := 17) rfl (.cons (i := 18) rfl (.nil))))) ?_
        refine W.seq fun K16 hK16 => ?_
        refine W.block ?_
        -- region 7: order.go:42
        refine W.seqR fun Q17 hQ17 => ?_
        refine WL.q (Y.move (.pl rfl)) rfl ?_
        refine WL.q (Y.assign (.pl rfl)) rfl ?_
        refine WL.next hQ17 (.cons (i := 2) rfl (.cons (i := 6) rfl (.cons (i := 7) rfl (.cons (i := 17) rfl (.cons (i := 18) rfl (.nil)))))) ?_
        -- region 8: order.go:43
        refine W.seqR fun Q18 hQ18 => ?_
        refine WL.q (Y.move (.pl rfl)) rfl ?_
        refine WL.q (Y.fieldAddr0 (off := 1) (ft := 97) Try.underlying99 rfl cells97 (.pl rfl)) rfl ?_
        obtain ⟨x8, hx8, hF11⟩ := bnd hF11
        refine WL.q (Y.arrZ Try.underlying97 cells96 (.pl rfl) (.pl rfl) (ax_lt (hx8))) rfl ?_
        refine WL.q (Y.loadB (v := .int .u16 x8) Try.underlying96 rfl (.pl rfl) (i := 1) rfl (cellsA (pre := (Value.int .i64 r1.n :: [])) (off := 1) (post := []) (a := r5) (enc := (eI .u16)) (d := 0) (n := 12) (sz := 1) (j := 0) (fun _ => rfl) rfl (ax_nat (hx8)) (ax_get (hx8)) rfl)) rfl ?_
        refine WL.q (Y.move (.pl rfl)) rfl ?_
        refine WL.q (Y.conv Try.underlying3 Try.underlying113 (.pl rfl)) rfl ?_
        refine WL.q (Y.shr (.pl rfl) (.pl rfl) (wrapU_nn rfl _)) rfl ?_
        refine WL.q (Y.band (.pl rfl) (.pl rfl)) rfl ?_
        refine WL.q (Y.eql (.pl rfl) (.pl rfl)) rfl ?_
        refine WL.next hQ18 (.cons (i := 2) rfl (.cons (i := 6) rfl (.cons (i := 17) rfl (.cons (i := 18) rfl (.cons (i := 29) rfl (.nil)))))) ?_
        refine W.cond (.pl rfl) (fun hC19 => ?_) (fun hC19 => ?_)
        · replace hF11 := cpos hC19 hF11
          -- region 9: order.go:44
          refine W.seqR fun Q20 hQ20 => ?_
          refine WL.q (Y.loadBA (ds := (encRel (Rel.mk r1.n r5))) Try.underlying99 rfl cells99 (.pl rfl) (i := 1) rfl rfl subW) rfl ?_
          refine WL.step (WO.storeBA (ds := (encRel (Rel.mk r1.n r5))) (cs' := (encRel (Rel.mk r1.n r5))) cells99 (.pl rfl) (.pl rfl) rfl (oneRel _) (i := 0) rfl (lel (o := 0) (l := 13) (m := 13) (by decide) rfl rfl) (putW rfl) ?_)
          refine WL.q (Y.assign (.pl rfl)) rfl ?_
          refine WL.q (Y.assign (.pl rfl)) rfl ?_
          refine WL.next hQ20 (.cons (i := 2) rfl (.cons (i := 3) rfl (.cons (i := 4) rfl (.nil)))) ?_
          obtain rfl := Option.some.inj hF11
          obtain rfl := einr hN11
          obtain rfl := Option.some.inj hF
          refine W.retV (fn := Try.f97) (vs := [.agg (encRel (Rel.mk r1.n r5)).toArray, .bool true, .int .i64 0]) Try.results97 ⟨.cellA Try.underlying99 rfl cells99 rfl (i := 0) rfl rfl, ⟨.tmp rfl, ⟨.tmp rfl, trivial⟩⟩⟩ (fun _ _ h => h) (fun w hw => ?_)
          exact hR _ _ ⟨rfl, (hw.pick [] rfl)⟩
        · replace hF11 := cneg hC19 hF11
          refine W.skip ?_
          refine W.go hK16 (.cons (i := 2) rfl (.cons (i := 6) rfl (.cons (i := 17) rfl (.cons (i := 18) rfl (.nil))))) ?_
          -- region 10: order.go:42
          refine W.reg ?_
          obtain ⟨hk9, hF11⟩ := ckh hF11
          refine WL.q (Y.add (.pl rfl) (.pl rfl) (ok64_lt (hk9))) rfl ?_
          refine WL.q (Y.move (.pl rfl)) rfl ?_
          refine WL.nil ?_
          obtain rfl := Option.some.inj hF11
          exact W.again1 hK12 (v7 + 1) k11 hN11 (Nat.lt_succ_self _) (.cons rfl (.nil)) (.cons (i := 2) rfl (.cons (i := 6) rfl (.cons (i := 17) rfl (.nil)))) (fun w hw => hw.pick [0, 1] rfl)
      · replace hF11 := cneg hC15 hF11
        refine W.exit ?_
        obtain rfl := Option.some.inj hF11
        exact W.joinAt0 hK9  (einr hN11) (.nil) (.cons (i := 2) rfl (.cons (i := 6) rfl (.nil))) (fun w hw => hw.pick [0, 1] rfl)
    · -- behind
      rintro  rfl
      -- region 11: order.go:47
      refine W.seqR fun Q22 hQ22 => ?_
      refine WL.q (Y.loadBA (ds := (encRel (Rel.mk r1.n r5))) Try.underlying99 rfl cells99 (.pl rfl) (i := 1) rfl rfl subW) rfl ?_
      refine WL.step (WO.storeBA (ds := (encRel (Rel.mk r1.n r5))) (cs' := (encRel (Rel.mk r1.n r5))) cells99 (.pl rfl) (.pl rfl) rfl (oneRel _) (i := 0) rfl (lel (o := 0) (l := 13) (m := 13) (by decide) rfl rfl) (putW rfl) ?_)
      refine WL.q (Y.assign (.pl rfl)) rfl ?_
      refine WL.q (Y.assign (.pl rfl)) rfl ?_
      refine WL.next hQ22 (.cons (i := 2) rfl (.cons (i := 3) rfl (.cons (i := 4) rfl (.nil)))) ?_
      obtain rfl := Option.some.inj hF
      refine W.retV (fn := Try.f97) (vs := [.agg (encRel (Rel.mk r1.n r5)).toArray, .bool false, .int .i64 0]) Try.results97 ⟨.cellA Try.underlying99 rfl cells99 rfl (i := 0) rfl rfl, ⟨.tmp rfl, ⟨.tmp rfl, trivial⟩⟩⟩ (fun _ _ h => h) (fun w hw => ?_)
      exact hR _ _ ⟨rfl, (hw.pick [] rfl)⟩

def causal_causes_L27 (N : Nat) (calls1 : (List Call)) (x13 : Call) (v11 : Int) : ((List Int) × Int) → Option (((List Int) × Int) ⊕ (List Int))
  | (After15, v16) =>
    cond (decide (v16 < ((calls1).length : Int)))
      (bd (ix calls1 v16) fun (x17 : Call) =>
      cond ((((decide (x13.kind = 1)) && (decide (x17.kind = 2))) && (decide (x13.thing = x17.thing))) && (decide (x13.arg = x17.res)))
        (bd (ax 12 0 After15 v11) fun (x19 : Int) =>
        bd (ax 12 0 After15 v11) fun (x20 : Int) =>
        ck (ok64 (v16 + 1)) <|
        some (.inl ((setA 12 0 After15 v11 (borI .u16 x19 (shlI .u16 1 (IntKind.u64.wrap v16)))), (v16 + 1))))
        (ck (ok64 (v16 + 1)) <|
        some (.inl (After15, (v16 + 1)))))
      (some (.inr After15))

def causal_causes_L25 (N : Nat) (calls1 : (List Call)) : ((List Int) × Int) → Option (((List Int) × Int) ⊕ (List Int))
  | (After10, v11) =>
    cond (decide (v11 < ((calls1).length : Int)))
      (bd (α := (List Int)) (bd (ix calls1 v11) fun (x13 : Call) =>
        iter (causal_causes_L27 N calls1 x13 v11) N (After10, 0)) <|
      fun (After12 : (List Int)) => 
        ck (ok64 (v11 + 1)) <|
        some (.inl (After12, (v11 + 1))))
      (some (.inr After10))

def causal_causes (N : Nat) (calls1 : (List Call)) : Option (Int × (List Int) × Bool) :=
  bd (causal_programs N calls1) fun (r7 : (List Int)) =>
  bd (α := (List Int)) (iter (causal_causes_L25 N calls1) N (r7, 0)) <|
  fun (After9 : (List Int)) => 
    bd (order_Close N (Rel.mk ((calls1).length : Int) After9)) fun (r24 : (Int × (List Int) × Bool × Int)) =>
    some (r24.1, r24.2.1, r24.2.2.1)

theorem causal_causes_ok {N : Nat} {calls1 : (List Call)} {res : (Int × (List Int) × Bool)} (hF : causal_causes N calls1 = some res) (w : World) {v5 : Value} (hs4 : SlIn encCall 7 w v5 calls1) :
    Pure Try.prog 85 [v5] w (.tuple #[.agg (encRel (Rel.mk res.1 res.2.1)).toArray, .bool res.2.2]) := by
  obtain ⟨A2, c3, rfl, hcc3, hs4⟩ := hs4.form
  refine W.enter (n := 70) Try.func85 rfl rfl Sub.refl (by simp) (St.start w) fun R hR => ?_
  unfold causal_causes at hF
  -- region 0: causal.go:51
  refine W.seqR fun Q1 hQ1 => ?_
  refine WL.step (WO.alloc (cs := (encRel (Rel.mk 0 [])).toArray) zero99 rfl rfl fun b6 => ?_)
  refine WL.q (Y.assign (.pl rfl)) rfl ?_
  refine WL.next hQ1 (.cons (i := 0) rfl (.cons (i := 2) rfl (.nil))) ?_
  -- region 1: causal.go:52
  refine W.seqR fun Q2 hQ2 => ?_
  refine WL.q (Y.move (.pl rfl)) rfl ?_
  obtain ⟨r7, hr7, hF⟩ := bnd hF
  refine WL.step (WO.callP isGo87 (.cons (.pl rfl) (.nil)) rfl (fun w hw => causal_programs_ok (hr7) w (hs4.mono hw)) ?_)
  refine WL.step (WO.alloc (cs := (encRel (Rel.mk 0 [])).toArray) zero99 rfl rfl fun b8 => ?_)
  refine WL.step (WO.storeBA (ds := (encRel (Rel.mk ((calls1).length : Int) r7))) (cs' := (encRel (Rel.mk ((calls1).length : Int) r7))) cells99 (.pl rfl) (.pl rfl) rfl (oneRel _) (i := 0) rfl (lel (o := 0) (l := 13) (m := 13) (by decide) rfl rfl) (putW rfl) ?_)
  refine WL.next hQ2 (.cons (i := 0) rfl (.cons (i := 2) rfl (.cons (i := 4) rfl (.nil)))) ?_
  obtain ⟨o3, hF3, hF⟩ := bnd hF
  refine W.join1 (Em := fun (After9 : (List Int)) => []) (M := fun After9 => [cBx b6 99 (encRel (Rel.mk 0 [])), cBx b8 99 (encRel (Rel.mk ((calls1).length : Int) After9))]) (I := fun After9 => After9 = o3) (.cons (i := 2) rfl (.cons (i := 4) rfl (.nil))) (fun K4 hK4 => ?_) ?_
  · -- up to
    -- region 2: causal.go:53
    refine W.seqR fun Q5 hQ5 => ?_
    refine WL.q (Y.move (.pl rfl)) rfl ?_
    refine WL.q (Y.len Try.underlying51 (.pl rfl)) rfl ?_
    refine WL.q (Y.move (.pl rfl)) rfl ?_
    refine WL.next hQ5 (.cons (i := 0) rfl (.cons (i := 2) rfl (.cons (i := 4) rfl (.cons (i := 14) rfl (.cons (i := 15) rfl (.cons (i := 16) rfl (.nil))))))) ?_
    refine W.block ?_
    refine W.loop2 (Em := fun (After10 : (List Int)) (v11 : Int) => [(16, .int .i64 v11)]) (M := fun After10 v11 => [cBx b6 99 (encRel (Rel.mk 0 [])), cBx b8 99 (encRel (Rel.mk ((calls1).length : Int) After10))]) (I := fun After10 v11 k6 => iter (causal_causes_L25 N calls1) k6 (After10, v11) = some o3) r7 0 N (hF3) (.cons rfl (.nil)) (.cons (i := 0) rfl (.cons (i := 2) rfl (.cons (i := 4) rfl (.cons (i := 14) rfl (.cons (i := 15) rfl (.nil)))))) (fun w hw => hw.pick [1, 0] rfl) (fun After10 v11 k6 hI K7 hK7 => ?_)
    obtain ⟨k6, t6, rfl, hF6, hN6⟩ := iter_step hI
    -- region 3: causal.go:53
    refine W.seqR fun Q8 hQ8 => ?_
    refine WL.q (Y.lss (.pl rfl) (.pl rfl)) rfl ?_
    refine WL.next hQ8 (.cons (i := 0) rfl (.cons (i := 2) rfl (.cons (i := 4) rfl (.cons (i := 14) rfl (.cons (i := 15) rfl (.cons (i := 16) rfl (.cons (i := 17) rfl (.nil)))))))) ?_
    refine W.seq fun K9 hK9 => ?_
    refine W.cond (.pl rfl) (fun hC10 => ?_) (fun hC10 => ?_)
    · replace hF6 := cpos hC10 hF6
      refine W.skip ?_
      refine W.go hK9 (.cons (i := 0) rfl (.cons (i := 2) rfl (.cons (i := 4) rfl (.cons (i := 14) rfl (.cons (i := 15) rfl (.cons (i := 16) rfl (.nil))))))) ?_
      obtain ⟨o11, hF11, hF6⟩ := bnd hF6
      refine W.join1 (Em := fun (After12 : (List Int)) => []) (M := fun After12 => [cBx b6 99 (encRel (Rel.mk 0 [])), cBx b8 99 (encRel (Rel.mk ((calls1).length : Int) After12))]) (I := fun After12 => After12 = o11) (.cons (i := 0) rfl (.cons (i := 2) rfl (.cons (i := 4) rfl (.cons (i := 14) rfl (.cons (i := 15) rfl (.cons (i := 16) rfl (.nil))))))) (fun K12 hK12 => ?_) ?_
      · -- up to
        refine W.block ?_
        -- region 4: causal.go:53
        refine W.seqR fun Q13 hQ13 => ?_
        refine WL.q (Y.move (.pl rfl)) rfl ?_
        obtain ⟨x13, hx13, hF11⟩ := bnd hF11
        refine WL.q (Y.slEl Try.underlying51 cells55 hs4 (.pl rfl) (.pl rfl) (ix_lt (hx13))) rfl ?_
        refine WL.q (Y.loadSA (enc := encCall) (ds := (encCall x13)) (j := 0) Try.underlying55 rfl cells55 hs4 (.pl rfl) (hx13) rfl rfl subW) rfl ?_
        refine WL.step (WO.alloc (cs := (encCall (Call.mk 0 0 0 0 0 0 0)).toArray) zero55 rfl rfl fun b14 => ?_)
        refine WL.q (Y.assign (.pl rfl)) rfl ?_
        refine WL.step (WO.storeBA (ds := (encCall x13)) (cs' := (encCall x13)) cells55 (.pl rfl) (.pl rfl) rfl (oneCall _) (i := 0) rfl (lel (o := 0) (l := 7) (m := 7) (by decide) rfl rfl) (putW rfl) ?_)
        refine WL.next hQ13 (.cons (i := 0) rfl (.cons (i := 2) rfl (.cons (i := 4) rfl (.cons (i := 5) rfl (.cons (i := 6) rfl (.cons (i := 14) rfl (.cons (i := 15) rfl (.cons (i := 16) rfl (.nil))))))))) ?_
        -- region 5: causal.go:54
        refine W.seqR fun Q14 hQ14 => ?_
        refine WL.q (Y.move (.pl rfl)) rfl ?_
        refine WL.q (Y.len Try.underlying51 (.pl rfl)) rfl ?_
        refine WL.q (Y.move (.pl rfl)) rfl ?_
        refine WL.next hQ14 (.cons (i := 0) rfl (.cons (i := 2) rfl (.cons (i := 4) rfl (.cons (i := 5) rfl (.cons (i := 6) rfl (.cons (i := 14) rfl (.cons (i := 15) rfl (.cons (i := 16) rfl (.cons (i := 21) rfl (.cons (i := 22) rfl (.cons (i := 23) rfl (.nil)))))))))))) ?_
        refine W.block ?_
        refine W.loop2 (Em := fun (After15 : (List Int)) (v16 : Int) => [(23, .int .i64 v16)]) (M := fun After15 v16 => [cBx b6 99 (encRel (Rel.mk 0 [])), cBx b8 99 (encRel (Rel.mk ((calls1).length : Int) After15)), cBx b14 55 (encCall x13)]) (I := fun After15 v16 k15 => iter (causal_causes_L27 N calls1 x13 v11) k15 (After15, v16) = some o11) After10 0 N (hF11) (.cons rfl (.nil)) (.cons (i := 0) rfl (.cons (i := 2) rfl (.cons (i := 4) rfl (.cons (i := 5) rfl (.cons (i := 6) rfl (.cons (i := 14) rfl (.cons (i := 15) rfl (.cons (i := 16) rfl (.cons (i := 21) rfl (.cons (i := 22) rfl (.nil))))))))))) (fun w hw => hw.pick [1, 2, 0] rfl) (fun After15 v16 k15 hI K16 hK16 => ?_)
        obtain ⟨k15, t15, rfl, hF15, hN15⟩ := iter_step hI
        -- region 6: causal.go:54
        refine W.seqR fun Q17 hQ17 => ?_
        refine WL.q (Y.lss (.pl rfl) (.pl rfl)) rfl ?_
        refine WL.next hQ17 (.cons (i := 0) rfl (.cons (i := 2) rfl (.cons (i := 4) rfl (.cons (i := 5) rfl (.cons (i := 6) rfl (.cons (i := 14) rfl (.cons (i := 15) rfl (.cons (i := 16) rfl (.cons (i := 21) rfl (.cons (i := 22) rfl (.cons (i := 23) rfl (.cons (i := 24) rfl (.nil))))))))))))) ?_
        refine W.seq fun K18 hK18 => ?_
        refine W.cond (.pl rfl) (fun hC19 => ?_) (fun hC19 => ?_)
        · replace hF15 := cpos hC19 hF15
          refine W.skip ?_
          refine W.go hK18 (.cons (i := 0) rfl (.cons (i := 2) rfl (.cons (i := 4) rfl (.cons (i := 5) rfl (.cons (i := 6) rfl (.cons (i := 14) rfl (.cons (i := 15) rfl (.cons (i := 16) rfl (.cons (i := 21) rfl (.cons (i := 22) rfl (.cons (i := 23) rfl (.nil)))))))))))) ?_
          refine W.seq fun K20 hK20 => ?_
          refine W.block ?_
          -- region 7: causal.go:54
          refine W.seqR fun Q21 hQ21 => ?_
          refine WL.q (Y.move (.pl rfl)) rfl ?_
          obtain ⟨x17, hx17, hF15⟩ := bnd hF15
          refine WL.q (Y.slEl Try.underlying51 cells55 hs4 (.pl rfl) (.pl rfl) (ix_lt (hx17))) rfl ?_
          refine WL.q (Y.loadSA (enc := encCall) (ds := (encCall x17)) (j := 0) Try.underlying55 rfl cells55 hs4 (.pl rfl) (hx17) rfl rfl subW) rfl ?_
          refine WL.step (WO.alloc (cs := (encCall (Call.mk 0 0 0 0 0 0 0)).toArray) zero55 rfl rfl fun b18 => ?_)
          refine WL.q (Y.assign (.pl rfl)) rfl ?_
          refine WL.step (WO.storeBA (ds := (encCall x17)) (cs' := (encCall x17)) cells55 (.pl rfl) (.pl rfl) rfl (oneCall _) (i := 0) rfl (lel (o := 0) (l := 7) (m := 7) (by decide) rfl rfl) (putW rfl) ?_)
          refine WL.next hQ21 (.cons (i := 0) rfl (.cons (i := 2) rfl (.cons (i := 4) rfl (.cons (i := 5) rfl (.cons (i := 6) rfl (.cons (i := 7) rfl (.cons (i := 8) rfl (.cons (i := 14) rfl (.cons (i := 15) rfl (.cons (i := 16) rfl (.cons (i := 21) rfl (.cons (i := 22) rfl (.cons (i := 23) rfl (.nil)))))))))))))) ?_
          -- region 8: causal.go:55
          refine W.seqR fun Q22 hQ22 => ?_
          refine WL.q (Y.fieldAddr0 (off := 2) (ft := 3) Try.underlying55 rfl cells3 (.pl rfl)) rfl ?_
          refine WL.q (Y.loadB (v := .int .i64 x13.kind) Try.underlying3 rfl (.pl rfl) (i := 3) rfl (rfl)) rfl ?_
          refine WL.q (Y.eql (.pl rfl) (.pl rfl)) rfl ?_
          refine WL.q (Y.move (.pl rfl)) rfl ?_
          refine WL.g (.pl rfl rfl rfl) (fun hg => Y.fieldAddr0 (off := 2) (ft := 3) Try.underlying55 rfl cells3 (.pl rfl)) rfl ?_
          refine WL.g (.pl rfl rfl rfl) (fun hg => Y.loadB (v := .int .i64 x17.kind) Try.underlying3 rfl (.gd (hg) rfl) (i := 0) rfl (rfl)) rfl ?_
          refine WL.g (.pl rfl rfl rfl) (fun hg => Y.eql (.gd (hg) rfl) (.pl rfl)) rfl ?_
          refine WL.q (Y.and (.pl rfl) (fun h2 => .gd (eqt h2) rfl)) rfl ?_
          refine WL.q (Y.move (.pl rfl)) rfl ?_
          refine WL.g (.pl rfl rfl rfl) (fun hg => Y.fieldAddr0 (off := 1) (ft := 3) Try.underlying55 rfl cells3 (.pl rfl)) rfl ?_
          refine WL.g (.pl rfl rfl rfl) (fun hg => Y.loadB (v := .int .i64 x13.thing) Try.underlying3 rfl (.gd (hg) rfl) (i := 3) rfl (rfl)) rfl ?_
          refine WL.g (.pl rfl rfl rfl) (fun hg => Y.fieldAddr0 (off := 1) (ft := 3) Try.underlying55 rfl cells3 (.pl rfl)) rfl ?_
          refine WL.g (.pl rfl rfl rfl) (fun hg => Y.loadB (v := .int .i64 x17.thing) Try.underlying3 rfl (.gd (hg) rfl) (i := 0) rfl (rfl)) rfl ?_
          refine WL.g (.pl rfl rfl rfl) (fun hg => Y.eql (.gd (hg) rfl) (.gd (hg) rfl)) rfl ?_
          refine WL.q (Y.and (.pl rfl) (fun h2 => .gd (eqt h2) rfl)) rfl ?_
          refine WL.q (Y.move (.pl rfl)) rfl ?_
          refine WL.g (.pl rfl rfl rfl) (fun hg => Y.fieldAddr0 (off := 3) (ft := 3) Try.underlying55 rfl cells3 (.pl rfl)) rfl ?_
          refine WL.g (.pl rfl rfl rfl) (fun hg => Y.loadB (v := .int .i64 x13.arg) Try.underlying3 rfl (.gd (hg) rfl) (i := 3) rfl (rfl)) rfl ?_
          refine WL.g (.pl rfl rfl rfl) (fun hg => Y.fieldAddr0 (off := 4) (ft := 3) Try.underlying55 rfl cells3 (.pl rfl)) rfl ?_
          refine WL.g (.pl rfl rfl rfl) (fun hg => Y.loadB (v := .int .i64 x17.res) Try.underlying3 rfl (.gd (hg) rfl) (i := 0) rfl (rfl)) rfl ?_
          refine WL.g (.pl rfl rfl rfl) (fun hg => Y.eql (.gd (hg) rfl) (.gd (hg) rfl)) rfl ?_
          refine WL.q (Y.and (.pl rfl) (fun h2 => .gd (eqt h2) rfl)) rfl ?_
          refine WL.next hQ22 (.cons (i := 0) rfl (.cons (i := 2) rfl (.cons (i := 4) rfl (.cons (i := 5) rfl (.cons (i := 6) rfl (.cons (i := 7) rfl (.cons (i := 14) rfl (.cons (i := 15) rfl (.cons (i := 16) rfl (.cons (i := 21) rfl (.cons (i := 22) rfl (.cons (i := 23) rfl (.cons (i := 49) rfl (.nil)))))))))))))) ?_
          refine W.cond (.pl rfl) (fun hC23 => ?_) (fun hC23 => ?_)
          · replace hF15 := cpos hC23 hF15
            -- region 9: causal.go:56
            refine W.reg ?_
            refine WL.q (Y.move (.pl rfl)) rfl ?_
            refine WL.q (Y.fieldAddr0 (off := 1) (ft := 97) Try.underlying99 rfl cells97 (.pl rfl)) rfl ?_
            obtain ⟨x19, hx19, hF15⟩ := bnd hF15
            refine WL.q (Y.arrZ Try.underlying97 cells96 (.pl rfl) (.pl rfl) (ax_lt (hx19))) rfl ?_
            refine WL.q (Y.loadB (v := .int .u16 x19) Try.underlying96 rfl (.pl rfl) (i := 2) rfl (cellsA (pre := (Value.int .i64 ((calls1).length : Int) :: [])) (off := 1) (post := []) (a := After15) (enc := (eI .u16)) (d := 0) (n := 12) (sz := 1) (j := 0) (fun _ => rfl) rfl (ax_nat (hx19)) (ax_get (hx19)) rfl)) rfl ?_
            refine WL.q (Y.move (.pl rfl)) rfl ?_
            refine WL.q (Y.conv Try.underlying3 Try.underlying113 (.pl rfl)) rfl ?_
            refine WL.q (Y.shl (.pl rfl) (.pl rfl) (wrapU_nn rfl _)) rfl ?_
            refine WL.q (Y.bor (.pl rfl) (.pl rfl)) rfl ?_
            refine WL.q (Y.fieldAddr0 (off := 1) (ft := 97) Try.underlying99 rfl cells97 (.pl rfl)) rfl ?_
            obtain ⟨x20, hx20, hF15⟩ := bnd hF15
            refine WL.q (Y.arrZ Try.underlying97 cells96 (.pl rfl) (.pl rfl) (ax_lt (hx20))) rfl ?_
            refine WL.step (WO.storeB (cs' := (encRel (Rel.mk ((calls1).length : Int) (setA 12 0 After15 v11 (borI .u16 x19 (shlI .u16 1 (IntKind.u64.wrap v16))))))) cells96 (.pl rfl) (.pl rfl) rfl (i := 2) rfl (ltl (m := 13) (offlt (off := 1) (sz := 1) (j := 0) (ax_nat (hx20)) (by decide)) rfl) (cellsSet (pre := (Value.int .i64 ((calls1).length : Int) :: [])) (off := 1) (post := []) (a := After15) (enc := (eI .u16)) (d := 0) (n := 12) (sz := 1) (j := 0) (x := x20) (x' := (borI .u16 x19 (shlI .u16 1 (IntKind.u64.wrap v16)))) (fun _ => rfl) rfl (ax_lt (hx20)) (ax_get (hx20)) (by decide) rfl rfl) ?_)
            refine WL.nil ?_
            refine W.go hK20 (.cons (i := 0) rfl (.cons (i := 2) rfl (.cons (i := 4) rfl (.cons (i := 5) rfl (.cons (i := 6) rfl (.cons (i := 14) rfl (.cons (i := 15) rfl (.cons (i := 16) rfl (.cons (i := 21) rfl (.cons (i := 22) rfl (.cons (i := 23) rfl (.nil)))))))))))) ?_
            -- region 10: causal.go:54
            refine W.reg ?_
            obtain ⟨hk21, hF15⟩ := ckh hF15
            refine WL.q (Y.add (.pl rfl) (.pl rfl) (ok64_lt (hk21))) rfl ?_
            refine WL.q (Y.move (.pl rfl)) rfl ?_
            refine WL.nil ?_
            obtain rfl := Option.some.inj hF15
            exact W.again2 hK16 (setA 12 0 After15 v11 (borI .u16 x19 (shlI .u16 1 (IntKind.u64.wrap v16)))) (v16 + 1) k15 hN15 (Nat.lt_succ_self _) (.cons rfl (.nil)) (.cons (i := 0) rfl (.cons (i := 2) rfl (.cons (i := 4) rfl (.cons (i := 5) rfl (.cons (i := 6) rfl (.cons (i := 14) rfl (.cons (i := 15) rfl (.cons (i := 16) rfl (.cons (i := 21) rfl (.cons (i := 22) rfl (.nil))))))))))) (fun w hw => hw.pick [1, 2, 3] rfl)
          · replace hF15 := cneg hC23 hF15
            refine W.skip ?_
            refine W.go hK20 (.cons (i := 0) rfl (.cons (i := 2) rfl (.cons (i := 4) rfl (.cons (i := 5) rfl (.cons (i := 6) rfl (.cons (i := 14) rfl (.cons (i := 15) rfl (.cons (i := 16) rfl (.cons (i := 21) rfl (.cons (i := 22) rfl (.cons (i := 23) rfl (.nil)))))))))))) ?_
            -- region 10: causal.go:54
            refine W.reg ?_
            obtain ⟨hk22, hF15⟩ := ckh hF15
            refine WL.q (Y.add (.pl rfl) (.pl rfl) (ok64_lt (hk22))) rfl ?_
            refine WL.q (Y.move (.pl rfl)) rfl ?_
            refine WL.nil ?_
            obtain rfl := Option.some.inj hF15
            exact W.again2 hK16 After15 (v16 + 1) k15 hN15 (Nat.lt_succ_self _) (.cons rfl (.nil)) (.cons (i := 0) rfl (.cons (i := 2) rfl (.cons (i := 4) rfl (.cons (i := 5) rfl (.cons (i := 6) rfl (.cons (i := 14) rfl (.cons (i := 15) rfl (.cons (i := 16) rfl (.cons (i := 21) rfl (.cons (i := 22) rfl (.nil))))))))))) (fun w hw => hw.pick [1, 2, 3] rfl)
        · replace hF15 := cneg hC19 hF15
          refine W.exit ?_
          obtain rfl := Option.some.inj hF15
          exact W.joinAt1 hK12 After15 (einr hN15) (.nil) (.cons (i := 0) rfl (.cons (i := 2) rfl (.cons (i := 4) rfl (.cons (i := 14) rfl (.cons (i := 15) rfl (.cons (i := 16) rfl (.nil))))))) (fun w hw => hw.pick [0, 1] rfl)
      · -- behind
        rintro After12 rfl
        -- region 11: causal.go:53
        refine W.reg ?_
        obtain ⟨hk23, hF6⟩ := ckh hF6
        refine WL.q (Y.add (.pl rfl) (.pl rfl) (ok64_lt (hk23))) rfl ?_
        refine WL.q (Y.move (.pl rfl)) rfl ?_
        refine WL.nil ?_
        obtain rfl := Option.some.inj hF6
        exact W.again2 hK7 After12 (v11 + 1) k6 hN6 (Nat.lt_succ_self _) (.cons rfl (.nil)) (.cons (i := 0) rfl (.cons (i := 2) rfl (.cons (i := 4) rfl (.cons (i := 14) rfl (.cons (i := 15) rfl (.nil)))))) (fun w hw => hw.pick [0, 1] rfl)
    · replace hF6 := cneg hC10 hF6
      refine W.exit ?_
      obtain rfl := Option.some.inj hF6
      exact W.joinAt1 hK4 After10 (einr hN6) (.nil) (.cons (i := 2) rfl (.cons (i := 4) rfl (.nil))) (fun w hw => hw.pick [0, 1] rfl)
  · -- behind
    rintro After9 rfl
    -- region 12: causal.go:60
    refine W.seqR fun Q28 hQ28 => ?_
    refine WL.q (Y.loadBA (ds := (encRel (Rel.mk ((calls1).length : Int) After9))) Try.underlying99 rfl cells99 (.pl rfl) (i := 1) rfl rfl subW) rfl ?_
    obtain ⟨r24, hr24, hF⟩ := bnd hF
    refine WL.step (WO.callP isGo97 (.cons (.pl rfl) (.nil)) rfl (fun w hw => order_Close_ok (hr24) w ) ?_)
    refine WL.q (Y.move (.pl rfl)) rfl ?_
    refine WL.q (Y.extract (.pl rfl) rfl) rfl ?_
    refine WL.q (Y.extract (.pl rfl) rfl) rfl ?_
    refine WL.q (Y.extract (.pl rfl) rfl) rfl ?_
    refine WL.step (WO.alloc (cs := (encRel (Rel.mk 0 [])).toArray) zero99 rfl rfl fun b25 => ?_)
    refine WL.step (WO.storeBA (ds := (encRel (Rel.mk r24.1 r24.2.1))) (cs' := (encRel (Rel.mk r24.1 r24.2.1))) cells99 (.pl rfl) (.pl rfl) rfl (oneRel _) (i := 0) rfl (lel (o := 0) (l := 13) (m := 13) (by decide) rfl rfl) (putW rfl) ?_)
    refine WL.q (Y.assign (.pl rfl)) rfl ?_
    refine WL.q (Y.assign (.pl rfl)) rfl ?_
    refine WL.next hQ28 (.cons (i := 2) rfl (.cons (i := 9) rfl (.cons (i := 10) rfl (.nil)))) ?_
    -- region 13: causal.go:61
    refine W.seqR fun Q29 hQ29 => ?_
    refine WL.q (Y.loadBA (ds := (encRel (Rel.mk r24.1 r24.2.1))) Try.underlying99 rfl cells99 (.pl rfl) (i := 0) rfl rfl subW) rfl ?_
    refine WL.q (Y.move (.pl rfl)) rfl ?_
    refine WL.step (WO.storeBA (ds := (encRel (Rel.mk r24.1 r24.2.1))) (cs' := (encRel (Rel.mk r24.1 r24.2.1))) cells99 (.pl rfl) (.pl rfl) rfl (oneRel _) (i := 1) rfl (lel (o := 0) (l := 13) (m := 13) (by decide) rfl rfl) (putW rfl) ?_)
    refine WL.q (Y.assign (.pl rfl)) rfl ?_
    refine WL.next hQ29 (.cons (i := 2) rfl (.cons (i := 3) rfl (.nil))) ?_
    obtain rfl := Option.some.inj hF
    refine W.retV (fn := Try.f85) (vs := [.agg (encRel (Rel.mk r24.1 r24.2.1)).toArray, .bool r24.2.2.1]) Try.results85 ⟨.cellA Try.underlying99 rfl cells99 rfl (i := 1) rfl rfl, ⟨.tmp rfl, trivial⟩⟩ (fun _ _ h => h) (fun w hw => ?_)
    exact hR _ _ ⟨rfl, (hw.pick [] rfl)⟩

def causal_viewer_find_L7 (N : Nat) (self : (List Call) → Rel → Int → Int → (List Int) → Option (Int × (List Int) × Bool)) (calls2 : (List Call)) (need7 : Int) (r6 : Rel) : (Int × (List Int) × Int) → Option ((Int × (List Int) × Int) ⊕ ((Int × (List Int)) ⊕ (Int × (List Int) × Bool)))
  | (placed12, values13, v14) =>
    cond (decide (v14 < ((calls2).length : Int)))
      (bd (ix calls2 v14) fun (x15 : Call) =>
      bd ((cond (((decide ((bandI .u16 need7 (shlI .u16 1 (IntKind.u64.wrap v14))) = 0)) || (!(decide ((bandI .u16 placed12 (shlI .u16 1 (IntKind.u64.wrap v14))) = 0)))) == false) (ax 12 0 r6.after v14) (some 0))) fun (x17 : Int) =>
      bd ((cond (((((decide ((bandI .u16 need7 (shlI .u16 1 (IntKind.u64.wrap v14))) = 0)) || (!(decide ((bandI .u16 placed12 (shlI .u16 1 (IntKind.u64.wrap v14))) = 0)))) || (!(decide ((bandI .u16 x17 placed12) = 0)))) == false) && ((decide (x15.kind = 2)) == true)) (ax 4 0 values13 x15.thing) (some 0))) fun (x18 : Int) =>
      cond ((((decide ((bandI .u16 need7 (shlI .u16 1 (IntKind.u64.wrap v14))) = 0)) || (!(decide ((bandI .u16 placed12 (shlI .u16 1 (IntKind.u64.wrap v14))) = 0)))) || (!(decide ((bandI .u16 x17 placed12) = 0)))) || ((decide (x15.kind = 2)) && (!(decide (x18 = x15.res)))))
        (ck (ok64 (v14 + 1)) <|
        some (.inl (placed12, values13, (v14 + 1))))
        (bd (ax 4 0 values13 x15.thing) fun (x20 : Int) =>
        bd (α := (List Int)) (cond (decide (x15.kind = 1))
            (bd (ax 4 0 values13 x15.thing) fun (x22 : Int) =>
            some (setA 4 0 values13 x15.thing x15.arg))
            (some values13)) <|
        fun (values21 : (List Int)) => 
          bd (self calls2 r6 need7 (borI .u16 placed12 (shlI .u16 1 (IntKind.u64.wrap v14))) values21) fun (r23 : (Int × (List Int) × Bool)) =>
          cond r23.2.2
            (some (.inr (.inr (r23.1, r23.2.1, true))))
            (bd (ax 4 0 r23.2.1 x15.thing) fun (x24 : Int) =>
            ck (ok64 (v14 + 1)) <|
            some (.inl ((bclrI .u16 r23.1 (shlI .u16 1 (IntKind.u64.wrap v14))), (setA 4 0 r23.2.1 x15.thing x20), (v14 + 1))))))
      (some (.inr (.inl (placed12, values13))))

def causal_viewer_find_B (N : Nat) (self : (List Call) → Rel → Int → Int → (List Int) → Option (Int × (List Int) × Bool)) (calls2 : (List Call)) (r6 : Rel) (need7 : Int) (placed8 : Int) (values9 : (List Int)) : Option (Int × (List Int) × Bool) :=
  cond (decide (placed8 = need7))
    (some (placed8, values9, true))
    (bd (α := ((Int × (List Int)) ⊕ (Int × (List Int) × Bool))) (iter (causal_viewer_find_L7 N self calls2 need7 r6) N (placed8, values9, 0)) <|
    Sum.elim (fun (placed10, values11) => 
      some (placed10, values11, false)) (fun p => some p))
def causal_viewer_find (N : Nat) : Nat → (List Call) → Rel → Int → Int → (List Int) → Option (Int × (List Int) × Bool)
  | 0 => fun _ _ _ _ _ => none
  | M + 1 => causal_viewer_find_B N (causal_viewer_find N M)

theorem causal_viewer_find_ok_B {N : Nat} {self : (List Call) → Rel → Int → Int → (List Int) → Option (Int × (List Int) × Bool)} (ih : ∀ {calls2 : (List Call)} {r6 : Rel} {need7 : Int} {placed8 : Int} {values9 : (List Int)} {b1 : Nat} {A3 : Option Addr} {c4 : Nat} {res : (Int × (List Int) × Bool)} (hF : self calls2 r6 need7 placed8 values9 = some res) {w0 w : World} {T : List Chunk} (hw : St w0.heap.size w0 ([cBx b1 154 (Value.slice A3 (calls2).length c4 :: ((encRel r6) ++ (Value.int .u16 need7 :: (Value.int .u16 placed8 :: (((encA 4 (eI .i64) 0) values9) ++ [])))))] ++ T) w) (hs5 : SlIn encCall 7 w0 (.slice A3 (calls2).length c4) calls2), Calls Try.prog 98 (List.toArray [.pointer (some ⟨b1, 0, none⟩)]) w (fun e w' => ∃ g : Unit, (True) ∧ e = .returned (.bool res.2.2) ∧ St w0.heap.size w0 ([cBx b1 154 (Value.slice A3 (calls2).length c4 :: ((encRel r6) ++ (Value.int .u16 need7 :: (Value.int .u16 res.1 :: (((encA 4 (eI .i64) 0) res.2.1) ++ [])))))] ++ T) w')) {calls2 : (List Call)} {r6 : Rel} {need7 : Int} {placed8 : Int} {values9 : (List Int)} {b1 : Nat} {A3 : Option Addr} {c4 : Nat} {res : (Int × (List Int) × Bool)} (hF : causal_viewer_find_B N self calls2 r6 need7 placed8 values9 = some res) {w0 w : World} {T : List Chunk} (hw : St w0.heap.size w0 ([cBx b1 154 (Value.slice A3 (calls2).length c4 :: ((encRel r6) ++ (Value.int .u16 need7 :: (Value.int .u16 placed8 :: (((encA 4 (eI .i64) 0) values9) ++ [])))))] ++ T) w) (hs5 : SlIn encCall 7 w0 (.slice A3 (calls2).length c4) calls2) :
    Calls Try.prog 98 (List.toArray [.pointer (some ⟨b1, 0, none⟩)]) w (fun e w' => ∃ g : Unit, (True) ∧ e = .returned (.bool res.2.2) ∧ St w0.heap.size w0 ([cBx b1 154 (Value.slice A3 (calls2).length c4 :: ((encRel r6) ++ (Value.int .u16 need7 :: (Value.int .u16 res.1 :: (((encA 4 (eI .i64) 0) res.2.1) ++ [])))))] ++ T) w') := by
  refine W.enter (n := 121) Try.func98 rfl rfl Sub.refl (by simp) hw fun R hR => ?_
  unfold causal_viewer_find_B at hF
  -- region 0: causal.go:84
  refine W.seqR fun Q1 hQ1 => ?_
  refine WL.q (Y.assign (.pl rfl)) rfl ?_
  refine WL.next hQ1 (.cons (i := 0) rfl (.nil)) ?_
  refine W.seq fun K2 hK2 => ?_
  -- region 1: causal.go:85
  refine W.seqD (by kernel_rfl) (by kernel_rfl) fun R3 hR3 => ?_
  refine WD.q (Y.move (.pl rfl)) rfl ?_
  refine WD.q (Y.nilCheck (.pl rfl)) rfl ?_
  refine WD.q (Y.fieldAddr0 (off := 15) (ft := 96) Try.underlying154 rfl cells96 (.pl rfl)) rfl ?_
  refine WD.q (Y.loadB (v := .int .u16 placed8) Try.underlying96 rfl (.pl rfl) (i := 0) rfl (rfl)) rfl ?_
  refine WD.q (Y.move (.pl rfl)) rfl ?_
  refine WD.q (Y.nilCheck (.pl rfl)) rfl ?_
  refine WD.q (Y.fieldAddr0 (off := 14) (ft := 96) Try.underlying154 rfl cells96 (.pl rfl)) rfl ?_
  refine WD.q (Y.loadB (v := .int .u16 need7) Try.underlying96 rfl (.pl rfl) (i := 0) rfl (rfl)) rfl ?_
  refine WD.q (Y.eql (.pl rfl) (.pl rfl)) rfl ?_
  refine WD.next hR3 (.cons (i := 0) rfl (.cons (i := 15) rfl (.nil))) ?_
  refine W.cond (.pl rfl) (fun hC4 => ?_) (fun hC4 => ?_)
  · replace hF := cpos hC4 hF
    -- region 2: causal.go:86
    refine W.seqR fun Q5 hQ5 => ?_
    refine WL.q (Y.assign (.pl rfl)) rfl ?_
    refine WL.next hQ5 (.cons (i := 2) rfl (.nil)) ?_
    obtain rfl := Option.some.inj hF
    refine W.retV (fn := Try.f98) (vs := [.bool true]) Try.results98 ⟨.tmp rfl, trivial⟩ (fun _ _ h => h) (fun w hw => ?_)
    exact hR _ _ ⟨(), trivial, rfl, (hw.pickK 1 [0] rfl)⟩
  · replace hF := cneg hC4 hF
    refine W.skip ?_
    refine W.go hK2 (.cons (i := 0) rfl (.nil)) ?_
    obtain ⟨o6, hF6, hF⟩ := bnd hF
    refine W.join2 (Em := fun (placed10 : Int) (values11 : (List Int)) => []) (M := fun placed10 values11 => ([cBx b1 154 (Value.slice A3 (calls2).length c4 :: ((encRel r6) ++ (Value.int .u16 need7 :: (Value.int .u16 placed10 :: (((encA 4 (eI .i64) 0) values11) ++ [])))))] ++ T)) (I := fun placed10 values11 => (.inl (placed10, values11)) = o6) (.nil) (fun K7 hK7 => ?_) ?_
    · -- up to
      -- region 3: causal.go:88
      refine W.seqR fun Q8 hQ8 => ?_
      refine WL.q (Y.move (.pl rfl)) rfl ?_
      refine WL.q (Y.nilCheck (.pl rfl)) rfl ?_
      refine WL.q (Y.fieldAddr0 (off := 0) (ft := 51) Try.underlying154 rfl cells51 (.pl rfl)) rfl ?_
      refine WL.q (Y.loadB (v := .slice A3 (calls2).length c4) Try.underlying51 rfl (.pl rfl) (i := 0) rfl (rfl)) rfl ?_
      refine WL.q (Y.len Try.underlying51 (.pl rfl)) rfl ?_
      refine WL.q (Y.move (.pl rfl)) rfl ?_
      refine WL.next hQ8 (.cons (i := 0) rfl (.cons (i := 19) rfl (.cons (i := 20) rfl (.cons (i := 21) rfl (.nil))))) ?_
      refine W.block ?_
      refine W.loop3 (Em := fun (placed12 : Int) (values13 : (List Int)) (v14 : Int) => [(21, .int .i64 v14)]) (M := fun placed12 values13 v14 => ([cBx b1 154 (Value.slice A3 (calls2).length c4 :: ((encRel r6) ++ (Value.int .u16 need7 :: (Value.int .u16 placed12 :: (((encA 4 (eI .i64) 0) values13) ++ [])))))] ++ T)) (I := fun placed12 values13 v14 k9 => iter (causal_viewer_find_L7 N self calls2 need7 r6) k9 (placed12, values13, v14) = some o6) placed8 values9 0 N (hF6) (.cons rfl (.nil)) (.cons (i := 0) rfl (.cons (i := 19) rfl (.cons (i := 20) rfl (.nil)))) (fun w hw => hw.pickK 1 [0] rfl) (fun placed12 values13 v14 k9 hI K10 hK10 => ?_)
      obtain ⟨k9, t9, rfl, hF9, hN9⟩ := iter_step hI
      -- region 4: causal.go:88
      refine W.seqR fun Q11 hQ11 => ?_
      refine WL.q (Y.lss (.pl rfl) (.pl rfl)) rfl ?_
      refine WL.next hQ11 (.cons (i := 0) rfl (.cons (i := 19) rfl (.cons (i := 20) rfl (.cons (i := 21) rfl (.cons (i := 22) rfl (.nil)))))) ?_
      refine W.seq fun K12 hK12 => ?_
      refine W.cond (.pl rfl) (fun hC13 => ?_) (fun hC13 => ?_)
      · replace hF9 := cpos hC13 hF9
        refine W.skip ?_
        refine W.go hK12 (.cons (i := 0) rfl (.cons (i := 19) rfl (.cons (i := 20) rfl (.cons (i := 21) rfl (.nil))))) ?_
        refine W.seq fun K14 hK14 => ?_
        refine W.block ?_
        -- region 5: causal.go:88
        refine W.seqR fun Q15 hQ15 => ?_
        refine WL.q (Y.move (.pl rfl)) rfl ?_
        obtain ⟨x15, hx15, hF9⟩ := bnd hF9
        refine WL.q (Y.slEl Try.underlying51 cells55 hs5 (.pl rfl) (.pl rfl) (ix_lt (hx15))) rfl ?_
        refine WL.q (Y.loadSA (enc := encCall) (ds := (encCall x15)) (j := 0) Try.underlying55 rfl cells55 hs5 (.pl rfl) (hx15) rfl rfl subW) rfl ?_
        refine WL.step (WO.alloc (cs := (encCall (Call.mk 0 0 0 0 0 0 0)).toArray) zero55 rfl rfl fun b16 => ?_)
        refine WL.q (Y.assign (.pl rfl)) rfl ?_
        refine WL.step (WO.storeBA (ds := (encCall x15)) (cs' := (encCall x15)) cells55 (.pl rfl) (.pl rfl) rfl (oneCall _) (i := 0) rfl (lel (o := 0) (l := 7) (m := 7) (by decide) rfl rfl) (putW rfl) ?_)
        refine WL.next hQ15 (.cons (i := 0) rfl (.cons (i := 3) rfl (.cons (i := 4) rfl (.cons (i := 19) rfl (.cons (i := 20) rfl (.cons (i := 21) rfl (.nil))))))) ?_
        -- region 6: causal.go:89
        refine W.seqR fun Q16 hQ16 => ?_
        refine WL.q (Y.move (.pl rfl)) rfl ?_
        refine WL.q (Y.conv Try.underlying3 Try.underlying113 (.pl rfl)) rfl ?_
        refine WL.q (Y.shl (.pl rfl) (.pl rfl) (wrapU_nn rfl _)) rfl ?_
        refine WL.q (Y.assign (.pl rfl)) rfl ?_
        refine WL.next hQ16 (.cons (i := 0) rfl (.cons (i := 3) rfl (.cons (i := 4) rfl (.cons (i := 5) rfl (.cons (i := 19) rfl (.cons (i := 20) rfl (.cons (i := 21) rfl (.nil)))))))) ?_
        refine W.seq fun K17 hK17 => ?_
        -- region 7: causal.go:90
        refine W.seqD (by kernel_rfl) (by kernel_rfl) fun R18 hR18 => ?_
        refine WD.q (Y.move (.pl rfl)) rfl ?_
        refine WD.q (Y.nilCheck (.pl rfl)) rfl ?_
        refine WD.q (Y.fieldAddr0 (off := 14) (ft := 96) Try.underlying154 rfl cells96 (.pl rfl)) rfl ?_
        refine WD.q (Y.loadB (v := .int .u16 need7) Try.underlying96 rfl (.pl rfl) (i := 1) rfl (rfl)) rfl ?_
        refine WD.q (Y.move (.pl rfl)) rfl ?_
        refine WD.q (Y.band (.pl rfl) (.pl rfl)) rfl ?_
        refine WD.q (Y.eql (.pl rfl) (.pl rfl)) rfl ?_
        refine WD.q (Y.move (.pl rfl)) rfl ?_
        refine WD.g (.pl rfl rfl rfl) (fun hg => Y.move (.pl rfl)) rfl ?_
        refine WD.g (.pl rfl rfl rfl) (fun hg => Y.nilCheck (.gd (hg) rfl)) rfl ?_
        refine WD.g (.pl rfl rfl rfl) (fun hg => Y.fieldAddr0 (off := 15) (ft := 96) Try.underlying154 rfl cells96 (.gd (hg) rfl)) rfl ?_
        refine WD.g (.pl rfl rfl rfl) (fun hg => Y.loadB (v := .int .u16 placed12) Try.underlying96 rfl (.gd (hg) rfl) (i := 1) rfl (rfl)) rfl ?_
        refine WD.g (.pl rfl rfl rfl) (fun hg => Y.move (.pl rfl)) rfl ?_
        refine WD.g (.pl rfl rfl rfl) (fun hg => Y.band (.gd (hg) rfl) (.gd (hg) rfl)) rfl ?_
        refine WD.g (.pl rfl rfl rfl) (fun hg => Y.neq (.gd (hg) rfl) (.pl rfl)) rfl ?_
        refine WD.q (Y.or (.pl rfl) (fun h2 => .gd (eqf h2) rfl)) rfl ?_
        refine WD.q (Y.move (.pl rfl)) rfl ?_
        refine WD.g (.pl rfl rfl rfl) (fun hg => Y.move (.pl rfl)) rfl ?_
        refine WD.g (.pl rfl rfl rfl) (fun hg => Y.move (.pl rfl)) rfl ?_
        refine WD.g (.pl rfl rfl rfl) (fun hg => Y.nilCheck (.gd (hg) rfl)) rfl ?_
        refine WD.g (.pl rfl rfl rfl) (fun hg => Y.fieldAddr0 (off := 1) (ft := 99) Try.underlying154 rfl cells99 (.gd (hg) rfl)) rfl ?_
        refine WD.g (.pl rfl rfl rfl) (fun hg => Y.fieldAddr (off := 1) (ft := 97) Try.underlying99 rfl cells97 (.gd (hg) rfl)) rfl ?_
        obtain ⟨x17, hx17, hF9⟩ := bnd hF9
        refine WD.g (.pl rfl rfl rfl) (fun hg => Y.arrZ Try.underlying97 cells96 (.gd (hg) rfl) (.gd (hg) rfl) (ax_lt (gpos hg hx17))) rfl ?_
        refine WD.g (.pl rfl rfl rfl) (fun hg => Y.loadB (v := .int .u16 x17) Try.underlying96 rfl (.gd (hg) rfl) (i := 1) rfl (cellsA (pre := (Value.slice A3 (calls2).length c4 :: (Value.int .i64 r6.n :: []))) (off := 2) (post := (Value.int .u16 need7 :: (Value.int .u16 placed12 :: (((encA 4 (eI .i64) 0) values13) ++ [])))) (a := r6.after) (enc := (eI .u16)) (d := 0) (n := 12) (sz := 1) (j := 0) (fun _ => rfl) rfl (ax_nat (gpos hg hx17)) (ax_get (gpos hg hx17)) rfl)) rfl ?_
        refine WD.g (.pl rfl rfl rfl) (fun hg => Y.move (.pl rfl)) rfl ?_
        refine WD.g (.pl rfl rfl rfl) (fun hg => Y.nilCheck (.gd (hg) rfl)) rfl ?_
        refine WD.g (.pl rfl rfl rfl) (fun hg => Y.fieldAddr0 (off := 15) (ft := 96) Try.underlying154 rfl cells96 (.gd (hg) rfl)) rfl ?_
        refine WD.g (.pl rfl rfl rfl) (fun hg => Y.loadB (v := .int .u16 placed12) Try.underlying96 rfl (.gd (hg) rfl) (i := 1) rfl (rfl)) rfl ?_
        refine WD.g (.pl rfl rfl rfl) (fun hg => Y.band (.gd (hg) rfl) (.gd (hg) rfl)) rfl ?_
        refine WD.g (.pl rfl rfl rfl) (fun hg => Y.neq (.gd (hg) rfl) (.pl rfl)) rfl ?_
        refine WD.q (Y.or (.pl rfl) (fun h2 => .gd (eqf h2) rfl)) rfl ?_
        refine WD.q (Y.move (.pl rfl)) rfl ?_
        refine WD.g (.pl rfl rfl rfl) (fun hg => Y.fieldAddr0 (off := 2) (ft := 3) Try.underlying55 rfl cells3 (.pl rfl)) rfl ?_
        refine WD.g (.pl rfl rfl rfl) (fun hg => Y.loadB (v := .int .i64 x15.kind) Try.underlying3 rfl (.gd (hg) rfl) (i := 0) rfl (rfl)) rfl ?_
        refine WD.g (.pl rfl rfl rfl) (fun hg => Y.eql (.gd (hg) rfl) (.pl rfl)) rfl ?_
        refine WD.g (.pl rfl rfl rfl) (fun hg => Y.move (.gd (hg) rfl)) rfl ?_
        refine WD.g (.gd rfl rfl rfl) (fun hg => Y.move (.pl rfl)) rfl ?_
        refine WD.g (.gd rfl rfl rfl) (fun hg => Y.fieldAddr0 (off := 1) (ft := 3) Try.underlying55 rfl cells3 (.pl rfl)) rfl ?_
        refine WD.g (.gd rfl rfl rfl) (fun hg => Y.loadB (v := .int .i64 x15.thing) Try.underlying3 rfl (.gd (hg) rfl) (i := 0) rfl (rfl)) rfl ?_
        refine WD.g (.gd rfl rfl rfl) (fun hg => Y.nilCheck (.gd (hg) rfl)) rfl ?_
        refine WD.g (.gd rfl rfl rfl) (fun hg => Y.fieldAddr0 (off := 16) (ft := 152) Try.underlying154 rfl cells152 (.gd (hg) rfl)) rfl ?_
        obtain ⟨x18, hx18, hF9⟩ := bnd hF9
        refine WD.g (.gd rfl rfl rfl) (fun hg => Y.arrZ Try.underlying152 cells3 (.gd (hg) rfl) (.gd (hg) rfl) (ax_lt (gpos hg hx18))) rfl ?_
        refine WD.g (.gd rfl rfl rfl) (fun hg => Y.loadB (v := .int .i64 x18) Try.underlying3 rfl (.gd (hg) rfl) (i := 1) rfl (cellsA (pre := (Value.slice A3 (calls2).length c4 :: ((encRel r6) ++ (Value.int .u16 need7 :: (Value.int .u16 placed12 :: []))))) (off := 16) (post := []) (a := values13) (enc := (eI .i64)) (d := 0) (n := 4) (sz := 1) (j := 0) (fun _ => rfl) rfl (ax_nat (gpos hg hx18)) (ax_get (gpos hg hx18)) rfl)) rfl ?_
        refine WD.g (.gd rfl rfl rfl) (fun hg => Y.fieldAddr0 (off := 4) (ft := 3) Try.underlying55 rfl cells3 (.pl rfl)) rfl ?_
        refine WD.g (.gd rfl rfl rfl) (fun hg => Y.loadB (v := .int .i64 x15.res) Try.underlying3 rfl (.gd (hg) rfl) (i := 0) rfl (rfl)) rfl ?_
        refine WD.g (.gd rfl rfl rfl) (fun hg => Y.neq (.gd (hg) rfl) (.gd (hg) rfl)) rfl ?_
        refine WD.g (.pl rfl rfl rfl) (fun hg => Y.and (.gd (hg) rfl) (fun h2 => .gd (band hg (eqt h2)) rfl)) rfl ?_
        refine WD.q (Y.or (.pl rfl) (fun h2 => .gd (eqf h2) rfl)) rfl ?_
        refine WD.next hR18 (.cons (i := 0) rfl (.cons (i := 4) rfl (.cons (i := 5) rfl (.cons (i := 19) rfl (.cons (i := 20) rfl (.cons (i := 21) rfl (.cons (i := 76) rfl (.nil)))))))) ?_
        refine W.cond (.pl rfl) (fun hC19 => ?_) (fun hC19 => ?_)
        · replace hF9 := cpos hC19 hF9
          refine W.exit ?_
          refine W.go hK14 (.cons (i := 0) rfl (.cons (i := 19) rfl (.cons (i := 20) rfl (.cons (i := 21) rfl (.nil))))) ?_
          -- region 16: causal.go:88
          refine W.reg ?_
          obtain ⟨hk19, hF9⟩ := ckh hF9
          refine WL.q (Y.add (.pl rfl) (.pl rfl) (ok64_lt (hk19))) rfl ?_
          refine WL.q (Y.move (.pl rfl)) rfl ?_
          refine WL.nil ?_
          obtain rfl := Option.some.inj hF9
          exact W.again3 hK10 placed12 values13 (v14 + 1) k9 hN9 (Nat.lt_succ_self _) (.cons rfl (.nil)) (.cons (i := 0) rfl (.cons (i := 19) rfl (.cons (i := 20) rfl (.nil)))) (fun w hw => hw.pickK 2 [1] rfl)
        · replace hF9 := cneg hC19 hF9
          refine W.skip ?_
          refine W.go hK17 (.cons (i := 0) rfl (.cons (i := 4) rfl (.cons (i := 5) rfl (.cons (i := 19) rfl (.cons (i := 20) rfl (.cons (i := 21) rfl (.nil))))))) ?_
          -- region 8: causal.go:93
          refine W.seqD (by kernel_rfl) (by kernel_rfl) fun R21 hR21 => ?_
          refine WD.q (Y.move (.pl rfl)) rfl ?_
          refine WD.q (Y.fieldAddr0 (off := 1) (ft := 3) Try.underlying55 rfl cells3 (.pl rfl)) rfl ?_
          refine WD.q (Y.loadB (v := .int .i64 x15.thing) Try.underlying3 rfl (.pl rfl) (i := 0) rfl (rfl)) rfl ?_
          refine WD.q (Y.nilCheck (.pl rfl)) rfl ?_
          refine WD.q (Y.fieldAddr0 (off := 16) (ft := 152) Try.underlying154 rfl cells152 (.pl rfl)) rfl ?_
          obtain ⟨x20, hx20, hF9⟩ := bnd hF9
          refine WD.q (Y.arrZ Try.underlying152 cells3 (.pl rfl) (.pl rfl) (ax_lt (hx20))) rfl ?_
          refine WD.q (Y.loadB (v := .int .i64 x20) Try.underlying3 rfl (.pl rfl) (i := 1) rfl (cellsA (pre := (Value.slice A3 (calls2).length c4 :: ((encRel r6) ++ (Value.int .u16 need7 :: (Value.int .u16 placed12 :: []))))) (off := 16) (post := []) (a := values13) (enc := (eI .i64)) (d := 0) (n := 4) (sz := 1) (j := 0) (fun _ => rfl) rfl (ax_nat (hx20)) (ax_get (hx20)) rfl)) rfl ?_
          refine WD.q (Y.assign (.pl rfl)) rfl ?_
          refine WD.next hR21 (.cons (i := 0) rfl (.cons (i := 4) rfl (.cons (i := 5) rfl (.cons (i := 6) rfl (.cons (i := 19) rfl (.cons (i := 20) rfl (.cons (i := 21) rfl (.nil)))))))) ?_
          obtain ⟨o22, hF22, hF9⟩ := bnd hF9
          refine W.join1 (Em := fun (values21 : (List Int)) => []) (M := fun values21 => ([cBx b1 154 (Value.slice A3 (calls2).length c4 :: ((encRel r6) ++ (Value.int .u16 need7 :: (Value.int .u16 placed12 :: (((encA 4 (eI .i64) 0) values21) ++ []))))), cBx b16 55 (encCall x15)] ++ T)) (I := fun values21 => values21 = o22) (.cons (i := 0) rfl (.cons (i := 4) rfl (.cons (i := 5) rfl (.cons (i := 6) rfl (.cons (i := 19) rfl (.cons (i := 20) rfl (.cons (i := 21) rfl (.nil)))))))) (fun K23 hK23 => ?_) ?_
          · -- up to
            -- region 9: causal.go:94
            refine W.seqR fun Q24 hQ24 => ?_
            refine WL.q (Y.fieldAddr0 (off := 2) (ft := 3) Try.underlying55 rfl cells3 (.pl rfl)) rfl ?_
            refine WL.q (Y.loadB (v := .int .i64 x15.kind) Try.underlying3 rfl (.pl rfl) (i := 0) rfl (rfl)) rfl ?_
            refine WL.q (Y.eql (.pl rfl) (.pl rfl)) rfl ?_
            refine WL.next hQ24 (.cons (i := 0) rfl (.cons (i := 4) rfl (.cons (i := 5) rfl (.cons (i := 6) rfl (.cons (i := 19) rfl (.cons (i := 20) rfl (.cons (i := 21) rfl (.cons (i := 86) rfl (.nil))))))))) ?_
            refine W.cond (.pl rfl) (fun hC25 => ?_) (fun hC25 => ?_)
            · replace hF22 := cpos hC25 hF22
              -- region 10: causal.go:95
              refine W.regT 8 (by kernel_rfl) (by kernel_rfl) ?_
              refine WS.q (Y.move (.pl rfl)) rfl ?_
              refine WS.q (Y.fieldAddr0 (off := 1) (ft := 3) Try.underlying55 rfl cells3 (.pl rfl)) rfl ?_
              refine WS.q (Y.loadB (v := .int .i64 x15.thing) Try.underlying3 rfl (.pl rfl) (i := 0) rfl (rfl)) rfl ?_
              refine WS.q (Y.fieldAddr0 (off := 3) (ft := 3) Try.underlying55 rfl cells3 (.pl rfl)) rfl ?_
              refine WS.q (Y.loadB (v := .int .i64 x15.arg) Try.underlying3 rfl (.pl rfl) (i := 0) rfl (rfl)) rfl ?_
              refine WS.q (Y.nilCheck (.pl rfl)) rfl ?_
              refine WS.q (Y.fieldAddr0 (off := 16) (ft := 152) Try.underlying154 rfl cells152 (.pl rfl)) rfl ?_
              obtain ⟨x22, hx22, hF22⟩ := bnd hF22
              refine WS.q (Y.arrZ Try.underlying152 cells3 (.pl rfl) (.pl rfl) (ax_lt (hx22))) rfl ?_
              refine WS.tail ?_
              refine WL.step (WO.storeB (cs' := (Value.slice A3 (calls2).length c4 :: ((encRel r6) ++ (Value.int .u16 need7 :: (Value.int .u16 placed12 :: (((encA 4 (eI .i64) 0) (setA 4 0 values13 x15.thing x15.arg)) ++ [])))))) cells3 (.pl rfl) (.pl rfl) rfl (i := 1) rfl (ltl (m := 20) (offlt (off := 16) (sz := 1) (j := 0) (ax_nat (hx22)) (by decide)) rfl) (cellsSet (pre := (Value.slice A3 (calls2).length c4 :: ((encRel r6) ++ (Value.int .u16 need7 :: (Value.int .u16 placed12 :: []))))) (off := 16) (post := []) (a := values13) (enc := (eI .i64)) (d := 0) (n := 4) (sz := 1) (j := 0) (x := x22) (x' := x15.arg) (fun _ => rfl) rfl (ax_lt (hx22)) (ax_get (hx22)) (by decide) rfl rfl) ?_)
              refine WL.nil ?_
              exact W.joinAt1 hK23 (setA 4 0 values13 x15.thing x15.arg) (Option.some.inj hF22) (.nil) (.cons (i := 0) rfl (.cons (i := 4) rfl (.cons (i := 5) rfl (.cons (i := 6) rfl (.cons (i := 19) rfl (.cons (i := 20) rfl (.cons (i := 21) rfl (.nil)))))))) (fun w hw => hw.pickK 2 [1, 0] rfl)
            · replace hF22 := cneg hC25 hF22
              refine W.skip ?_
              exact W.joinAt1 hK23 values13 (Option.some.inj hF22) (.nil) (.cons (i := 0) rfl (.cons (i := 4) rfl (.cons (i := 5) rfl (.cons (i := 6) rfl (.cons (i := 19) rfl (.cons (i := 20) rfl (.cons (i := 21) rfl (.nil)))))))) (fun w hw => hw.pickK 2 [1, 0] rfl)
          · -- behind
            rintro values21 rfl
            -- region 11: causal.go:97
            refine W.seqR fun Q27 hQ27 => ?_
            refine WL.q (Y.move (.pl rfl)) rfl ?_
            refine WL.q (Y.nilCheck (.pl rfl)) rfl ?_
            refine WL.q (Y.fieldAddr0 (off := 15) (ft := 96) Try.underlying154 rfl cells96 (.pl rfl)) rfl ?_
            refine WL.q (Y.loadB (v := .int .u16 placed12) Try.underlying96 rfl (.pl rfl) (i := 0) rfl (rfl)) rfl ?_
            refine WL.q (Y.move (.pl rfl)) rfl ?_
            refine WL.q (Y.bor (.pl rfl) (.pl rfl)) rfl ?_
            refine WL.q (Y.nilCheck (.pl rfl)) rfl ?_
            refine WL.q (Y.fieldAddr0 (off := 15) (ft := 96) Try.underlying154 rfl cells96 (.pl rfl)) rfl ?_
            refine WL.step (WO.storeB (cs' := (Value.slice A3 (calls2).length c4 :: ((encRel r6) ++ (Value.int .u16 need7 :: (Value.int .u16 (borI .u16 placed12 (shlI .u16 1 (IntKind.u64.wrap v14))) :: (((encA 4 (eI .i64) 0) values21) ++ [])))))) cells96 (.pl rfl) (.pl rfl) rfl (i := 0) rfl (ltl (m := 20) (by decide) rfl) (rfl) ?_)
            refine WL.next hQ27 (.cons (i := 0) rfl (.cons (i := 4) rfl (.cons (i := 5) rfl (.cons (i := 6) rfl (.cons (i := 19) rfl (.cons (i := 20) rfl (.cons (i := 21) rfl (.nil)))))))) ?_
            refine W.seq fun K28 hK28 => ?_
            -- region 12: causal.go:98
            refine W.seqR fun Q29 hQ29 => ?_
            refine WL.q (Y.move (.pl rfl)) rfl ?_
            obtain ⟨r23, hr23, hF9⟩ := bnd hF9
            refine WL.step (WO.call (γ := Unit) (fun g => .bool r23.2.2) (fun g => ([cBx b1 154 (Value.slice A3 (calls2).length c4 :: ((encRel r6) ++ (Value.int .u16 need7 :: (Value.int .u16 r23.1 :: (((encA 4 (eI .i64) 0) r23.2.1) ++ []))))), cBx b16 55 (encCall x15)] ++ T)) (fun _ => True) isGo98 (.cons (.pl rfl) (.nil)) rfl (fun w hw => ih (T := ([cBx b16 55 (encCall x15)] ++ T)) (b1 := b1) (A3 := A3) (c4 := c4) (hr23) (hw.pickK 2 [0, 1] rfl) hs5) ?_)
            rintro _ -
            refine WL.next hQ29 (.cons (i := 0) rfl (.cons (i := 4) rfl (.cons (i := 5) rfl (.cons (i := 6) rfl (.cons (i := 19) rfl (.cons (i := 20) rfl (.cons (i := 21) rfl (.cons (i := 104) rfl (.nil))))))))) ?_
            refine W.cond (.pl rfl) (fun hC30 => ?_) (fun hC30 => ?_)
            · replace hF9 := cpos hC30 hF9
              -- region 13: causal.go:99
              refine W.seqR fun Q31 hQ31 => ?_
              refine WL.q (Y.assign (.pl rfl)) rfl ?_
              refine WL.next hQ31 (.cons (i := 2) rfl (.nil)) ?_
              obtain rfl := Option.some.inj hF9
              obtain rfl := einr hN9
              obtain rfl := Option.some.inj hF
              refine W.retV (fn := Try.f98) (vs := [.bool true]) Try.results98 ⟨.tmp rfl, trivial⟩ (fun _ _ h => h) (fun w hw => ?_)
              exact hR _ _ ⟨(), trivial, rfl, (hw.pickK 2 [0] rfl)⟩
            · replace hF9 := cneg hC30 hF9
              refine W.skip ?_
              refine W.go hK28 (.cons (i := 0) rfl (.cons (i := 4) rfl (.cons (i := 5) rfl (.cons (i := 6) rfl (.cons (i := 19) rfl (.cons (i := 20) rfl (.cons (i := 21) rfl (.nil)))))))) ?_
              -- region 14: causal.go:101
              refine W.seqR fun Q32 hQ32 => ?_
              refine WL.q (Y.move (.pl rfl)) rfl ?_
              refine WL.q (Y.nilCheck (.pl rfl)) rfl ?_
              refine WL.q (Y.fieldAddr0 (off := 15) (ft := 96) Try.underlying154 rfl cells96 (.pl rfl)) rfl ?_
              refine WL.q (Y.loadB (v := .int .u16 r23.1) Try.underlying96 rfl (.pl rfl) (i := 0) rfl (rfl)) rfl ?_
              refine WL.q (Y.move (.pl rfl)) rfl ?_
              refine WL.q (Y.bclr (.pl rfl) (.pl rfl)) rfl ?_
              refine WL.q (Y.nilCheck (.pl rfl)) rfl ?_
              refine WL.q (Y.fieldAddr0 (off := 15) (ft := 96) Try.underlying154 rfl cells96 (.pl rfl)) rfl ?_
              refine WL.step (WO.storeB (cs' := (Value.slice A3 (calls2).length c4 :: ((encRel r6) ++ (Value.int .u16 need7 :: (Value.int .u16 (bclrI .u16 r23.1 (shlI .u16 1 (IntKind.u64.wrap v14))) :: (((encA 4 (eI .i64) 0) r23.2.1) ++ [])))))) cells96 (.pl rfl) (.pl rfl) rfl (i := 0) rfl (ltl (m := 20) (by decide) rfl) (rfl) ?_)
              refine WL.next hQ32 (.cons (i := 0) rfl (.cons (i := 4) rfl (.cons (i := 6) rfl (.cons (i := 19) rfl (.cons (i := 20) rfl (.cons (i := 21) rfl (.nil))))))) ?_
              -- region 15: causal.go:102
              refine W.regT 7 (by kernel_rfl) (by kernel_rfl) ?_
              refine WS.q (Y.move (.pl rfl)) rfl ?_
              refine WS.q (Y.fieldAddr0 (off := 1) (ft := 3) Try.underlying55 rfl cells3 (.pl rfl)) rfl ?_
              refine WS.q (Y.loadB (v := .int .i64 x15.thing) Try.underlying3 rfl (.pl rfl) (i := 1) rfl (rfl)) rfl ?_
              refine WS.q (Y.move (.pl rfl)) rfl ?_
              refine WS.q (Y.nilCheck (.pl rfl)) rfl ?_
              refine WS.q (Y.fieldAddr0 (off := 16) (ft := 152) Try.underlying154 rfl cells152 (.pl rfl)) rfl ?_
              obtain ⟨x24, hx24, hF9⟩ := bnd hF9
              refine WS.q (Y.arrZ Try.underlying152 cells3 (.pl rfl) (.pl rfl) (ax_lt (hx24))) rfl ?_
              refine WS.tail ?_
              refine WL.step (WO.storeB (cs' := (Value.slice A3 (calls2).length c4 :: ((encRel r6) ++ (Value.int .u16 need7 :: (Value.int .u16 (bclrI .u16 r23.1 (shlI .u16 1 (IntKind.u64.wrap v14))) :: (((encA 4 (eI .i64) 0) (setA 4 0 r23.2.1 x15.thing x20)) ++ [])))))) cells3 (.pl rfl) (.pl rfl) rfl (i := 0) rfl (ltl (m := 20) (offlt (off := 16) (sz := 1) (j := 0) (ax_nat (hx24)) (by decide)) rfl) (cellsSet (pre := (Value.slice A3 (calls2).length c4 :: ((encRel r6) ++ (Value.int .u16 need7 :: (Value.int .u16 (bclrI .u16 r23.1 (shlI .u16 1 (IntKind.u64.wrap v14))) :: []))))) (off := 16) (post := []) (a := r23.2.1) (enc := (eI .i64)) (d := 0) (n := 4) (sz := 1) (j := 0) (x := x24) (x' := x20) (fun _ => rfl) rfl (ax_lt (hx24)) (ax_get (hx24)) (by decide) rfl rfl) ?_)
              refine WL.nil ?_
              refine W.go hK14 (.cons (i := 0) rfl (.cons (i := 19) rfl (.cons (i := 20) rfl (.cons (i := 21) rfl (.nil))))) ?_
              -- region 16: causal.go:88
              refine W.reg ?_
              obtain ⟨hk25, hF9⟩ := ckh hF9
              refine WL.q (Y.add (.pl rfl) (.pl rfl) (ok64_lt (hk25))) rfl ?_
              refine WL.q (Y.move (.pl rfl)) rfl ?_
              refine WL.nil ?_
              obtain rfl := Option.some.inj hF9
              exact W.again3 hK10 (bclrI .u16 r23.1 (shlI .u16 1 (IntKind.u64.wrap v14))) (setA 4 0 r23.2.1 x15.thing x20) (v14 + 1) k9 hN9 (Nat.lt_succ_self _) (.cons rfl (.nil)) (.cons (i := 0) rfl (.cons (i := 19) rfl (.cons (i := 20) rfl (.nil)))) (fun w hw => hw.pickK 2 [0] rfl)
      · replace hF9 := cneg hC13 hF9
        refine W.exit ?_
        obtain rfl := Option.some.inj hF9
        exact W.joinAt2 hK7 placed12 values13 (einr hN9) (.nil) (.nil) (fun w hw => hw.pickK 1 [0] rfl)
    · -- behind
      rintro placed10 values11 rfl
      -- region 17: causal.go:104
      refine W.seqR fun Q35 hQ35 => ?_
      refine WL.q (Y.assign (.pl rfl)) rfl ?_
      refine WL.next hQ35 (.cons (i := 2) rfl (.nil)) ?_
      obtain rfl := Option.some.inj hF
      refine W.retV (fn := Try.f98) (vs := [.bool false]) Try.results98 ⟨.tmp rfl, trivial⟩ (fun _ _ h => h) (fun w hw => ?_)
      exact hR _ _ ⟨(), trivial, rfl, (hw.pickK 1 [0] rfl)⟩
theorem causal_viewer_find_ok {N : Nat} {M : Nat} : ∀ {calls2 : (List Call)} {r6 : Rel} {need7 : Int} {placed8 : Int} {values9 : (List Int)} {b1 : Nat} {A3 : Option Addr} {c4 : Nat} {res : (Int × (List Int) × Bool)} (hF : causal_viewer_find N M calls2 r6 need7 placed8 values9 = some res) {w0 w : World} {T : List Chunk} (hw : St w0.heap.size w0 ([cBx b1 154 (Value.slice A3 (calls2).length c4 :: ((encRel r6) ++ (Value.int .u16 need7 :: (Value.int .u16 placed8 :: (((encA 4 (eI .i64) 0) values9) ++ [])))))] ++ T) w) (hs5 : SlIn encCall 7 w0 (.slice A3 (calls2).length c4) calls2),
    Calls Try.prog 98 (List.toArray [.pointer (some ⟨b1, 0, none⟩)]) w (fun e w' => ∃ g : Unit, (True) ∧ e = .returned (.bool res.2.2) ∧ St w0.heap.size w0 ([cBx b1 154 (Value.slice A3 (calls2).length c4 :: ((encRel r6) ++ (Value.int .u16 need7 :: (Value.int .u16 res.1 :: (((encA 4 (eI .i64) 0) res.2.1) ++ [])))))] ++ T) w') := by
  induction M with
  | zero => exact fun hF => nomatch (show (none : Option _) = some _ from hF)
  | succ M ih => exact fun hF => causal_viewer_find_ok_B ih hF

def causal_views_L51 (N : Nat) (calls1 : (List Call)) (v8 : Int) : (Int × Int) → Option ((Int × Int) ⊕ Int)
  | (need11, v12) =>
    cond (decide (v12 < ((calls1).length : Int)))
      (bd (ix calls1 v12) fun (x13 : Call) =>
      cond ((decide (x13.kind = 1)) || (decide (x13.who = v8)))
        (ck (ok64 (v12 + 1)) <|
        some (.inl ((borI .u16 need11 (shlI .u16 1 (IntKind.u64.wrap v12))), (v12 + 1))))
        (ck (ok64 (v12 + 1)) <|
        some (.inl (need11, (v12 + 1)))))
      (some (.inr need11))

def causal_views_L47 (N : Nat) (calls1 : (List Call)) (r6 : Rel) : Int → Option (Int ⊕ (Unit ⊕ Bool))
  | v8 =>
    cond (decide (v8 < 8))
      (bd (α := (Unit ⊕ Bool)) (bd (α := Int) (iter (causal_views_L51 N calls1 v8) N (0, 0)) <|
        fun (need10 : Int) => 
          bd (causal_viewer_find N N calls1 r6 need10 0 []) fun (r17 : (Int × (List Int) × Bool)) =>
          cond (!r17.2.2)
            (some (.inr false))
            (some (.inl ()))) <|
      Sum.elim (fun _ => 
        ck (ok64 (v8 + 1)) <|
        some (.inl (v8 + 1))) (fun p => some (.inr (.inr p))))
      (some (.inr (.inl ())))

def causal_views (N : Nat) (calls1 : (List Call)) (r6 : Rel) : Option Bool :=
  bd (α := (Unit ⊕ Bool)) (iter (causal_views_L47 N calls1 r6) N 0) <|
  Sum.elim (fun _ => 
    some true) (fun p => some p)

theorem causal_views_ok {N : Nat} {calls1 : (List Call)} {r6 : Rel} {res : Bool} (hF : causal_views N calls1 r6 = some res) (w : World) {v5 : Value} (hs4 : SlIn encCall 7 w v5 calls1) :
    Pure Try.prog 86 [v5, .agg (encRel r6).toArray] w (.bool res) := by
  obtain ⟨A2, c3, rfl, hcc3, hs4⟩ := hs4.form
  refine W.enter (n := 47) Try.func86 rfl rfl Sub.refl (by simp) (St.start w) fun R hR => ?_
  unfold causal_views at hF
  -- region 0: causal.go:108
  refine W.seqR fun Q1 hQ1 => ?_
  refine WL.step (WO.boxA (.pl rfl) rfl fun b7 => ?_)
  refine WL.q (Y.assign (.pl rfl)) rfl ?_
  refine WL.next hQ1 (.cons (i := 0) rfl (.cons (i := 3) rfl (.nil))) ?_
  obtain ⟨o2, hF2, hF⟩ := bnd hF
  refine W.join0 (Em := []) (M := []) (I := (.inl ()) = o2) (.nil) (fun K3 hK3 => ?_) ?_
  · -- up to
    -- region 1: causal.go:109
    refine W.seqR fun Q4 hQ4 => ?_
    refine WL.q (Y.move (.pl rfl)) rfl ?_
    refine WL.next hQ4 (.cons (i := 0) rfl (.cons (i := 3) rfl (.cons (i := 9) rfl (.nil)))) ?_
    refine W.block ?_
    refine W.loop1 (Em := fun (v8 : Int) => [(9, .int .i64 v8)]) (M := fun v8 => [cBx b7 99 (encRel r6)]) (I := fun v8 k5 => iter (causal_views_L47 N calls1 r6) k5 v8 = some o2) 0 N (hF2) (.cons rfl (.nil)) (.cons (i := 0) rfl (.cons (i := 3) rfl (.nil))) (fun w hw => hw.pick [0] rfl) (fun v8 k5 hI K6 hK6 => ?_)
    obtain ⟨k5, t5, rfl, hF5, hN5⟩ := iter_step hI
    -- region 2: causal.go:109
    refine W.seqR fun Q7 hQ7 => ?_
    refine WL.q (Y.lss (.pl rfl) (.pl rfl)) rfl ?_
    refine WL.next hQ7 (.cons (i := 0) rfl (.cons (i := 3) rfl (.cons (i := 9) rfl (.cons (i := 10) rfl (.nil))))) ?_
    refine W.seq fun K8 hK8 => ?_
    refine W.cond (.pl rfl) (fun hC9 => ?_) (fun hC9 => ?_)
    · replace hF5 := cpos hC9 hF5
      refine W.skip ?_
      refine W.go hK8 (.cons (i := 0) rfl (.cons (i := 3) rfl (.cons (i := 9) rfl (.nil)))) ?_
      obtain ⟨o10, hF10, hF5⟩ := bnd hF5
      refine W.join0 (Em := []) (M := [cBx b7 99 (encRel r6)]) (I := (.inl ()) = o10) (.cons (i := 0) rfl (.cons (i := 3) rfl (.cons (i := 9) rfl (.nil)))) (fun K11 hK11 => ?_) ?_
      · -- up to
        refine W.block ?_
        -- region 3: causal.go:109
        refine W.seqR fun Q12 hQ12 => ?_
        refine WL.q (Y.move (.pl rfl)) rfl ?_
        refine WL.q (Y.assign (.pl rfl)) rfl ?_
        refine WL.next hQ12 (.cons (i := 0) rfl (.cons (i := 3) rfl (.cons (i := 5) rfl (.cons (i := 9) rfl (.nil))))) ?_
        -- region 4: causal.go:110
        refine W.seqR fun Q13 hQ13 => ?_
        refine WL.q (Y.move (.pl rfl)) rfl ?_
        refine WL.q (Y.loadBA (ds := (encRel r6)) Try.underlying99 rfl cells99 (.pl rfl) (i := 0) rfl rfl subW) rfl ?_
        refine WL.q (Y.buildF (cs := (Value.slice A2 (calls1).length c3 :: ((encRel r6) ++ (Value.int .u16 0 :: (Value.int .u16 0 :: (((encA 4 (eI .i64) 0) []) ++ []))))).toArray) shape154 (.cons (.pl rfl) (.cons (.pl rfl) (.nil))) (by kernel_rfl)) rfl ?_
        refine WL.step (WO.boxA (.pl rfl) rfl fun b9 => ?_)
        refine WL.q (Y.assign (.pl rfl)) rfl ?_
        refine WL.next hQ13 (.cons (i := 0) rfl (.cons (i := 3) rfl (.cons (i := 5) rfl (.cons (i := 6) rfl (.cons (i := 9) rfl (.nil)))))) ?_
        obtain ⟨o14, hF14, hF10⟩ := bnd hF10
        refine W.join1 (Em := fun (need10 : Int) => []) (M := fun need10 => [cBx b7 99 (encRel r6), cBx b9 154 (Value.slice A2 (calls1).length c3 :: ((encRel r6) ++ (Value.int .u16 need10 :: (Value.int .u16 0 :: (((encA 4 (eI .i64) 0) []) ++ [])))))]) (I := fun need10 => need10 = o14) (.cons (i := 0) rfl (.cons (i := 3) rfl (.cons (i := 6) rfl (.cons (i := 9) rfl (.nil))))) (fun K15 hK15 => ?_) ?_
        · -- up to
          -- region 5: causal.go:111
          refine W.seqR fun Q16 hQ16 => ?_
          refine WL.q (Y.move (.pl rfl)) rfl ?_
          refine WL.q (Y.len Try.underlying51 (.pl rfl)) rfl ?_
          refine WL.q (Y.move (.pl rfl)) rfl ?_
          refine WL.next hQ16 (.cons (i := 0) rfl (.cons (i := 3) rfl (.cons (i := 5) rfl (.cons (i := 6) rfl (.cons (i := 9) rfl (.cons (i := 16) rfl (.cons (i := 17) rfl (.cons (i := 18) rfl (.nil))))))))) ?_
          refine W.block ?_
          refine W.loop2 (Em := fun (need11 : Int) (v12 : Int) => [(18, .int .i64 v12)]) (M := fun need11 v12 => [cBx b7 99 (encRel r6), cBx b9 154 (Value.slice A2 (calls1).length c3 :: ((encRel r6) ++ (Value.int .u16 need11 :: (Value.int .u16 0 :: (((encA 4 (eI .i64) 0) []) ++ [])))))]) (I := fun need11 v12 k17 => iter (causal_views_L51 N calls1 v8) k17 (need11, v12) = some o14) 0 0 N (hF14) (.cons rfl (.nil)) (.cons (i := 0) rfl (.cons (i := 3) rfl (.cons (i := 5) rfl (.cons (i := 6) rfl (.cons (i := 9) rfl (.cons (i := 16) rfl (.cons (i := 17) rfl (.nil)))))))) (fun w hw => hw.pick [1, 0] rfl) (fun need11 v12 k17 hI K18 hK18 => ?_)
          obtain ⟨k17, t17, rfl, hF17, hN17⟩ := iter_step hI
          -- region 6: causal.go:111
          refine W.seqR fun Q19 hQ19 => ?_
          refine WL.q (Y.lss (.pl rfl) (.pl rfl)) rfl ?_
          refine WL.next hQ19 (.cons (i := 0) rfl (.cons (i := 3) rfl (.cons (i := 5) rfl (.cons (i := 6) rfl (.cons (i := 9) rfl (.cons (i := 16) rfl (.cons (i := 17) rfl (.cons (i := 18) rfl (.cons (i := 19) rfl (.nil)))))))))) ?_
          refine W.seq fun K20 hK20 => ?_
          refine W.cond (.pl rfl) (fun hC21 => ?_) (fun hC21 => ?_)
          · replace hF17 := cpos hC21 hF17
            refine W.skip ?_
            refine W.go hK20 (.cons (i := 0) rfl (.cons (i := 3) rfl (.cons (i := 5) rfl (.cons (i := 6) rfl (.cons (i := 9) rfl (.cons (i := 16) rfl (.cons (i := 17) rfl (.cons (i := 18) rfl (.nil))))))))) ?_
            refine W.seq fun K22 hK22 => ?_
            refine W.block ?_
            -- region 7: causal.go:111
            refine W.seqR fun Q23 hQ23 => ?_
            refine WL.q (Y.move (.pl rfl)) rfl ?_
            obtain ⟨x13, hx13, hF17⟩ := bnd hF17
            refine WL.q (Y.slEl Try.underlying51 cells55 hs4 (.pl rfl) (.pl rfl) (ix_lt (hx13))) rfl ?_
            refine WL.q (Y.loadSA (enc := encCall) (ds := (encCall x13)) (j := 0) Try.underlying55 rfl cells55 hs4 (.pl rfl) (hx13) rfl rfl subW) rfl ?_
            refine WL.step (WO.alloc (cs := (encCall (Call.mk 0 0 0 0 0 0 0)).toArray) zero55 rfl rfl fun b14 => ?_)
            refine WL.q (Y.assign (.pl rfl)) rfl ?_
            refine WL.step (WO.storeBA (ds := (encCall x13)) (cs' := (encCall x13)) cells55 (.pl rfl) (.pl rfl) rfl (oneCall _) (i := 0) rfl (lel (o := 0) (l := 7) (m := 7) (by decide) rfl rfl) (putW rfl) ?_)
            refine WL.next hQ23 (.cons (i := 0) rfl (.cons (i := 3) rfl (.cons (i := 5) rfl (.cons (i := 6) rfl (.cons (i := 7) rfl (.cons (i := 8) rfl (.cons (i := 9) rfl (.cons (i := 16) rfl (.cons (i := 17) rfl (.cons (i := 18) rfl (.nil))))))))))) ?_
            -- region 8: causal.go:112
            refine W.seqR fun Q24 hQ24 => ?_
            refine WL.q (Y.fieldAddr0 (off := 2) (ft := 3) Try.underlying55 rfl cells3 (.pl rfl)) rfl ?_
            refine WL.q (Y.loadB (v := .int .i64 x13.kind) Try.underlying3 rfl (.pl rfl) (i := 0) rfl (rfl)) rfl ?_
            refine WL.q (Y.eql (.pl rfl) (.pl rfl)) rfl ?_
            refine WL.q (Y.move (.pl rfl)) rfl ?_
            refine WL.g (.pl rfl rfl rfl) (fun hg => Y.fieldAddr0 (off := 0) (ft := 3) Try.underlying55 rfl cells3 (.pl rfl)) rfl ?_
            refine WL.g (.pl rfl rfl rfl) (fun hg => Y.loadB (v := .int .i64 x13.who) Try.underlying3 rfl (.gd (hg) rfl) (i := 0) rfl (rfl)) rfl ?_
            refine WL.g (.pl rfl rfl rfl) (fun hg => Y.move (.pl rfl)) rfl ?_
            refine WL.g (.pl rfl rfl rfl) (fun hg => Y.eql (.gd (hg) rfl) (.gd (hg) rfl)) rfl ?_
            refine WL.q (Y.or (.pl rfl) (fun h2 => .gd (eqf h2) rfl)) rfl ?_
            refine WL.next hQ24 (.cons (i := 0) rfl (.cons (i := 3) rfl (.cons (i := 5) rfl (.cons (i := 6) rfl (.cons (i := 7) rfl (.cons (i := 9) rfl (.cons (i := 16) rfl (.cons (i := 17) rfl (.cons (i := 18) rfl (.cons (i := 31) rfl (.nil))))))))))) ?_
            refine W.cond (.pl rfl) (fun hC25 => ?_) (fun hC25 => ?_)
            · replace hF17 := cpos hC25 hF17
              -- region 9: causal.go:113
              refine W.reg ?_
              refine WL.q (Y.move (.pl rfl)) rfl ?_
              refine WL.q (Y.nilCheck (.pl rfl)) rfl ?_
              refine WL.q (Y.fieldAddr0 (off := 14) (ft := 96) Try.underlying154 rfl cells96 (.pl rfl)) rfl ?_
              refine WL.q (Y.loadB (v := .int .u16 need11) Try.underlying96 rfl (.pl rfl) (i := 2) rfl (rfl)) rfl ?_
              refine WL.q (Y.move (.pl rfl)) rfl ?_
              refine WL.q (Y.conv Try.underlying3 Try.underlying113 (.pl rfl)) rfl ?_
              refine WL.q (Y.shl (.pl rfl) (.pl rfl) (wrapU_nn rfl _)) rfl ?_
              refine WL.q (Y.bor (.pl rfl) (.pl rfl)) rfl ?_
              refine WL.q (Y.nilCheck (.pl rfl)) rfl ?_
              refine WL.q (Y.fieldAddr0 (off := 14) (ft := 96) Try.underlying154 rfl cells96 (.pl rfl)) rfl ?_
              refine WL.step (WO.storeB (cs' := (Value.slice A2 (calls1).length c3 :: ((encRel r6) ++ (Value.int .u16 (borI .u16 need11 (shlI .u16 1 (IntKind.u64.wrap v12))) :: (Value.int .u16 0 :: (((encA 4 (eI .i64) 0) []) ++ [])))))) cells96 (.pl rfl) (.pl rfl) rfl (i := 2) rfl (ltl (m := 20) (by decide) rfl) (rfl) ?_)
              refine WL.nil ?_
              refine W.go hK22 (.cons (i := 0) rfl (.cons (i := 3) rfl (.cons (i := 5) rfl (.cons (i := 6) rfl (.cons (i := 9) rfl (.cons (i := 16) rfl (.cons (i := 17) rfl (.cons (i := 18) rfl (.nil))))))))) ?_
              -- region 10: causal.go:111
              refine W.reg ?_
              obtain ⟨hk15, hF17⟩ := ckh hF17
              refine WL.q (Y.add (.pl rfl) (.pl rfl) (ok64_lt (hk15))) rfl ?_
              refine WL.q (Y.move (.pl rfl)) rfl ?_
              refine WL.nil ?_
              obtain rfl := Option.some.inj hF17
              exact W.again2 hK18 (borI .u16 need11 (shlI .u16 1 (IntKind.u64.wrap v12))) (v12 + 1) k17 hN17 (Nat.lt_succ_self _) (.cons rfl (.nil)) (.cons (i := 0) rfl (.cons (i := 3) rfl (.cons (i := 5) rfl (.cons (i := 6) rfl (.cons (i := 9) rfl (.cons (i := 16) rfl (.cons (i := 17) rfl (.nil)))))))) (fun w hw => hw.pick [1, 2] rfl)
            · replace hF17 := cneg hC25 hF17
              refine W.skip ?_
              refine W.go hK22 (.cons (i := 0) rfl (.cons (i := 3) rfl (.cons (i := 5) rfl (.cons (i := 6) rfl (.cons (i := 9) rfl (.cons (i := 16) rfl (.cons (i := 17) rfl (.cons (i := 18) rfl (.nil))))))))) ?_
              -- region 10: causal.go:111
              refine W.reg ?_
              obtain ⟨hk16, hF17⟩ := ckh hF17
              refine WL.q (Y.add (.pl rfl) (.pl rfl) (ok64_lt (hk16))) rfl ?_
              refine WL.q (Y.move (.pl rfl)) rfl ?_
              refine WL.nil ?_
              obtain rfl := Option.some.inj hF17
              exact W.again2 hK18 need11 (v12 + 1) k17 hN17 (Nat.lt_succ_self _) (.cons rfl (.nil)) (.cons (i := 0) rfl (.cons (i := 3) rfl (.cons (i := 5) rfl (.cons (i := 6) rfl (.cons (i := 9) rfl (.cons (i := 16) rfl (.cons (i := 17) rfl (.nil)))))))) (fun w hw => hw.pick [1, 2] rfl)
          · replace hF17 := cneg hC21 hF17
            refine W.exit ?_
            obtain rfl := Option.some.inj hF17
            exact W.joinAt1 hK15 need11 (einr hN17) (.nil) (.cons (i := 0) rfl (.cons (i := 3) rfl (.cons (i := 6) rfl (.cons (i := 9) rfl (.nil))))) (fun w hw => hw.pick [0, 1] rfl)
        · -- behind
          rintro need10 rfl
          -- region 11: causal.go:116
          refine W.seqR fun Q29 hQ29 => ?_
          refine WL.q (Y.move (.pl rfl)) rfl ?_
          obtain ⟨r17, hr17, hF10⟩ := bnd hF10
          refine WL.step (WO.call (γ := Unit) (fun g => .bool r17.2.2) (fun g => [cBx b9 154 (Value.slice A2 (calls1).length c3 :: ((encRel r6) ++ (Value.int .u16 need10 :: (Value.int .u16 r17.1 :: (((encA 4 (eI .i64) 0) r17.2.1) ++ []))))), cBx b7 99 (encRel r6)]) (fun _ => True) isGo98 (.cons (.pl rfl) (.nil)) rfl (fun w hw => causal_viewer_find_ok (T := [cBx b7 99 (encRel r6)]) (hr17) (hw.pick [1, 0] rfl) hs4) ?_)
          rintro _ -
          refine WL.q (Y.not (.pl rfl)) rfl ?_
          refine WL.next hQ29 (.cons (i := 0) rfl (.cons (i := 3) rfl (.cons (i := 9) rfl (.cons (i := 45) rfl (.nil))))) ?_
          refine W.cond (.pl rfl) (fun hC30 => ?_) (fun hC30 => ?_)
          · replace hF10 := cpos hC30 hF10
            -- region 12: causal.go:117
            refine W.seqR fun Q31 hQ31 => ?_
            refine WL.q (Y.assign (.pl rfl)) rfl ?_
            refine WL.next hQ31 (.cons (i := 4) rfl (.nil)) ?_
            obtain rfl := Option.some.inj hF10
            obtain rfl := Option.some.inj hF5
            obtain rfl := einr hN5
            obtain rfl := Option.some.inj hF
            refine W.retV (fn := Try.f86) (vs := [.bool false]) Try.results86 ⟨.tmp rfl, trivial⟩ (fun _ _ h => h) (fun w hw => ?_)
            exact hR _ _ ⟨rfl, (hw.pick [] rfl)⟩
          · replace hF10 := cneg hC30 hF10
            refine W.skip ?_
            exact W.joinAt0 hK11  (Option.some.inj hF10) (.nil) (.cons (i := 0) rfl (.cons (i := 3) rfl (.cons (i := 9) rfl (.nil)))) (fun w hw => hw.pick [1] rfl)
      · -- behind
        rintro  rfl
        -- region 13: causal.go:109
        refine W.reg ?_
        obtain ⟨hk18, hF5⟩ := ckh hF5
        refine WL.q (Y.add (.pl rfl) (.pl rfl) (ok64_lt (hk18))) rfl ?_
        refine WL.q (Y.move (.pl rfl)) rfl ?_
        refine WL.nil ?_
        obtain rfl := Option.some.inj hF5
        exact W.again1 hK6 (v8 + 1) k5 hN5 (Nat.lt_succ_self _) (.cons rfl (.nil)) (.cons (i := 0) rfl (.cons (i := 3) rfl (.nil))) (fun w hw => hw.pick [0] rfl)
    · replace hF5 := cneg hC9 hF5
      refine W.exit ?_
      obtain rfl := Option.some.inj hF5
      exact W.joinAt0 hK3  (einr hN5) (.nil) (.nil) (fun w hw => hw.pick [] rfl)
  · -- behind
    rintro  rfl
    -- region 14: causal.go:120
    refine W.seqR fun Q33 hQ33 => ?_
    refine WL.q (Y.assign (.pl rfl)) rfl ?_
    refine WL.next hQ33 (.cons (i := 4) rfl (.nil)) ?_
    obtain rfl := Option.some.inj hF
    refine W.retV (fn := Try.f86) (vs := [.bool true]) Try.results86 ⟨.tmp rfl, trivial⟩ (fun _ _ h => h) (fun w hw => ?_)
    exact hR _ _ ⟨rfl, (hw.pick [] rfl)⟩

def causal_Check (N : Nat) (types1 : (List Int)) (l6 : (List Event)) : Option (Bool × Bool × Int) :=
  bd (causal_check N types1 l6) fun (r11 : ((List Call) × Int)) =>
  cond (!(decide (r11.2 = 0)))
    (some (false, false, r11.2))
    (bd (causal_causes N r11.1) fun (r14 : (Int × (List Int) × Bool)) =>
    bd ((cond ((!r14.2.2) == true) (causal_views N r11.1 (Rel.mk r14.1 r14.2.1)) (some false))) fun (r16 : Bool) =>
    bd (causal_programs N r11.1) fun (r17 : (List Int)) =>
    bd (causal_views N r11.1 (Rel.mk ((r11.1).length : Int) r17)) fun (r18 : Bool) =>
    some (((!r14.2.2) && r16), r18, 0))

theorem causal_Check_ok {N : Nat} {types1 : (List Int)} {l6 : (List Event)} {res : (Bool × Bool × Int)} (hF : causal_Check N types1 l6 = some res) (w : World) {v5 : Value} (hs4 : SlIn (eI .i64) 1 w v5 types1) {v10 : Value} (hs9 : SlIn encEvent 4 w v10 l6) :
    Pure Try.prog 60 [v5, v10] w (.tuple #[.bool res.1, .bool res.2.1, .int .i64 res.2.2]) := by
  obtain ⟨A2, c3, rfl, hcc3, hs4⟩ := hs4.form
  obtain ⟨A7, c8, rfl, hcc8, hs9⟩ := hs9.form
  refine W.enter (n := 36) Try.func60 rfl rfl Sub.refl (by simp) (St.start w) fun R hR => ?_
  unfold causal_Check at hF
  -- region 0: causal.go:124
  refine W.seqR fun Q1 hQ1 => ?_
  refine WL.q (Y.assign (.pl rfl)) rfl ?_
  refine WL.q (Y.assign (.pl rfl)) rfl ?_
  refine WL.q (Y.assign (.pl rfl)) rfl ?_
  refine WL.next hQ1 (.cons (i := 0) rfl (.cons (i := 1) rfl (.nil))) ?_
  -- region 1: causal.go:125
  refine W.seqR fun Q2 hQ2 => ?_
  refine WL.q (Y.move (.pl rfl)) rfl ?_
  refine WL.q (Y.move (.pl rfl)) rfl ?_
  obtain ⟨r11, hr11, hF⟩ := bnd hF
  refine WL.step (WO.callM isGo84 (.cons (.pl rfl) (.cons (.pl rfl) (.nil))) rfl (fun w hw => causal_check_ok (hr11) w (hs4.mono hw) (hs9.mono hw)) ?_)
  rintro ⟨A12, c13⟩ -
  refine WL.q (Y.move (.pl rfl)) rfl ?_
  refine WL.q (Y.extract (.pl rfl) rfl) rfl ?_
  refine WL.q (Y.extract (.pl rfl) rfl) rfl ?_
  refine WL.q (Y.assign (.pl rfl)) rfl ?_
  refine WL.q (Y.assign (.pl rfl)) rfl ?_
  refine WL.next hQ2 (.cons (i := 7) rfl (.cons (i := 8) rfl (.nil))) ?_
  refine W.seq fun K3 hK3 => ?_
  -- region 2: causal.go:126
  refine W.seqR fun Q4 hQ4 => ?_
  refine WL.q (Y.move (.pl rfl)) rfl ?_
  refine WL.q (Y.neq (.pl rfl) (.pl rfl)) rfl ?_
  refine WL.next hQ4 (.cons (i := 7) rfl (.cons (i := 8) rfl (.cons (i := 18) rfl (.nil)))) ?_
  refine W.cond (.pl rfl) (fun hC5 => ?_) (fun hC5 => ?_)
  · replace hF := cpos hC5 hF
    -- region 3: causal.go:127
    refine W.seqR fun Q6 hQ6 => ?_
    refine WL.q (Y.move (.pl rfl)) rfl ?_
    refine WL.q (Y.assign (.pl rfl)) rfl ?_
    refine WL.q (Y.assign (.pl rfl)) rfl ?_
    refine WL.q (Y.assign (.pl rfl)) rfl ?_
    refine WL.next hQ6 (.cons (i := 4) rfl (.cons (i := 5) rfl (.cons (i := 6) rfl (.nil)))) ?_
    obtain rfl := Option.some.inj hF
    refine W.retV (fn := Try.f60) (vs := [.bool false, .bool false, .int .i64 r11.2]) Try.results60 ⟨.tmp rfl, ⟨.tmp rfl, ⟨.tmp rfl, trivial⟩⟩⟩ (fun _ _ h => h) (fun w hw => ?_)
    exact hR _ _ ⟨rfl, (hw.pick [] rfl)⟩
  · replace hF := cneg hC5 hF
    refine W.skip ?_
    refine W.go hK3 (.cons (i := 7) rfl (.nil)) ?_
    -- region 4: causal.go:129
    refine W.seqR fun Q7 hQ7 => ?_
    refine WL.q (Y.move (.pl rfl)) rfl ?_
    obtain ⟨r14, hr14, hF⟩ := bnd hF
    refine WL.step (WO.callP isGo85 (.cons (.pl rfl) (.nil)) rfl (fun w hw => causal_causes_ok (hr14) w (SlIn.ofRow lenCall hw (i := 0) rfl)) ?_)
    refine WL.q (Y.move (.pl rfl)) rfl ?_
    refine WL.q (Y.extract (.pl rfl) rfl) rfl ?_
    refine WL.q (Y.extract (.pl rfl) rfl) rfl ?_
    refine WL.step (WO.alloc (cs := (encRel (Rel.mk 0 [])).toArray) zero99 rfl rfl fun b15 => ?_)
    refine WL.step (WO.storeBA (ds := (encRel (Rel.mk r14.1 r14.2.1))) (cs' := (encRel (Rel.mk r14.1 r14.2.1))) cells99 (.pl rfl) (.pl rfl) rfl (oneRel _) (i := 0) rfl (lel (o := 0) (l := 13) (m := 13) (by decide) rfl rfl) (putW rfl) ?_)
    refine WL.q (Y.assign (.pl rfl)) rfl ?_
    refine WL.next hQ7 (.cons (i := 7) rfl (.cons (i := 9) rfl (.cons (i := 10) rfl (.nil)))) ?_
    -- region 5: causal.go:130
    refine W.seqR fun Q8 hQ8 => ?_
    refine WL.q (Y.move (.pl rfl)) rfl ?_
    refine WL.q (Y.not (.pl rfl)) rfl ?_
    refine WL.q (Y.move (.pl rfl)) rfl ?_
    refine WL.g (.pl rfl rfl rfl) (fun hg => Y.move (.pl rfl)) rfl ?_
    refine WL.g (.pl rfl rfl rfl) (fun hg => Y.loadBA (ds := (encRel (Rel.mk r14.1 r14.2.1))) Try.underlying99 rfl cells99 (.pl rfl) (i := 0) rfl rfl subW) rfl ?_
    obtain ⟨r16, hr16, hF⟩ := bnd hF
    refine WL.gP (.pl rfl rfl rfl) isGo86 (fun hg => (.cons (.gd (hg) rfl) (.cons (.gd (hg) rfl) (.nil)))) rfl (fun hg w hw => causal_views_ok (gpos hg hr16) w (SlIn.ofRow lenCall hw (i := 1) rfl)) ?_
    refine WL.q (Y.and (.pl rfl) (fun h2 => .gd (eqt h2) rfl)) rfl ?_
    refine WL.q (Y.move (.pl rfl)) rfl ?_
    refine WL.q (Y.move (.pl rfl)) rfl ?_
    obtain ⟨r17, hr17, hF⟩ := bnd hF
    refine WL.step (WO.callP isGo87 (.cons (.pl rfl) (.nil)) rfl (fun w hw => causal_programs_ok (hr17) w (SlIn.ofRow lenCall hw (i := 1) rfl)) ?_)
    obtain ⟨r18, hr18, hF⟩ := bnd hF
    refine WL.step (WO.callP isGo86 (.cons (.pl rfl) (.cons (.pl rfl) (.nil))) rfl (fun w hw => causal_views_ok (hr18) w (SlIn.ofRow lenCall hw (i := 1) rfl)) ?_)
    refine WL.q (Y.assign (.pl rfl)) rfl ?_
    refine WL.q (Y.assign (.pl rfl)) rfl ?_
    refine WL.q (Y.assign (.pl rfl)) rfl ?_
    refine WL.next hQ8 (.cons (i := 4) rfl (.cons (i := 5) rfl (.cons (i := 6) rfl (.nil)))) ?_
    obtain rfl := Option.some.inj hF
    refine W.retV (fn := Try.f60) (vs := [.bool ((!r14.2.2) && r16), .bool r18, .int .i64 0]) Try.results60 ⟨.tmp rfl, ⟨.tmp rfl, ⟨.tmp rfl, trivial⟩⟩⟩ (fun _ _ h => h) (fun w hw => ?_)
    exact hR _ _ ⟨rfl, (hw.pick [] rfl)⟩

def seq_programs_L27 (N : Nat) (calls1 : (List Call)) (x12 : Call) (v10 : Int) : ((List Int) × Int) → Option (((List Int) × Int) ⊕ (List Int))
  | (After14, v15) =>
    cond (decide (v15 < ((calls1).length : Int)))
      (bd (ix calls1 v15) fun (x16 : Call) =>
      cond ((decide (x12.who = x16.who)) && (decide (v10 < v15)))
        (bd (ax 12 0 After14 v10) fun (x18 : Int) =>
        bd (ax 12 0 After14 v10) fun (x19 : Int) =>
        ck (ok64 (v15 + 1)) <|
        some (.inl ((setA 12 0 After14 v10 (borI .u16 x18 (shlI .u16 1 (IntKind.u64.wrap v15)))), (v15 + 1))))
        (ck (ok64 (v15 + 1)) <|
        some (.inl (After14, (v15 + 1)))))
      (some (.inr After14))

def seq_programs_L25 (N : Nat) (calls1 : (List Call)) : ((List Int) × Int) → Option (((List Int) × Int) ⊕ (List Int))
  | (After9, v10) =>
    cond (decide (v10 < ((calls1).length : Int)))
      (bd (α := (List Int)) (bd (ix calls1 v10) fun (x12 : Call) =>
        iter (seq_programs_L27 N calls1 x12 v10) N (After9, 0)) <|
      fun (After11 : (List Int)) => 
        ck (ok64 (v10 + 1)) <|
        some (.inl (After11, (v10 + 1))))
      (some (.inr After9))

def seq_programs (N : Nat) (calls1 : (List Call)) : Option (List Int) :=
  bd (α := (List Int)) (iter (seq_programs_L25 N calls1) N ([], 0)) <|
  fun (After8 : (List Int)) => 
    some After8

theorem seq_programs_ok {N : Nat} {calls1 : (List Call)} {res : (List Int)} (hF : seq_programs N calls1 = some res) (w : World) {v5 : Value} (hs4 : SlIn encCall 7 w v5 calls1) :
    Pure Try.prog 75 [v5] w (.agg (encRel (Rel.mk ((calls1).length : Int) res)).toArray) := by
  obtain ⟨A2, c3, rfl, hcc3, hs4⟩ := hs4.form
  refine W.enter (n := 48) Try.func75 rfl rfl Sub.refl (by simp) (St.start w) fun R hR => ?_
  unfold seq_programs at hF
  -- region 0: seq.go:10
  refine W.seqR fun Q1 hQ1 => ?_
  refine WL.step (WO.alloc (cs := (encRel (Rel.mk 0 [])).toArray) zero99 rfl rfl fun b6 => ?_)
  refine WL.next hQ1 (.cons (i := 0) rfl (.cons (i := 2) rfl (.nil))) ?_
  -- region 1: seq.go:11
  refine W.seqR fun Q2 hQ2 => ?_
  refine WL.q (Y.move (.pl rfl)) rfl ?_
  refine WL.q (Y.len Try.underlying51 (.pl rfl)) rfl ?_
  refine WL.q (Y.build (cs := (encRel (Rel.mk ((calls1).length : Int) [])).toArray) shape99 (.cons (.pl rfl) (.nil)) (one_parts ⟨rfl, trivial⟩) rfl) rfl ?_
  refine WL.step (WO.alloc (cs := (encRel (Rel.mk 0 [])).toArray) zero99 rfl rfl fun b7 => ?_)
  refine WL.step (WO.storeBA (ds := (encRel (Rel.mk ((calls1).length : Int) []))) (cs' := (encRel (Rel.mk ((calls1).length : Int) []))) cells99 (.pl rfl) (.pl rfl) rfl (oneRel _) (i := 0) rfl (lel (o := 0) (l := 13) (m := 13) (by decide) rfl rfl) (putW rfl) ?_)
  refine WL.next hQ2 (.cons (i := 0) rfl (.cons (i := 2) rfl (.cons (i := 3) rfl (.nil)))) ?_
  obtain ⟨o3, hF3, hF⟩ := bnd hF
  refine W.join1 (Em := fun (After8 : (List Int)) => []) (M := fun After8 => [cBx b6 99 (encRel (Rel.mk 0 [])), cBx b7 99 (encRel (Rel.mk ((calls1).length : Int) After8))]) (I := fun After8 => After8 = o3) (.cons (i := 2) rfl (.cons (i := 3) rfl (.nil))) (fun K4 hK4 => ?_) ?_
  · -- up to
    -- region 2: seq.go:12
    refine W.seqR fun Q5 hQ5 => ?_
    refine WL.q (Y.move (.pl rfl)) rfl ?_
    refine WL.q (Y.len Try.underlying51 (.pl rfl)) rfl ?_
    refine WL.q (Y.move (.pl rfl)) rfl ?_
    refine WL.next hQ5 (.cons (i := 0) rfl (.cons (i := 2) rfl (.cons (i := 3) rfl (.cons (i := 11) rfl (.cons (i := 12) rfl (.cons (i := 13) rfl (.nil))))))) ?_
    refine W.block ?_
    refine W.loop2 (Em := fun (After9 : (List Int)) (v10 : Int) => [(13, .int .i64 v10)]) (M := fun After9 v10 => [cBx b6 99 (encRel (Rel.mk 0 [])), cBx b7 99 (encRel (Rel.mk ((calls1).length : Int) After9))]) (I := fun After9 v10 k6 => iter (seq_programs_L25 N calls1) k6 (After9, v10) = some o3) [] 0 N (hF3) (.cons rfl (.nil)) (.cons (i := 0) rfl (.cons (i := 2) rfl (.cons (i := 3) rfl (.cons (i := 11) rfl (.cons (i := 12) rfl (.nil)))))) (fun w hw => hw.pick [1, 0] rfl) (fun After9 v10 k6 hI K7 hK7 => ?_)
    obtain ⟨k6, t6, rfl, hF6, hN6⟩ := iter_step hI
    -- region 3: seq.go:12
    refine W.seqR fun Q8 hQ8 => ?_
    refine WL.q (Y.lss (.pl rfl) (.pl rfl)) rfl ?_
    refine WL.next hQ8 (.cons (i := 0) rfl (.cons (i := 2) rfl (.cons (i := 3) rfl (.cons (i := 11) rfl (.cons (i := 12) rfl (.cons (i := 13) rfl (.cons (i := 14) rfl (.nil)))))))) ?_
    refine W.seq fun K9 hK9 => ?_
    refine W.cond (.pl rfl) (fun hC10 => ?_) (fun hC10 => ?_)
    · replace hF6 := cpos hC10 hF6
      refine W.skip ?_
      refine W.go hK9 (.cons (i := 0) rfl (.cons (i := 2) rfl (.cons (i := 3) rfl (.cons (i := 11) rfl (.cons (i := 12) rfl (.cons (i := 13) rfl (.nil))))))) ?_
      obtain ⟨o11, hF11, hF6⟩ := bnd hF6
      refine W.join1 (Em := fun (After11 : (List Int)) => []) (M := fun After11 => [cBx b6 99 (encRel (Rel.mk 0 [])), cBx b7 99 (encRel (Rel.mk ((calls1).length : Int) After11))]) (I := fun After11 => After11 = o11) (.cons (i := 0) rfl (.cons (i := 2) rfl (.cons (i := 3) rfl (.cons (i := 11) rfl (.cons (i := 12) rfl (.cons (i := 13) rfl (.nil))))))) (fun K12 hK12 => ?_) ?_
      · -- up to
        refine W.block ?_
        -- region 4: seq.go:12
        refine W.seqR fun Q13 hQ13 => ?_
        refine WL.q (Y.move (.pl rfl)) rfl ?_
        obtain ⟨x12, hx12, hF11⟩ := bnd hF11
        refine WL.q (Y.slEl Try.underlying51 cells55 hs4 (.pl rfl) (.pl rfl) (ix_lt (hx12))) rfl ?_
        refine WL.q (Y.loadSA (enc := encCall) (ds := (encCall x12)) (j := 0) Try.underlying55 rfl cells55 hs4 (.pl rfl) (hx12) rfl rfl subW) rfl ?_
        refine WL.step (WO.alloc (cs := (encCall (Call.mk 0 0 0 0 0 0 0)).toArray) zero55 rfl rfl fun b13 => ?_)
        refine WL.q (Y.assign (.pl rfl)) rfl ?_
        refine WL.step (WO.storeBA (ds := (encCall x12)) (cs' := (encCall x12)) cells55 (.pl rfl) (.pl rfl) rfl (oneCall _) (i := 0) rfl (lel (o := 0) (l := 7) (m := 7) (by decide) rfl rfl) (putW rfl) ?_)
        refine WL.next hQ13 (.cons (i := 0) rfl (.cons (i := 2) rfl (.cons (i := 3) rfl (.cons (i := 4) rfl (.cons (i := 5) rfl (.cons (i := 11) rfl (.cons (i := 12) rfl (.cons (i := 13) rfl (.nil))))))))) ?_
        -- region 5: seq.go:13
        refine W.seqR fun Q14 hQ14 => ?_
        refine WL.q (Y.move (.pl rfl)) rfl ?_
        refine WL.q (Y.len Try.underlying51 (.pl rfl)) rfl ?_
        refine WL.q (Y.move (.pl rfl)) rfl ?_
        refine WL.next hQ14 (.cons (i := 0) rfl (.cons (i := 2) rfl (.cons (i := 3) rfl (.cons (i := 4) rfl (.cons (i := 5) rfl (.cons (i := 11) rfl (.cons (i := 12) rfl (.cons (i := 13) rfl (.cons (i := 18) rfl (.cons (i := 19) rfl (.cons (i := 20) rfl (.nil)))))))))))) ?_
        refine W.block ?_
        refine W.loop2 (Em := fun (After14 : (List Int)) (v15 : Int) => [(20, .int .i64 v15)]) (M := fun After14 v15 => [cBx b6 99 (encRel (Rel.mk 0 [])), cBx b7 99 (encRel (Rel.mk ((calls1).length : Int) After14)), cBx b13 55 (encCall x12)]) (I := fun After14 v15 k15 => iter (seq_programs_L27 N calls1 x12 v10) k15 (After14, v15) = some o11) After9 0 N (hF11) (.cons rfl (.nil)) (.cons (i := 0) rfl (.cons (i := 2) rfl (.cons (i := 3) rfl (.cons (i := 4) rfl (.cons (i := 5) rfl (.cons (i := 11) rfl (.cons (i := 12) rfl (.cons (i := 13) rfl (.cons (i := 18) rfl (.cons (i := 19) rfl (.nil))))))))))) (fun w hw => hw.pick [1, 2, 0] rfl) (fun After14 v15 k15 hI K16 hK16 => ?_)
        obtain ⟨k15, t15, rfl, hF15, hN15⟩ := iter_step hI
        -- region 6: seq.go:13
        refine W.seqR fun Q17 hQ17 => ?_
        refine WL.q (Y.lss (.pl rfl) (.pl rfl)) rfl ?_
        refine WL.next hQ17 (.cons (i := 0) rfl (.cons (i := 2) rfl (.cons (i := 3) rfl (.cons (i := 4) rfl (.cons (i := 5) rfl (.cons (i := 11) rfl (.cons (i := 12) rfl (.cons (i := 13) rfl (.cons (i := 18) rfl (.cons (i := 19) rfl (.cons (i := 20) rfl (.cons (i := 21) rfl (.nil))))))))))))) ?_
        refine W.seq fun K18 hK18 => ?_
        refine W.cond (.pl rfl) (fun hC19 => ?_) (fun hC19 => ?_)
        · replace hF15 := cpos hC19 hF15
          refine W.skip ?_
          refine W.go hK18 (.cons (i := 0) rfl (.cons (i := 2) rfl (.cons (i := 3) rfl (.cons (i := 4) rfl (.cons (i := 5) rfl (.cons (i := 11) rfl (.cons (i := 12) rfl (.cons (i := 13) rfl (.cons (i := 18) rfl (.cons (i := 19) rfl (.cons (i := 20) rfl (.nil)))))))))))) ?_
          refine W.seq fun K20 hK20 => ?_
          refine W.block ?_
          -- region 7: seq.go:13
          refine W.seqR fun Q21 hQ21 => ?_
          refine WL.q (Y.move (.pl rfl)) rfl ?_
          obtain ⟨x16, hx16, hF15⟩ := bnd hF15
          refine WL.q (Y.slEl Try.underlying51 cells55 hs4 (.pl rfl) (.pl rfl) (ix_lt (hx16))) rfl ?_
          refine WL.q (Y.loadSA (enc := encCall) (ds := (encCall x16)) (j := 0) Try.underlying55 rfl cells55 hs4 (.pl rfl) (hx16) rfl rfl subW) rfl ?_
          refine WL.step (WO.alloc (cs := (encCall (Call.mk 0 0 0 0 0 0 0)).toArray) zero55 rfl rfl fun b17 => ?_)
          refine WL.q (Y.assign (.pl rfl)) rfl ?_
          refine WL.step (WO.storeBA (ds := (encCall x16)) (cs' := (encCall x16)) cells55 (.pl rfl) (.pl rfl) rfl (oneCall _) (i := 0) rfl (lel (o := 0) (l := 7) (m := 7) (by decide) rfl rfl) (putW rfl) ?_)
          refine WL.next hQ21 (.cons (i := 0) rfl (.cons (i := 2) rfl (.cons (i := 3) rfl (.cons (i := 4) rfl (.cons (i := 5) rfl (.cons (i := 6) rfl (.cons (i := 7) rfl (.cons (i := 11) rfl (.cons (i := 12) rfl (.cons (i := 13) rfl (.cons (i := 18) rfl (.cons (i := 19) rfl (.cons (i := 20) rfl (.nil)))))))))))))) ?_
          -- region 8: seq.go:14
          refine W.seqR fun Q22 hQ22 => ?_
          refine WL.q (Y.fieldAddr0 (off := 0) (ft := 3) Try.underlying55 rfl cells3 (.pl rfl)) rfl ?_
          refine WL.q (Y.loadB (v := .int .i64 x12.who) Try.underlying3 rfl (.pl rfl) (i := 3) rfl (rfl)) rfl ?_
          refine WL.q (Y.fieldAddr0 (off := 0) (ft := 3) Try.underlying55 rfl cells3 (.pl rfl)) rfl ?_
          refine WL.q (Y.loadB (v := .int .i64 x16.who) Try.underlying3 rfl (.pl rfl) (i := 0) rfl (rfl)) rfl ?_
          refine WL.q (Y.eql (.pl rfl) (.pl rfl)) rfl ?_
          refine WL.q (Y.move (.pl rfl)) rfl ?_
          refine WL.g (.pl rfl rfl rfl) (fun hg => Y.move (.pl rfl)) rfl ?_
          refine WL.g (.pl rfl rfl rfl) (fun hg => Y.move (.pl rfl)) rfl ?_
          refine WL.g (.pl rfl rfl rfl) (fun hg => Y.lss (.gd (hg) rfl) (.gd (hg) rfl)) rfl ?_
          refine WL.q (Y.and (.pl rfl) (fun h2 => .gd (eqt h2) rfl)) rfl ?_
          refine WL.next hQ22 (.cons (i := 0) rfl (.cons (i := 2) rfl (.cons (i := 3) rfl (.cons (i := 4) rfl (.cons (i := 5) rfl (.cons (i := 6) rfl (.cons (i := 11) rfl (.cons (i := 12) rfl (.cons (i := 13) rfl (.cons (i := 18) rfl (.cons (i := 19) rfl (.cons (i := 20) rfl (.cons (i := 34) rfl (.nil)))))))))))))) ?_
          refine W.cond (.pl rfl) (fun hC23 => ?_) (fun hC23 => ?_)
          · replace hF15 := cpos hC23 hF15
            -- region 9: seq.go:15
            refine W.reg ?_
            refine WL.q (Y.move (.pl rfl)) rfl ?_
            refine WL.q (Y.fieldAddr0 (off := 1) (ft := 97) Try.underlying99 rfl cells97 (.pl rfl)) rfl ?_
            obtain ⟨x18, hx18, hF15⟩ := bnd hF15
            refine WL.q (Y.arrZ Try.underlying97 cells96 (.pl rfl) (.pl rfl) (ax_lt (hx18))) rfl ?_
            refine WL.q (Y.loadB (v := .int .u16 x18) Try.underlying96 rfl (.pl rfl) (i := 2) rfl (cellsA (pre := (Value.int .i64 ((calls1).length : Int) :: [])) (off := 1) (post := []) (a := After14) (enc := (eI .u16)) (d := 0) (n := 12) (sz := 1) (j := 0) (fun _ => rfl) rfl (ax_nat (hx18)) (ax_get (hx18)) rfl)) rfl ?_
            refine WL.q (Y.move (.pl rfl)) rfl ?_
            refine WL.q (Y.conv Try.underlying3 Try.underlying113 (.pl rfl)) rfl ?_
            refine WL.q (Y.shl (.pl rfl) (.pl rfl) (wrapU_nn rfl _)) rfl ?_
            refine WL.q (Y.bor (.pl rfl) (.pl rfl)) rfl ?_
            refine WL.q (Y.fieldAddr0 (off := 1) (ft := 97) Try.underlying99 rfl cells97 (.pl rfl)) rfl ?_
            obtain ⟨x19, hx19, hF15⟩ := bnd hF15
            refine WL.q (Y.arrZ Try.underlying97 cells96 (.pl rfl) (.pl rfl) (ax_lt (hx19))) rfl ?_
            refine WL.step (WO.storeB (cs' := (encRel (Rel.mk ((calls1).length : Int) (setA 12 0 After14 v10 (borI .u16 x18 (shlI .u16 1 (IntKind.u64.wrap v15))))))) cells96 (.pl rfl) (.pl rfl) rfl (i := 2) rfl (ltl (m := 13) (offlt (off := 1) (sz := 1) (j := 0) (ax_nat (hx19)) (by decide)) rfl) (cellsSet (pre := (Value.int .i64 ((calls1).length : Int) :: [])) (off := 1) (post := []) (a := After14) (enc := (eI .u16)) (d := 0) (n := 12) (sz := 1) (j := 0) (x := x19) (x' := (borI .u16 x18 (shlI .u16 1 (IntKind.u64.wrap v15)))) (fun _ => rfl) rfl (ax_lt (hx19)) (ax_get (hx19)) (by decide) rfl rfl) ?_)
            refine WL.nil ?_
            refine W.go hK20 (.cons (i := 0) rfl (.cons (i := 2) rfl (.cons (i := 3) rfl (.cons (i := 4) rfl (.cons (i := 5) rfl (.cons (i := 11) rfl (.cons (i := 12) rfl (.cons (i := 13) rfl (.cons (i := 18) rfl (.cons (i := 19) rfl (.cons (i := 20) rfl (.nil)))))))))))) ?_
            -- region 10: seq.go:13
            refine W.reg ?_
            obtain ⟨hk20, hF15⟩ := ckh hF15
            refine WL.q (Y.add (.pl rfl) (.pl rfl) (ok64_lt (hk20))) rfl ?_
            refine WL.q (Y.move (.pl rfl)) rfl ?_
            refine WL.nil ?_
            obtain rfl := Option.some.inj hF15
            exact W.again2 hK16 (setA 12 0 After14 v10 (borI .u16 x18 (shlI .u16 1 (IntKind.u64.wrap v15)))) (v15 + 1) k15 hN15 (Nat.lt_succ_self _) (.cons rfl (.nil)) (.cons (i := 0) rfl (.cons (i := 2) rfl (.cons (i := 3) rfl (.cons (i := 4) rfl (.cons (i := 5) rfl (.cons (i := 11) rfl (.cons (i := 12) rfl (.cons (i := 13) rfl (.cons (i := 18) rfl (.cons (i := 19) rfl (.nil))))))))))) (fun w hw => hw.pick [1, 2, 3] rfl)
          · replace hF15 := cneg hC23 hF15
            refine W.skip ?_
            refine W.go hK20 (.cons (i := 0) rfl (.cons (i := 2) rfl (.cons (i := 3) rfl (.cons (i := 4) rfl (.cons (i := 5) rfl (.cons (i := 11) rfl (.cons (i := 12) rfl (.cons (i := 13) rfl (.cons (i := 18) rfl (.cons (i := 19) rfl (.cons (i := 20) rfl (.nil)))))))))))) ?_
            -- region 10: seq.go:13
            refine W.reg ?_
            obtain ⟨hk21, hF15⟩ := ckh hF15
            refine WL.q (Y.add (.pl rfl) (.pl rfl) (ok64_lt (hk21))) rfl ?_
            refine WL.q (Y.move (.pl rfl)) rfl ?_
            refine WL.nil ?_
            obtain rfl := Option.some.inj hF15
            exact W.again2 hK16 After14 (v15 + 1) k15 hN15 (Nat.lt_succ_self _) (.cons rfl (.nil)) (.cons (i := 0) rfl (.cons (i := 2) rfl (.cons (i := 3) rfl (.cons (i := 4) rfl (.cons (i := 5) rfl (.cons (i := 11) rfl (.cons (i := 12) rfl (.cons (i := 13) rfl (.cons (i := 18) rfl (.cons (i := 19) rfl (.nil))))))))))) (fun w hw => hw.pick [1, 2, 3] rfl)
        · replace hF15 := cneg hC19 hF15
          refine W.exit ?_
          obtain rfl := Option.some.inj hF15
          exact W.joinAt1 hK12 After14 (einr hN15) (.nil) (.cons (i := 0) rfl (.cons (i := 2) rfl (.cons (i := 3) rfl (.cons (i := 11) rfl (.cons (i := 12) rfl (.cons (i := 13) rfl (.nil))))))) (fun w hw => hw.pick [0, 1] rfl)
      · -- behind
        rintro After11 rfl
        -- region 11: seq.go:12
        refine W.reg ?_
        obtain ⟨hk22, hF6⟩ := ckh hF6
        refine WL.q (Y.add (.pl rfl) (.pl rfl) (ok64_lt (hk22))) rfl ?_
        refine WL.q (Y.move (.pl rfl)) rfl ?_
        refine WL.nil ?_
        obtain rfl := Option.some.inj hF6
        exact W.again2 hK7 After11 (v10 + 1) k6 hN6 (Nat.lt_succ_self _) (.cons rfl (.nil)) (.cons (i := 0) rfl (.cons (i := 2) rfl (.cons (i := 3) rfl (.cons (i := 11) rfl (.cons (i := 12) rfl (.nil)))))) (fun w hw => hw.pick [0, 1] rfl)
    · replace hF6 := cneg hC10 hF6
      refine W.exit ?_
      obtain rfl := Option.some.inj hF6
      exact W.joinAt1 hK4 After9 (einr hN6) (.nil) (.cons (i := 2) rfl (.cons (i := 3) rfl (.nil))) (fun w hw => hw.pick [0, 1] rfl)
  · -- behind
    rintro After8 rfl
    -- region 12: seq.go:19
    refine W.seqR fun Q28 hQ28 => ?_
    refine WL.q (Y.loadBA (ds := (encRel (Rel.mk ((calls1).length : Int) After8))) Try.underlying99 rfl cells99 (.pl rfl) (i := 1) rfl rfl subW) rfl ?_
    refine WL.step (WO.storeBA (ds := (encRel (Rel.mk ((calls1).length : Int) After8))) (cs' := (encRel (Rel.mk ((calls1).length : Int) After8))) cells99 (.pl rfl) (.pl rfl) rfl (oneRel _) (i := 0) rfl (lel (o := 0) (l := 13) (m := 13) (by decide) rfl rfl) (putW rfl) ?_)
    refine WL.next hQ28 (.cons (i := 2) rfl (.nil)) ?_
    obtain rfl := Option.some.inj hF
    refine W.retV (fn := Try.f75) (vs := [.agg (encRel (Rel.mk ((calls1).length : Int) After8)).toArray]) Try.results75 ⟨.cellA Try.underlying99 rfl cells99 rfl (i := 0) rfl rfl, trivial⟩ (fun _ _ h => h) (fun w hw => ?_)
    exact hR _ _ ⟨rfl, (hw.pick [] rfl)⟩

def seq_Find (N : Nat) (types1 : (List Int)) (l6 : (List Event)) : Option ((List Step) × Bool × Int) :=
  bd (search_Calls N types1 l6) fun (r11 : ((List Call) × Int)) =>
  cond (!(decide (r11.2 = 0)))
    (some ([], false, r11.2))
    (bd (seq_programs N r11.1) fun (r14 : (List Int)) =>
    bd (search_Smallest N types1 r11.1 (Rel.mk ((r11.1).length : Int) r14)) fun (r15 : ((List Step) × Bool)) =>
    some (r15.1, r15.2, 0))

theorem seq_Find_ok {N : Nat} {types1 : (List Int)} {l6 : (List Event)} {res : ((List Step) × Bool × Int)} (hF : seq_Find N types1 l6 = some res) (w : World) {v5 : Value} (hs4 : SlIn (eI .i64) 1 w v5 types1) {v10 : Value} (hs9 : SlIn encEvent 4 w v10 l6) :
    Made Try.prog 46 [v5, v10] w (fun g : (Option Addr × Nat) => .tuple #[.slice g.1 (res.1).length g.2, .bool res.2.1, .int .i64 res.2.2]) (fun g => [cR encStep 2 g.1 g.2 58 res.1]) (fun _ => True) := by
  obtain ⟨A2, c3, rfl, hcc3, hs4⟩ := hs4.form
  obtain ⟨A7, c8, rfl, hcc8, hs9⟩ := hs9.form
  refine W.enter (n := 30) Try.func46 rfl rfl Sub.refl (by simp) (St.start w) fun R hR => ?_
  unfold seq_Find at hF
  -- region 0: seq.go:32
  refine W.seqR fun Q1 hQ1 => ?_
  refine WL.q (Y.assign (.pl rfl)) rfl ?_
  refine WL.q (Y.assign (.pl rfl)) rfl ?_
  refine WL.q (Y.assign (.pl rfl)) rfl ?_
  refine WL.next hQ1 (.cons (i := 0) rfl (.cons (i := 1) rfl (.nil))) ?_
  -- region 1: seq.go:33
  refine W.seqR fun Q2 hQ2 => ?_
  refine WL.q (Y.move (.pl rfl)) rfl ?_
  refine WL.q (Y.move (.pl rfl)) rfl ?_
  obtain ⟨r11, hr11, hF⟩ := bnd hF
  refine WL.step (WO.callM isGo68 (.cons (.pl rfl) (.cons (.pl rfl) (.nil))) rfl (fun w hw => search_Calls_ok (hr11) w (hs4.mono hw) (hs9.mono hw)) ?_)
  rintro ⟨A12, c13⟩ -
  refine WL.q (Y.move (.pl rfl)) rfl ?_
  refine WL.q (Y.extract (.pl rfl) rfl) rfl ?_
  refine WL.q (Y.extract (.pl rfl) rfl) rfl ?_
  refine WL.q (Y.assign (.pl rfl)) rfl ?_
  refine WL.q (Y.assign (.pl rfl)) rfl ?_
  refine WL.next hQ2 (.cons (i := 0) rfl (.cons (i := 7) rfl (.cons (i := 8) rfl (.nil)))) ?_
  refine W.seq fun K3 hK3 => ?_
  -- region 2: seq.go:34
  refine W.seqR fun Q4 hQ4 => ?_
  refine WL.q (Y.move (.pl rfl)) rfl ?_
  refine WL.q (Y.neq (.pl rfl) (.pl rfl)) rfl ?_
  refine WL.next hQ4 (.cons (i := 0) rfl (.cons (i := 7) rfl (.cons (i := 8) rfl (.cons (i := 18) rfl (.nil))))) ?_
  refine W.cond (.pl rfl) (fun hC5 => ?_) (fun hC5 => ?_)
  · replace hF := cpos hC5 hF
    -- region 3: seq.go:35
    refine W.seqR fun Q6 hQ6 => ?_
    refine WL.q (Y.move (.pl rfl)) rfl ?_
    refine WL.q (Y.assign (.pl rfl)) rfl ?_
    refine WL.q (Y.assign (.pl rfl)) rfl ?_
    refine WL.q (Y.assign (.pl rfl)) rfl ?_
    refine WL.next hQ6 (.cons (i := 4) rfl (.cons (i := 5) rfl (.cons (i := 6) rfl (.nil)))) ?_
    obtain rfl := Option.some.inj hF
    refine W.retV (fn := Try.f46) (vs := [.slice none 0 0, .bool false, .int .i64 r11.2]) Try.results46 ⟨.tmp rfl, ⟨.tmp rfl, ⟨.tmp rfl, trivial⟩⟩⟩ (fun _ _ h => h) (fun w hw => ?_)
    exact hR _ _ ⟨(none, 0), trivial, rfl, ((St.nilR (hw.pick [] rfl) encStep 2 58).pick [0] rfl)⟩
  · replace hF := cneg hC5 hF
    refine W.skip ?_
    refine W.go hK3 (.cons (i := 0) rfl (.cons (i := 7) rfl (.nil))) ?_
    -- region 4: seq.go:37
    refine W.seqR fun Q7 hQ7 => ?_
    refine WL.q (Y.move (.pl rfl)) rfl ?_
    refine WL.q (Y.move (.pl rfl)) rfl ?_
    refine WL.q (Y.move (.pl rfl)) rfl ?_
    obtain ⟨r14, hr14, hF⟩ := bnd hF
    refine WL.step (WO.callP isGo75 (.cons (.pl rfl) (.nil)) rfl (fun w hw => seq_programs_ok (hr14) w (SlIn.ofRow lenCall hw (i := 0) rfl)) ?_)
    obtain ⟨r15, hr15, hF⟩ := bnd hF
    refine WL.step (WO.callM isGo70 (.cons (.pl rfl) (.cons (.pl rfl) (.cons (.pl rfl) (.nil)))) rfl (fun w hw => search_Smallest_ok (hr15) w (hs4.mono hw) (SlIn.ofRow lenCall hw (i := 0) rfl)) ?_)
    rintro ⟨A16, c17⟩ -
    refine WL.q (Y.move (.pl rfl)) rfl ?_
    refine WL.q (Y.extract (.pl rfl) rfl) rfl ?_
    refine WL.q (Y.extract (.pl rfl) rfl) rfl ?_
    refine WL.q (Y.assign (.pl rfl)) rfl ?_
    refine WL.q (Y.assign (.pl rfl)) rfl ?_
    refine WL.next hQ7 (.cons (i := 9) rfl (.cons (i := 10) rfl (.nil))) ?_
    -- region 5: seq.go:38
    refine W.seqR fun Q8 hQ8 => ?_
    refine WL.q (Y.move (.pl rfl)) rfl ?_
    refine WL.q (Y.move (.pl rfl)) rfl ?_
    refine WL.q (Y.assign (.pl rfl)) rfl ?_
    refine WL.q (Y.assign (.pl rfl)) rfl ?_
    refine WL.q (Y.assign (.pl rfl)) rfl ?_
    refine WL.next hQ8 (.cons (i := 4) rfl (.cons (i := 5) rfl (.cons (i := 6) rfl (.nil)))) ?_
    obtain rfl := Option.some.inj hF
    refine W.retV (fn := Try.f46) (vs := [.slice A16 (r15.1).length c17, .bool r15.2, .int .i64 0]) Try.results46 ⟨.tmp rfl, ⟨.tmp rfl, ⟨.tmp rfl, trivial⟩⟩⟩ (fun _ _ h => h) (fun w hw => ?_)
    exact hR _ _ ⟨(A16, c17), trivial, rfl, (hw.pick [0] rfl)⟩

def alibkeep_heard_1 (N : Nat) (who1 : Int) (thing2 : Int) (kind3 : Int) (arg4 : Int) (res5 : Int) (a9 : (List Event)) : Option Unit :=
  ck (limB 32 ((a9).length + (([(Event.mk who1 thing2 kind3 arg4), (Event.mk who1 thing2 0 res5)] : List Event)).length)) <|
  some ()

theorem alibkeep_heard_1_ok {N : Nat} {who1 : Int} {thing2 : Int} {kind3 : Int} {arg4 : Int} {res5 : Int} {a9 : (List Event)} {b6 : Nat} {A7 : Option Addr} {c8 : Nat} {res : Unit} (hF : alibkeep_heard_1 N who1 thing2 kind3 arg4 res5 a9 = some res) {w0 w : World} {T : List Chunk} (hw : St w0.heap.size w0 ([cBx b6 43 [.slice A7 (a9).length c8], cR encEvent 4 A7 c8 49 a9] ++ T) w) :
    Calls Try.prog 88 (List.toArray [.int .i64 who1, .int .i64 thing2, .int .i64 kind3, .int .i64 arg4, .int .i64 res5, .pointer (some ⟨b6, 0, none⟩)]) w (fun e w' => ∃ g : (Option Addr × Nat), (True) ∧ e = .returned (.tuple #[]) ∧ St w0.heap.size w0 ([cBx b6 43 [.slice g.1 ((a9 ++ ([(Event.mk who1 thing2 kind3 arg4), (Event.mk who1 thing2 0 res5)] : List Event))).length g.2], cR encEvent 4 g.1 g.2 49 (a9 ++ ([(Event.mk who1 thing2 kind3 arg4), (Event.mk who1 thing2 0 res5)] : List Event))] ++ T) w') := by
  refine W.enter (n := 23) Try.func88 rfl rfl Sub.refl (by simp) hw fun R hR => ?_
  unfold alibkeep_heard_1 at hF
  -- region 0: causal.go:15
  refine W.reg ?_
  refine WL.q (Y.loadB (v := .slice A7 (a9).length c8) Try.underlying43 rfl (.pl rfl) (i := 0) rfl (rfl)) rfl ?_
  refine WL.q (Y.move (.pl rfl)) rfl ?_
  refine WL.q (Y.move (.pl rfl)) rfl ?_
  refine WL.q (Y.move (.pl rfl)) rfl ?_
  refine WL.q (Y.move (.pl rfl)) rfl ?_
  refine WL.q (Y.build (cs := (encEvent (Event.mk who1 thing2 kind3 arg4)).toArray) shape49 (.cons (.pl rfl) (.cons (.pl rfl) (.cons (.pl rfl) (.cons (.pl rfl) (.nil))))) (one_parts ⟨rfl, ⟨rfl, ⟨rfl, ⟨rfl, trivial⟩⟩⟩⟩) rfl) rfl ?_
  refine WL.q (Y.move (.pl rfl)) rfl ?_
  refine WL.q (Y.move (.pl rfl)) rfl ?_
  refine WL.q (Y.move (.pl rfl)) rfl ?_
  refine WL.q (Y.build (cs := (encEvent (Event.mk who1 thing2 0 res5)).toArray) shape49 (.cons (.pl rfl) (.cons (.pl rfl) (.cons (.pl rfl) (.nil)))) (one_parts ⟨rfl, ⟨rfl, ⟨rfl, trivial⟩⟩⟩) rfl) rfl ?_
  refine WL.step (WO.bsliceC (enc := encEvent) (ys := ([(Event.mk who1 thing2 kind3 arg4), (Event.mk who1 thing2 0 res5)] : List Event)) Try.underlying43 bz49 (.cons (.pl rfl) (.cons (.pl rfl) (.nil))) rfl lenEvent rfl rfl (by decide) (by decide) rfl fun b10 => ?_)
  obtain ⟨hk13, hF⟩ := ckh hF
  refine WL.step (WO.appendC (enc := encEvent) Try.underlying43 ap49 lenEvent oneEvent (.pl rfl) rfl (.pl rfl) (i := 2) rfl (m2 := 0) rfl (hk13) rfl fun A11 c12 => ?_)
  refine WL.step (WO.storeB (cs' := [.slice A11 ((a9 ++ ([(Event.mk who1 thing2 kind3 arg4), (Event.mk who1 thing2 0 res5)] : List Event))).length c12]) cells43 (.pl rfl) (.pl rfl) rfl (i := 1) rfl (ltl (m := 1) (by decide) rfl) (rfl) ?_)
  refine WL.nil ?_
  obtain rfl := Option.some.inj hF
  refine W.endV (fn := Try.f88) (vs := []) Try.results88 trivial (fun _ _ h => h) (fun w hw => ?_)
  exact hR _ _ ⟨(A11, c12), trivial, rfl, (hw.pickK 3 [1, 2] rfl)⟩

def alibkeep_heard (N : Nat) : Option Unit :=
  bd (alibkeep_heard_1 N 0 0 1 1 0 ([] : (List Event))) fun (r2 : Unit) =>
  bd (alibkeep_heard_1 N 1 0 2 0 1 (([] : (List Event)) ++ ([(Event.mk 0 0 1 1), (Event.mk 0 0 0 0)] : List Event))) fun (r5 : Unit) =>
  bd (alibkeep_heard_1 N 1 1 1 2 0 ((([] : (List Event)) ++ ([(Event.mk 0 0 1 1), (Event.mk 0 0 0 0)] : List Event)) ++ ([(Event.mk 1 0 2 0), (Event.mk 1 0 0 1)] : List Event))) fun (r8 : Unit) =>
  bd (alibkeep_heard_1 N 2 1 2 0 2 (((([] : (List Event)) ++ ([(Event.mk 0 0 1 1), (Event.mk 0 0 0 0)] : List Event)) ++ ([(Event.mk 1 0 2 0), (Event.mk 1 0 0 1)] : List Event)) ++ ([(Event.mk 1 1 1 2), (Event.mk 1 1 0 0)] : List Event))) fun (r11 : Unit) =>
  bd (alibkeep_heard_1 N 2 0 2 0 0 ((((([] : (List Event)) ++ ([(Event.mk 0 0 1 1), (Event.mk 0 0 0 0)] : List Event)) ++ ([(Event.mk 1 0 2 0), (Event.mk 1 0 0 1)] : List Event)) ++ ([(Event.mk 1 1 1 2), (Event.mk 1 1 0 0)] : List Event)) ++ ([(Event.mk 2 1 2 0), (Event.mk 2 1 0 2)] : List Event))) fun (r14 : Unit) =>
  some ()

theorem alibkeep_heard_ok {N : Nat} {res : Unit} (hF : alibkeep_heard N = some res) (w : World) :
    Made Try.prog 61 [] w (fun g : (Option Addr × Nat) => .slice g.1 ((((((([] : (List Event)) ++ ([(Event.mk 0 0 1 1), (Event.mk 0 0 0 0)] : List Event)) ++ ([(Event.mk 1 0 2 0), (Event.mk 1 0 0 1)] : List Event)) ++ ([(Event.mk 1 1 1 2), (Event.mk 1 1 0 0)] : List Event)) ++ ([(Event.mk 2 1 2 0), (Event.mk 2 1 0 2)] : List Event)) ++ ([(Event.mk 2 0 2 0), (Event.mk 2 0 0 0)] : List Event))).length g.2) (fun g => [cR encEvent 4 g.1 g.2 49 (((((([] : (List Event)) ++ ([(Event.mk 0 0 1 1), (Event.mk 0 0 0 0)] : List Event)) ++ ([(Event.mk 1 0 2 0), (Event.mk 1 0 0 1)] : List Event)) ++ ([(Event.mk 1 1 1 2), (Event.mk 1 1 0 0)] : List Event)) ++ ([(Event.mk 2 1 2 0), (Event.mk 2 1 0 2)] : List Event)) ++ ([(Event.mk 2 0 2 0), (Event.mk 2 0 0 0)] : List Event))]) (fun _ => True) := by
  refine W.enter (n := 15) Try.func61 rfl rfl Sub.refl (by simp) (St.start w) fun R hR => ?_
  unfold alibkeep_heard at hF
  -- region 0: causal.go:12
  refine W.seqR fun Q1 hQ1 => ?_
  refine WL.q (Y.assign (.pl rfl)) rfl ?_
  refine WL.next hQ1 (.nil) ?_
  -- region 1: causal.go:13
  refine W.seqR fun Q2 hQ2 => ?_
  refine WL.step (WO.alloc (cs := [.slice none 0 0].toArray) zero43 rfl rfl fun b1 => ?_)
  refine WL.next hQ2 (.cons (i := 1) rfl (.nil)) ?_
  -- region 2: causal.go:14
  refine W.seqR fun Q3 hQ3 => ?_
  refine WL.q (Y.fnC (.cons (.pl rfl) (.nil))) rfl ?_
  refine WL.q (Y.assign (.pl rfl)) rfl ?_
  refine WL.next hQ3 (.cons (i := 1) rfl (.cons (i := 2) rfl (.nil))) ?_
  -- region 3: causal.go:17
  refine W.seqR fun Q4 hQ4 => ?_
  refine WL.q (Y.move (.pl rfl)) rfl ?_
  obtain ⟨r2, hr2, hF⟩ := bnd hF
  refine WL.step (WO.callG (γ := (Option Addr × Nat)) (first := []) (cap := [.pointer (some ⟨b1, 0, none⟩)]) (fun g => .tuple #[]) (fun g => [cBx b1 43 [.slice g.1 ((([] : (List Event)) ++ ([(Event.mk 0 0 1 1), (Event.mk 0 0 0 0)] : List Event))).length g.2], cR encEvent 4 g.1 g.2 49 (([] : (List Event)) ++ ([(Event.mk 0 0 1 1), (Event.mk 0 0 0 0)] : List Event))]) (fun _ => True) isGo88 (.pl rfl) (.cons (.pl rfl) (.cons (.pl rfl) (.cons (.pl rfl) (.cons (.pl rfl) (.cons (.pl rfl) (.nil)))))) rfl (fun w hw => alibkeep_heard_1_ok (T := []) (hr2) ((St.nilR (hw) encEvent 4 49).pick [1, 0] rfl) ) ?_)
  rintro ⟨A3, c4⟩ -
  refine WL.next hQ4 (.cons (i := 1) rfl (.cons (i := 2) rfl (.nil))) ?_
  -- region 4: causal.go:18
  refine W.seqR fun Q5 hQ5 => ?_
  refine WL.q (Y.move (.pl rfl)) rfl ?_
  obtain ⟨r5, hr5, hF⟩ := bnd hF
  refine WL.step (WO.callG (γ := (Option Addr × Nat)) (first := []) (cap := [.pointer (some ⟨b1, 0, none⟩)]) (fun g => .tuple #[]) (fun g => [cBx b1 43 [.slice g.1 (((([] : (List Event)) ++ ([(Event.mk 0 0 1 1), (Event.mk 0 0 0 0)] : List Event)) ++ ([(Event.mk 1 0 2 0), (Event.mk 1 0 0 1)] : List Event))).length g.2], cR encEvent 4 g.1 g.2 49 ((([] : (List Event)) ++ ([(Event.mk 0 0 1 1), (Event.mk 0 0 0 0)] : List Event)) ++ ([(Event.mk 1 0 2 0), (Event.mk 1 0 0 1)] : List Event))]) (fun _ => True) isGo88 (.pl rfl) (.cons (.pl rfl) (.cons (.pl rfl) (.cons (.pl rfl) (.cons (.pl rfl) (.cons (.pl rfl) (.nil)))))) rfl (fun w hw => alibkeep_heard_1_ok (T := []) (hr5) (hw.pick [0, 1] rfl) ) ?_)
  rintro ⟨A6, c7⟩ -
  refine WL.next hQ5 (.cons (i := 1) rfl (.cons (i := 2) rfl (.nil))) ?_
  -- region 5: causal.go:19
  refine W.seqR fun Q6 hQ6 => ?_
  refine WL.q (Y.move (.pl rfl)) rfl ?_
  obtain ⟨r8, hr8, hF⟩ := bnd hF
  refine WL.step (WO.callG (γ := (Option Addr × Nat)) (first := []) (cap := [.pointer (some ⟨b1, 0, none⟩)]) (fun g => .tuple #[]) (fun g => [cBx b1 43 [.slice g.1 ((((([] : (List Event)) ++ ([(Event.mk 0 0 1 1), (Event.mk 0 0 0 0)] : List Event)) ++ ([(Event.mk 1 0 2 0), (Event.mk 1 0 0 1)] : List Event)) ++ ([(Event.mk 1 1 1 2), (Event.mk 1 1 0 0)] : List Event))).length g.2], cR encEvent 4 g.1 g.2 49 (((([] : (List Event)) ++ ([(Event.mk 0 0 1 1), (Event.mk 0 0 0 0)] : List Event)) ++ ([(Event.mk 1 0 2 0), (Event.mk 1 0 0 1)] : List Event)) ++ ([(Event.mk 1 1 1 2), (Event.mk 1 1 0 0)] : List Event))]) (fun _ => True) isGo88 (.pl rfl) (.cons (.pl rfl) (.cons (.pl rfl) (.cons (.pl rfl) (.cons (.pl rfl) (.cons (.pl rfl) (.nil)))))) rfl (fun w hw => alibkeep_heard_1_ok (T := []) (hr8) (hw.pick [0, 1] rfl) ) ?_)
  rintro ⟨A9, c10⟩ -
  refine WL.next hQ6 (.cons (i := 1) rfl (.cons (i := 2) rfl (.nil))) ?_
  -- region 6: causal.go:20
  refine W.seqR fun Q7 hQ7 => ?_
  refine WL.q (Y.move (.pl rfl)) rfl ?_
  obtain ⟨r11, hr11, hF⟩ := bnd hF
  refine WL.step (WO.callG (γ := (Option Addr × Nat)) (first := []) (cap := [.pointer (some ⟨b1, 0, none⟩)]) (fun g => .tuple #[]) (fun g => [cBx b1 43 [.slice g.1 (((((([] : (List Event)) ++ ([(Event.mk 0 0 1 1), (Event.mk 0 0 0 0)] : List Event)) ++ ([(Event.mk 1 0 2 0), (Event.mk 1 0 0 1)] : List Event)) ++ ([(Event.mk 1 1 1 2), (Event.mk 1 1 0 0)] : List Event)) ++ ([(Event.mk 2 1 2 0), (Event.mk 2 1 0 2)] : List Event))).length g.2], cR encEvent 4 g.1 g.2 49 ((((([] : (List Event)) ++ ([(Event.mk 0 0 1 1), (Event.mk 0 0 0 0)] : List Event)) ++ ([(Event.mk 1 0 2 0), (Event.mk 1 0 0 1)] : List Event)) ++ ([(Event.mk 1 1 1 2), (Event.mk 1 1 0 0)] : List Event)) ++ ([(Event.mk 2 1 2 0), (Event.mk 2 1 0 2)] : List Event))]) (fun _ => True) isGo88 (.pl rfl) (.cons (.pl rfl) (.cons (.pl rfl) (.cons (.pl rfl) (.cons (.pl rfl) (.cons (.pl rfl) (.nil)))))) rfl (fun w hw => alibkeep_heard_1_ok (T := []) (hr11) (hw.pick [0, 1] rfl) ) ?_)
  rintro ⟨A12, c13⟩ -
  refine WL.next hQ7 (.cons (i := 1) rfl (.cons (i := 2) rfl (.nil))) ?_
  -- region 7: causal.go:21
  refine W.seqR fun Q8 hQ8 => ?_
  refine WL.q (Y.move (.pl rfl)) rfl ?_
  obtain ⟨r14, hr14, hF⟩ := bnd hF
  refine WL.step (WO.callG (γ := (Option Addr × Nat)) (first := []) (cap := [.pointer (some ⟨b1, 0, none⟩)]) (fun g => .tuple #[]) (fun g => [cBx b1 43 [.slice g.1 ((((((([] : (List Event)) ++ ([(Event.mk 0 0 1 1), (Event.mk 0 0 0 0)] : List Event)) ++ ([(Event.mk 1 0 2 0), (Event.mk 1 0 0 1)] : List Event)) ++ ([(Event.mk 1 1 1 2), (Event.mk 1 1 0 0)] : List Event)) ++ ([(Event.mk 2 1 2 0), (Event.mk 2 1 0 2)] : List Event)) ++ ([(Event.mk 2 0 2 0), (Event.mk 2 0 0 0)] : List Event))).length g.2], cR encEvent 4 g.1 g.2 49 (((((([] : (List Event)) ++ ([(Event.mk 0 0 1 1), (Event.mk 0 0 0 0)] : List Event)) ++ ([(Event.mk 1 0 2 0), (Event.mk 1 0 0 1)] : List Event)) ++ ([(Event.mk 1 1 1 2), (Event.mk 1 1 0 0)] : List Event)) ++ ([(Event.mk 2 1 2 0), (Event.mk 2 1 0 2)] : List Event)) ++ ([(Event.mk 2 0 2 0), (Event.mk 2 0 0 0)] : List Event))]) (fun _ => True) isGo88 (.pl rfl) (.cons (.pl rfl) (.cons (.pl rfl) (.cons (.pl rfl) (.cons (.pl rfl) (.cons (.pl rfl) (.nil)))))) rfl (fun w hw => alibkeep_heard_1_ok (T := []) (hr14) (hw.pick [0, 1] rfl) ) ?_)
  rintro ⟨A15, c16⟩ -
  refine WL.next hQ8 (.cons (i := 1) rfl (.nil)) ?_
  -- region 8: causal.go:22
  refine W.seqR fun Q9 hQ9 => ?_
  refine WL.q (Y.loadB (v := .slice A15 ((((((([] : (List Event)) ++ ([(Event.mk 0 0 1 1), (Event.mk 0 0 0 0)] : List Event)) ++ ([(Event.mk 1 0 2 0), (Event.mk 1 0 0 1)] : List Event)) ++ ([(Event.mk 1 1 1 2), (Event.mk 1 1 0 0)] : List Event)) ++ ([(Event.mk 2 1 2 0), (Event.mk 2 1 0 2)] : List Event)) ++ ([(Event.mk 2 0 2 0), (Event.mk 2 0 0 0)] : List Event))).length c16) Try.underlying43 rfl (.pl rfl) (i := 0) rfl (rfl)) rfl ?_
  refine WL.q (Y.assign (.pl rfl)) rfl ?_
  refine WL.next hQ9 (.cons (i := 0) rfl (.nil)) ?_
  obtain rfl := Option.some.inj hF
  refine W.retV (fn := Try.f61) (vs := [.slice A15 ((((((([] : (List Event)) ++ ([(Event.mk 0 0 1 1), (Event.mk 0 0 0 0)] : List Event)) ++ ([(Event.mk 1 0 2 0), (Event.mk 1 0 0 1)] : List Event)) ++ ([(Event.mk 1 1 1 2), (Event.mk 1 1 0 0)] : List Event)) ++ ([(Event.mk 2 1 2 0), (Event.mk 2 1 0 2)] : List Event)) ++ ([(Event.mk 2 0 2 0), (Event.mk 2 0 0 0)] : List Event))).length c16]) Try.results61 ⟨.tmp rfl, trivial⟩ (fun _ _ h => h) (fun w hw => ?_)
  exact hR _ _ ⟨(A15, c16), trivial, rfl, (hw.pick [1] rfl)⟩

def causal_Causes (N : Nat) (types1 : (List Int)) (l6 : (List Event)) : Option (Int × (List Int) × Int) :=
  bd (causal_check N types1 l6) fun (r12 : ((List Call) × Int)) =>
  cond (!(decide (r12.2 = 0)))
    (some (0, [], r12.2))
    (bd (causal_causes N r12.1) fun (r15 : (Int × (List Int) × Bool)) =>
    some (r15.1, r15.2.1, 0))

theorem causal_Causes_ok {N : Nat} {types1 : (List Int)} {l6 : (List Event)} {res : (Int × (List Int) × Int)} (hF : causal_Causes N types1 l6 = some res) (w : World) {v5 : Value} (hs4 : SlIn (eI .i64) 1 w v5 types1) {v10 : Value} (hs9 : SlIn encEvent 4 w v10 l6) :
    Pure Try.prog 89 [v5, v10] w (.tuple #[.agg (encRel (Rel.mk res.1 res.2.1)).toArray, .int .i64 res.2.2]) := by
  obtain ⟨A2, c3, rfl, hcc3, hs4⟩ := hs4.form
  obtain ⟨A7, c8, rfl, hcc8, hs9⟩ := hs9.form
  refine W.enter (n := 26) Try.func89 rfl rfl Sub.refl (by simp) (St.start w) fun R hR => ?_
  unfold causal_Causes at hF
  -- region 0: causal.go:65
  refine W.seqR fun Q1 hQ1 => ?_
  refine WL.step (WO.alloc (cs := (encRel (Rel.mk 0 [])).toArray) zero99 rfl rfl fun b11 => ?_)
  refine WL.q (Y.assign (.pl rfl)) rfl ?_
  refine WL.next hQ1 (.cons (i := 0) rfl (.cons (i := 1) rfl (.cons (i := 4) rfl (.nil)))) ?_
  -- region 1: causal.go:66
  refine W.seqR fun Q2 hQ2 => ?_
  refine WL.q (Y.move (.pl rfl)) rfl ?_
  refine WL.q (Y.move (.pl rfl)) rfl ?_
  obtain ⟨r12, hr12, hF⟩ := bnd hF
  refine WL.step (WO.callM isGo84 (.cons (.pl rfl) (.cons (.pl rfl) (.nil))) rfl (fun w hw => causal_check_ok (hr12) w (hs4.mono hw) (hs9.mono hw)) ?_)
  rintro ⟨A13, c14⟩ -
  refine WL.q (Y.move (.pl rfl)) rfl ?_
  refine WL.q (Y.extract (.pl rfl) rfl) rfl ?_
  refine WL.q (Y.extract (.pl rfl) rfl) rfl ?_
  refine WL.q (Y.assign (.pl rfl)) rfl ?_
  refine WL.q (Y.assign (.pl rfl)) rfl ?_
  refine WL.next hQ2 (.cons (i := 4) rfl (.cons (i := 6) rfl (.cons (i := 7) rfl (.nil)))) ?_
  refine W.seq fun K3 hK3 => ?_
  -- region 2: causal.go:67
  refine W.seqR fun Q4 hQ4 => ?_
  refine WL.q (Y.move (.pl rfl)) rfl ?_
  refine WL.q (Y.neq (.pl rfl) (.pl rfl)) rfl ?_
  refine WL.next hQ4 (.cons (i := 4) rfl (.cons (i := 6) rfl (.cons (i := 7) rfl (.cons (i := 17) rfl (.nil))))) ?_
  refine W.cond (.pl rfl) (fun hC5 => ?_) (fun hC5 => ?_)
  · replace hF := cpos hC5 hF
    -- region 3: causal.go:68
    refine W.seqR fun Q6 hQ6 => ?_
    refine WL.q (Y.build (cs := (encRel (Rel.mk 0 [])).toArray) shape99 (.nil) (one_parts trivial) rfl) rfl ?_
    refine WL.q (Y.move (.pl rfl)) rfl ?_
    refine WL.step (WO.storeBA (ds := (encRel (Rel.mk 0 []))) (cs' := (encRel (Rel.mk 0 []))) cells99 (.pl rfl) (.pl rfl) rfl (oneRel _) (i := 1) rfl (lel (o := 0) (l := 13) (m := 13) (by decide) rfl rfl) (putW rfl) ?_)
    refine WL.q (Y.assign (.pl rfl)) rfl ?_
    refine WL.next hQ6 (.cons (i := 4) rfl (.cons (i := 5) rfl (.nil))) ?_
    obtain rfl := Option.some.inj hF
    refine W.retV (fn := Try.f89) (vs := [.agg (encRel (Rel.mk 0 [])).toArray, .int .i64 r12.2]) Try.results89 ⟨.cellA Try.underlying99 rfl cells99 rfl (i := 1) rfl rfl, ⟨.tmp rfl, trivial⟩⟩ (fun _ _ h => h) (fun w hw => ?_)
    exact hR _ _ ⟨rfl, (hw.pick [] rfl)⟩
  · replace hF := cneg hC5 hF
    refine W.skip ?_
    refine W.go hK3 (.cons (i := 4) rfl (.cons (i := 6) rfl (.nil))) ?_
    -- region 4: causal.go:70
    refine W.seqR fun Q7 hQ7 => ?_
    refine WL.q (Y.move (.pl rfl)) rfl ?_
    obtain ⟨r15, hr15, hF⟩ := bnd hF
    refine WL.step (WO.callP isGo85 (.cons (.pl rfl) (.nil)) rfl (fun w hw => causal_causes_ok (hr15) w (SlIn.ofRow lenCall hw (i := 0) rfl)) ?_)
    refine WL.q (Y.move (.pl rfl)) rfl ?_
    refine WL.q (Y.extract (.pl rfl) rfl) rfl ?_
    refine WL.q (Y.extract (.pl rfl) rfl) rfl ?_
    refine WL.step (WO.alloc (cs := (encRel (Rel.mk 0 [])).toArray) zero99 rfl rfl fun b16 => ?_)
    refine WL.step (WO.storeBA (ds := (encRel (Rel.mk r15.1 r15.2.1))) (cs' := (encRel (Rel.mk r15.1 r15.2.1))) cells99 (.pl rfl) (.pl rfl) rfl (oneRel _) (i := 0) rfl (lel (o := 0) (l := 13) (m := 13) (by decide) rfl rfl) (putW rfl) ?_)
    refine WL.q (Y.assign (.pl rfl)) rfl ?_
    refine WL.next hQ7 (.cons (i := 4) rfl (.cons (i := 8) rfl (.nil))) ?_
    -- region 5: causal.go:71
    refine W.seqR fun Q8 hQ8 => ?_
    refine WL.q (Y.loadBA (ds := (encRel (Rel.mk r15.1 r15.2.1))) Try.underlying99 rfl cells99 (.pl rfl) (i := 0) rfl rfl subW) rfl ?_
    refine WL.step (WO.storeBA (ds := (encRel (Rel.mk r15.1 r15.2.1))) (cs' := (encRel (Rel.mk r15.1 r15.2.1))) cells99 (.pl rfl) (.pl rfl) rfl (oneRel _) (i := 2) rfl (lel (o := 0) (l := 13) (m := 13) (by decide) rfl rfl) (putW rfl) ?_)
    refine WL.q (Y.assign (.pl rfl)) rfl ?_
    refine WL.next hQ8 (.cons (i := 4) rfl (.cons (i := 5) rfl (.nil))) ?_
    obtain rfl := Option.some.inj hF
    refine W.retV (fn := Try.f89) (vs := [.agg (encRel (Rel.mk r15.1 r15.2.1)).toArray, .int .i64 0]) Try.results89 ⟨.cellA Try.underlying99 rfl cells99 rfl (i := 2) rfl rfl, ⟨.tmp rfl, trivial⟩⟩ (fun _ _ h => h) (fun w hw => ?_)
    exact hR _ _ ⟨rfl, (hw.pick [] rfl)⟩

def alibkeep_rel_L3 (N : Nat) (l2 : (List (List Int))) : ((List Int) × Int) → Option (((List Int) × Int) ⊕ (List Int))
  | (After10, v11) =>
    cond (decide (v11 < ((l2).length : Int)))
      (bd (ix l2 v11) fun (x12 : (List Int)) =>
      bd (ax 2 0 x12 0) fun (x14 : Int) =>
      bd (ax 12 0 After10 x14) fun (x15 : Int) =>
      bd (ax 2 0 x12 1) fun (x16 : Int) =>
      ck (decide (0 ≤ x16)) <|
      bd (ax 12 0 After10 x14) fun (x18 : Int) =>
      ck (ok64 (v11 + 1)) <|
      some (.inl ((setA 12 0 After10 x14 (borI .u16 x15 (shlI .u16 1 x16))), (v11 + 1))))
      (some (.inr After10))

def alibkeep_rel (N : Nat) (n1 : Int) (l2 : (List (List Int))) : Option (List Int) :=
  bd (α := (List Int)) (iter (alibkeep_rel_L3 N l2) N ([], 0)) <|
  fun (After9 : (List Int)) => 
    some After9

theorem alibkeep_rel_ok {N : Nat} {n1 : Int} {l2 : (List (List Int))} {res : (List Int)} (hF : alibkeep_rel N n1 l2 = some res) (w : World) {v6 : Value} (hs5 : SlIn (encA 2 (eI .i64) 0) 2 w v6 l2) :
    Pure Try.prog 90 [.int .i64 n1, v6] w (.agg (encRel (Rel.mk n1 res)).toArray) := by
  obtain ⟨A3, c4, rfl, hcc4, hs5⟩ := hs5.form
  refine W.enter (n := 29) Try.func90 rfl rfl Sub.refl (by simp) (St.start w) fun R hR => ?_
  unfold alibkeep_rel at hF
  -- region 0: order.go:13
  refine W.seqR fun Q1 hQ1 => ?_
  refine WL.step (WO.alloc (cs := (encRel (Rel.mk 0 [])).toArray) zero99 rfl rfl fun b7 => ?_)
  refine WL.next hQ1 (.cons (i := 0) rfl (.cons (i := 1) rfl (.cons (i := 4) rfl (.nil)))) ?_
  -- region 1: order.go:14
  refine W.seqR fun Q2 hQ2 => ?_
  refine WL.q (Y.move (.pl rfl)) rfl ?_
  refine WL.q (Y.build (cs := (encRel (Rel.mk n1 [])).toArray) shape99 (.cons (.pl rfl) (.nil)) (one_parts ⟨rfl, trivial⟩) rfl) rfl ?_
  refine WL.step (WO.alloc (cs := (encRel (Rel.mk 0 [])).toArray) zero99 rfl rfl fun b8 => ?_)
  refine WL.step (WO.storeBA (ds := (encRel (Rel.mk n1 []))) (cs' := (encRel (Rel.mk n1 []))) cells99 (.pl rfl) (.pl rfl) rfl (oneRel _) (i := 0) rfl (lel (o := 0) (l := 13) (m := 13) (by decide) rfl rfl) (putW rfl) ?_)
  refine WL.next hQ2 (.cons (i := 1) rfl (.cons (i := 4) rfl (.cons (i := 5) rfl (.nil)))) ?_
  obtain ⟨o3, hF3, hF⟩ := bnd hF
  refine W.join1 (Em := fun (After9 : (List Int)) => []) (M := fun After9 => [cBx b7 99 (encRel (Rel.mk 0 [])), cBx b8 99 (encRel (Rel.mk n1 After9))]) (I := fun After9 => After9 = o3) (.cons (i := 4) rfl (.cons (i := 5) rfl (.nil))) (fun K4 hK4 => ?_) ?_
  · -- up to
    -- region 2: order.go:15
    refine W.seqR fun Q5 hQ5 => ?_
    refine WL.q (Y.move (.pl rfl)) rfl ?_
    refine WL.q (Y.len Try.underlying155 (.pl rfl)) rfl ?_
    refine WL.q (Y.move (.pl rfl)) rfl ?_
    refine WL.next hQ5 (.cons (i := 4) rfl (.cons (i := 5) rfl (.cons (i := 10) rfl (.cons (i := 11) rfl (.cons (i := 12) rfl (.nil)))))) ?_
    refine W.block ?_
    refine W.loop2 (Em := fun (After10 : (List Int)) (v11 : Int) => [(12, .int .i64 v11)]) (M := fun After10 v11 => [cBx b7 99 (encRel (Rel.mk 0 [])), cBx b8 99 (encRel (Rel.mk n1 After10))]) (I := fun After10 v11 k6 => iter (alibkeep_rel_L3 N l2) k6 (After10, v11) = some o3) [] 0 N (hF3) (.cons rfl (.nil)) (.cons (i := 4) rfl (.cons (i := 5) rfl (.cons (i := 10) rfl (.cons (i := 11) rfl (.nil))))) (fun w hw => hw.pick [1, 0] rfl) (fun After10 v11 k6 hI K7 hK7 => ?_)
    obtain ⟨k6, t6, rfl, hF6, hN6⟩ := iter_step hI
    -- region 3: order.go:15
    refine W.seqR fun Q8 hQ8 => ?_
    refine WL.q (Y.lss (.pl rfl) (.pl rfl)) rfl ?_
    refine WL.next hQ8 (.cons (i := 4) rfl (.cons (i := 5) rfl (.cons (i := 10) rfl (.cons (i := 11) rfl (.cons (i := 12) rfl (.cons (i := 13) rfl (.nil))))))) ?_
    refine W.seq fun K9 hK9 => ?_
    refine W.cond (.pl rfl) (fun hC10 => ?_) (fun hC10 => ?_)
    · replace hF6 := cpos hC10 hF6
      refine W.skip ?_
      refine W.go hK9 (.cons (i := 4) rfl (.cons (i := 5) rfl (.cons (i := 10) rfl (.cons (i := 11) rfl (.cons (i := 12) rfl (.nil)))))) ?_
      refine W.seq fun K11 hK11 => ?_
      refine W.block ?_
      -- region 4: order.go:15
      refine W.seqR fun Q12 hQ12 => ?_
      obtain ⟨x12, hx12, hF6⟩ := bnd hF6
      refine WL.q (Y.slEl Try.underlying155 cells127 hs5 (.pl rfl) (.pl rfl) (ix_lt (hx12))) rfl ?_
      refine WL.q (Y.loadSA (enc := (encA 2 (eI .i64) 0)) (ds := ((encA 2 (eI .i64) 0) x12)) (j := 0) Try.underlying127 rfl cells127 hs5 (.pl rfl) (hx12) rfl rfl subW) rfl ?_
      refine WL.step (WO.alloc (cs := ((encA 2 (eI .i64) 0) []).toArray) zero127 rfl rfl fun b13 => ?_)
      refine WL.step (WO.storeBA (ds := ((encA 2 (eI .i64) 0) x12)) (cs' := ((encA 2 (eI .i64) 0) x12)) cells127 (.pl rfl) (.pl rfl) rfl ((oneA oneI) _) (i := 0) rfl (lel (o := 0) (l := 2) (m := 2) (by decide) rfl rfl) (putW rfl) ?_)
      refine WL.next hQ12 (.cons (i := 4) rfl (.cons (i := 5) rfl (.cons (i := 7) rfl (.cons (i := 10) rfl (.cons (i := 11) rfl (.cons (i := 12) rfl (.nil))))))) ?_
      -- region 5: order.go:16
      refine W.regT 11 (by kernel_rfl) (by kernel_rfl) ?_
      obtain ⟨x14, hx14, hF6⟩ := bnd hF6
      refine WS.q (Y.arrZ Try.underlying127 cells3 (.pl rfl) (.pl rfl) (ax_lt (hx14))) rfl ?_
      refine WS.q (Y.loadB (v := .int .i64 x14) Try.underlying3 rfl (.pl rfl) (i := 0) rfl (cellsA (pre := []) (off := 0) (post := []) (a := x12) (enc := (eI .i64)) (d := 0) (n := 2) (sz := 1) (j := 0) (fun _ => rfl) rfl (ax_nat (hx14)) (ax_get (hx14)) rfl)) rfl ?_
      refine WS.q (Y.fieldAddr0 (off := 1) (ft := 97) Try.underlying99 rfl cells97 (.pl rfl)) rfl ?_
      obtain ⟨x15, hx15, hF6⟩ := bnd hF6
      refine WS.q (Y.arrZ Try.underlying97 cells96 (.pl rfl) (.pl rfl) (ax_lt (hx15))) rfl ?_
      refine WS.q (Y.loadB (v := .int .u16 x15) Try.underlying96 rfl (.pl rfl) (i := 2) rfl (cellsA (pre := (Value.int .i64 n1 :: [])) (off := 1) (post := []) (a := After10) (enc := (eI .u16)) (d := 0) (n := 12) (sz := 1) (j := 0) (fun _ => rfl) rfl (ax_nat (hx15)) (ax_get (hx15)) rfl)) rfl ?_
      obtain ⟨x16, hx16, hF6⟩ := bnd hF6
      refine WS.q (Y.arrZ Try.underlying127 cells3 (.pl rfl) (.pl rfl) (ax_lt (hx16))) rfl ?_
      refine WS.q (Y.loadB (v := .int .i64 x16) Try.underlying3 rfl (.pl rfl) (i := 0) rfl (cellsA (pre := []) (off := 0) (post := []) (a := x12) (enc := (eI .i64)) (d := 0) (n := 2) (sz := 1) (j := 0) (fun _ => rfl) rfl (ax_nat (hx16)) (ax_get (hx16)) rfl)) rfl ?_
      obtain ⟨hk17, hF6⟩ := ckh hF6
      refine WS.q (Y.shl (.pl rfl) (.pl rfl) (of_decide_eq_true (hk17))) rfl ?_
      refine WS.q (Y.bor (.pl rfl) (.pl rfl)) rfl ?_
      refine WS.q (Y.fieldAddr0 (off := 1) (ft := 97) Try.underlying99 rfl cells97 (.pl rfl)) rfl ?_
      obtain ⟨x18, hx18, hF6⟩ := bnd hF6
      refine WS.q (Y.arrZ Try.underlying97 cells96 (.pl rfl) (.pl rfl) (ax_lt (hx18))) rfl ?_
      refine WS.tail ?_
      refine WL.step (WO.storeB (cs' := (encRel (Rel.mk n1 (setA 12 0 After10 x14 (borI .u16 x15 (shlI .u16 1 x16)))))) cells96 (.pl rfl) (.pl rfl) rfl (i := 2) rfl (ltl (m := 13) (offlt (off := 1) (sz := 1) (j := 0) (ax_nat (hx18)) (by decide)) rfl) (cellsSet (pre := (Value.int .i64 n1 :: [])) (off := 1) (post := []) (a := After10) (enc := (eI .u16)) (d := 0) (n := 12) (sz := 1) (j := 0) (x := x18) (x' := (borI .u16 x15 (shlI .u16 1 x16))) (fun _ => rfl) rfl (ax_lt (hx18)) (ax_get (hx18)) (by decide) rfl rfl) ?_)
      refine WL.nil ?_
      refine W.go hK11 (.cons (i := 4) rfl (.cons (i := 5) rfl (.cons (i := 10) rfl (.cons (i := 11) rfl (.cons (i := 12) rfl (.nil)))))) ?_
      -- region 6: order.go:15
      refine W.reg ?_
      obtain ⟨hk19, hF6⟩ := ckh hF6
      refine WL.q (Y.add (.pl rfl) (.pl rfl) (ok64_lt (hk19))) rfl ?_
      refine WL.q (Y.move (.pl rfl)) rfl ?_
      refine WL.nil ?_
      obtain rfl := Option.some.inj hF6
      exact W.again2 hK7 (setA 12 0 After10 x14 (borI .u16 x15 (shlI .u16 1 x16))) (v11 + 1) k6 hN6 (Nat.lt_succ_self _) (.cons rfl (.nil)) (.cons (i := 4) rfl (.cons (i := 5) rfl (.cons (i := 10) rfl (.cons (i := 11) rfl (.nil))))) (fun w hw => hw.pick [1, 2] rfl)
    · replace hF6 := cneg hC10 hF6
      refine W.exit ?_
      obtain rfl := Option.some.inj hF6
      exact W.joinAt1 hK4 After10 (einr hN6) (.nil) (.cons (i := 4) rfl (.cons (i := 5) rfl (.nil))) (fun w hw => hw.pick [0, 1] rfl)
  · -- behind
    rintro After9 rfl
    -- region 7: order.go:18
    refine W.seqR fun Q15 hQ15 => ?_
    refine WL.q (Y.loadBA (ds := (encRel (Rel.mk n1 After9))) Try.underlying99 rfl cells99 (.pl rfl) (i := 1) rfl rfl subW) rfl ?_
    refine WL.step (WO.storeBA (ds := (encRel (Rel.mk n1 After9))) (cs' := (encRel (Rel.mk n1 After9))) cells99 (.pl rfl) (.pl rfl) rfl (oneRel _) (i := 0) rfl (lel (o := 0) (l := 13) (m := 13) (by decide) rfl rfl) (putW rfl) ?_)
    refine WL.next hQ15 (.cons (i := 4) rfl (.nil)) ?_
    obtain rfl := Option.some.inj hF
    refine W.retV (fn := Try.f90) (vs := [.agg (encRel (Rel.mk n1 After9)).toArray]) Try.results90 ⟨.cellA Try.underlying99 rfl cells99 rfl (i := 0) rfl rfl, trivial⟩ (fun _ _ h => h) (fun w hw => ?_)
    exact hR _ _ ⟨rfl, (hw.pick [] rfl)⟩

def alibkeep_causalLives (N : Nat) : Option Bool :=
  bd (alibkeep_heard N) fun (r2 : Unit) =>
  bd (causal_Check N ([1, 1] : List Int) (((((([] : (List Event)) ++ ([(Event.mk 0 0 1 1), (Event.mk 0 0 0 0)] : List Event)) ++ ([(Event.mk 1 0 2 0), (Event.mk 1 0 0 1)] : List Event)) ++ ([(Event.mk 1 1 1 2), (Event.mk 1 1 0 0)] : List Event)) ++ ([(Event.mk 2 1 2 0), (Event.mk 2 1 0 2)] : List Event)) ++ ([(Event.mk 2 0 2 0), (Event.mk 2 0 0 0)] : List Event))) fun (r5 : (Bool × Bool × Int)) =>
  bd (alibkeep_heard N) fun (r6 : Unit) =>
  ck (slB ((((((([] : (List Event)) ++ ([(Event.mk 0 0 1 1), (Event.mk 0 0 0 0)] : List Event)) ++ ([(Event.mk 1 0 2 0), (Event.mk 1 0 0 1)] : List Event)) ++ ([(Event.mk 1 1 1 2), (Event.mk 1 1 0 0)] : List Event)) ++ ([(Event.mk 2 1 2 0), (Event.mk 2 1 0 2)] : List Event)) ++ ([(Event.mk 2 0 2 0), (Event.mk 2 0 0 0)] : List Event))).length 0 8) <|
  bd (causal_Check N ([1, 1] : List Int) ((((((([] : (List Event)) ++ ([(Event.mk 0 0 1 1), (Event.mk 0 0 0 0)] : List Event)) ++ ([(Event.mk 1 0 2 0), (Event.mk 1 0 0 1)] : List Event)) ++ ([(Event.mk 1 1 1 2), (Event.mk 1 1 0 0)] : List Event)) ++ ([(Event.mk 2 1 2 0), (Event.mk 2 1 0 2)] : List Event)) ++ ([(Event.mk 2 0 2 0), (Event.mk 2 0 0 0)] : List Event)).take (8 : Int).toNat)) fun (r10 : (Bool × Bool × Int)) =>
  bd (alibkeep_heard N) fun (r11 : Unit) =>
  ck (slB ((((((([] : (List Event)) ++ ([(Event.mk 0 0 1 1), (Event.mk 0 0 0 0)] : List Event)) ++ ([(Event.mk 1 0 2 0), (Event.mk 1 0 0 1)] : List Event)) ++ ([(Event.mk 1 1 1 2), (Event.mk 1 1 0 0)] : List Event)) ++ ([(Event.mk 2 1 2 0), (Event.mk 2 1 0 2)] : List Event)) ++ ([(Event.mk 2 0 2 0), (Event.mk 2 0 0 0)] : List Event))).length 0 6) <|
  bd (causal_Causes N ([1, 1] : List Int) ((((((([] : (List Event)) ++ ([(Event.mk 0 0 1 1), (Event.mk 0 0 0 0)] : List Event)) ++ ([(Event.mk 1 0 2 0), (Event.mk 1 0 0 1)] : List Event)) ++ ([(Event.mk 1 1 1 2), (Event.mk 1 1 0 0)] : List Event)) ++ ([(Event.mk 2 1 2 0), (Event.mk 2 1 0 2)] : List Event)) ++ ([(Event.mk 2 0 2 0), (Event.mk 2 0 0 0)] : List Event)).take (6 : Int).toNat)) fun (r15 : (Int × (List Int) × Int)) =>
  bd (α := Bool) (bd (alibkeep_ok N ([r5.2.2, r10.2.2, r15.2.2] : List Int)) fun (r19 : Bool) =>
    cond (((((r19 && (!r5.1)) && r5.2.1) && r10.1) && r10.2.1) == true)
      (bd (alibkeep_rel N 3 ([[0, 1], [0, 2], [1, 2]] : List (List Int))) fun (r21 : (List Int)) =>
      some (((((r19 && (!r5.1)) && r5.2.1) && r10.1) && r10.2.1) && (decide (r15.1 = 3) && eqA 12 r15.2.1 r21)))
      (some (((((r19 && (!r5.1)) && r5.2.1) && r10.1) && r10.2.1) && false))) <|
  fun (v17 : Bool) => 
    some v17

theorem alibkeep_causalLives_ok {N : Nat} {res : Bool} (hF : alibkeep_causalLives N = some res) (w : World) :
    Pure Try.prog 62 [] w (.bool res) := by
  refine W.enter (n := 60) Try.func62 rfl rfl Sub.refl (by simp) (St.start w) fun R hR => ?_
  unfold alibkeep_causalLives at hF
  -- region 0: causal.go:25
  refine W.seqR fun Q1 hQ1 => ?_
  refine WL.q (Y.assign (.pl rfl)) rfl ?_
  refine WL.next hQ1 (.nil) ?_
  -- region 1: causal.go:26
  refine W.seqR fun Q2 hQ2 => ?_
  refine WL.step (WO.bsliceC (enc := (eI .i64)) (ys := ([1, 1] : List Int)) Try.underlying22 bz3 (.cons (.pl rfl) (.cons (.pl rfl) (.nil))) rfl (fun _ => rfl) rfl rfl (by decide) (by decide) rfl fun b1 => ?_)
  refine WL.q (Y.assign (.pl rfl)) rfl ?_
  refine WL.next hQ2 (.cons (i := 1) rfl (.nil)) ?_
  -- region 2: causal.go:27
  refine W.seqR fun Q3 hQ3 => ?_
  refine WL.q (Y.move (.pl rfl)) rfl ?_
  obtain ⟨r2, hr2, hF⟩ := bnd hF
  refine WL.step (WO.callM isGo61 (.nil) rfl (fun w hw => alibkeep_heard_ok (hr2) w ) ?_)
  rintro ⟨A3, c4⟩ -
  obtain ⟨r5, hr5, hF⟩ := bnd hF
  refine WL.step (WO.callP isGo60 (.cons (.pl rfl) (.cons (.pl rfl) (.nil))) rfl (fun w hw => causal_Check_ok (hr5) w (SlIn.ofRow (fun _ => rfl) hw (i := 1) rfl) (SlIn.ofRow lenEvent hw (i := 0) rfl)) ?_)
  refine WL.q (Y.move (.pl rfl)) rfl ?_
  refine WL.q (Y.extract (.pl rfl) rfl) rfl ?_
  refine WL.q (Y.extract (.pl rfl) rfl) rfl ?_
  refine WL.q (Y.extract (.pl rfl) rfl) rfl ?_
  refine WL.q (Y.assign (.pl rfl)) rfl ?_
  refine WL.q (Y.assign (.pl rfl)) rfl ?_
  refine WL.q (Y.assign (.pl rfl)) rfl ?_
  refine WL.next hQ3 (.cons (i := 1) rfl (.cons (i := 2) rfl (.cons (i := 3) rfl (.cons (i := 4) rfl (.nil))))) ?_
  -- region 3: causal.go:28
  refine W.seqR fun Q4 hQ4 => ?_
  refine WL.q (Y.move (.pl rfl)) rfl ?_
  obtain ⟨r6, hr6, hF⟩ := bnd hF
  refine WL.step (WO.callM isGo61 (.nil) rfl (fun w hw => alibkeep_heard_ok (hr6) w ) ?_)
  rintro ⟨A7, c8⟩ -
  obtain ⟨hk9, hF⟩ := ckh hF
  refine WL.q (Y.sliceR0 Try.underlying43 cells49 (i := 0) rfl (.pl rfl) rfl (.pl rfl) (hk9)) rfl ?_
  obtain ⟨r10, hr10, hF⟩ := bnd hF
  refine WL.step (WO.callP isGo60 (.cons (.pl rfl) (.cons (.pl rfl) (.nil))) rfl (fun w hw => causal_Check_ok (hr10) w (SlIn.ofRow (fun _ => rfl) hw (i := 2) rfl) (SlIn.sub0 (SlIn.ofRow (enc := encEvent) (sz := 4) lenEvent hw (i := 0) rfl) (slB_nat0 (hk9)))) ?_)
  refine WL.q (Y.move (.pl rfl)) rfl ?_
  refine WL.q (Y.extract (.pl rfl) rfl) rfl ?_
  refine WL.q (Y.extract (.pl rfl) rfl) rfl ?_
  refine WL.q (Y.extract (.pl rfl) rfl) rfl ?_
  refine WL.q (Y.assign (.pl rfl)) rfl ?_
  refine WL.q (Y.assign (.pl rfl)) rfl ?_
  refine WL.q (Y.assign (.pl rfl)) rfl ?_
  refine WL.next hQ4 (.cons (i := 1) rfl (.cons (i := 2) rfl (.cons (i := 3) rfl (.cons (i := 4) rfl (.cons (i := 5) rfl (.cons (i := 6) rfl (.cons (i := 7) rfl (.nil)))))))) ?_
  -- region 4: causal.go:29
  refine W.seqR fun Q5 hQ5 => ?_
  refine WL.q (Y.move (.pl rfl)) rfl ?_
  obtain ⟨r11, hr11, hF⟩ := bnd hF
  refine WL.step (WO.callM isGo61 (.nil) rfl (fun w hw => alibkeep_heard_ok (hr11) w ) ?_)
  rintro ⟨A12, c13⟩ -
  obtain ⟨hk14, hF⟩ := ckh hF
  refine WL.q (Y.sliceR0 Try.underlying43 cells49 (i := 0) rfl (.pl rfl) rfl (.pl rfl) (hk14)) rfl ?_
  obtain ⟨r15, hr15, hF⟩ := bnd hF
  refine WL.step (WO.callP isGo89 (.cons (.pl rfl) (.cons (.pl rfl) (.nil))) rfl (fun w hw => causal_Causes_ok (hr15) w (SlIn.ofRow (fun _ => rfl) hw (i := 3) rfl) (SlIn.sub0 (SlIn.ofRow (enc := encEvent) (sz := 4) lenEvent hw (i := 0) rfl) (slB_nat0 (hk14)))) ?_)
  refine WL.q (Y.move (.pl rfl)) rfl ?_
  refine WL.q (Y.extract (.pl rfl) rfl) rfl ?_
  refine WL.q (Y.extract (.pl rfl) rfl) rfl ?_
  refine WL.step (WO.alloc (cs := (encRel (Rel.mk 0 [])).toArray) zero99 rfl rfl fun b16 => ?_)
  refine WL.step (WO.storeBA (ds := (encRel (Rel.mk r15.1 r15.2.1))) (cs' := (encRel (Rel.mk r15.1 r15.2.1))) cells99 (.pl rfl) (.pl rfl) rfl (oneRel _) (i := 0) rfl (lel (o := 0) (l := 13) (m := 13) (by decide) rfl rfl) (putW rfl) ?_)
  refine WL.q (Y.assign (.pl rfl)) rfl ?_
  refine WL.next hQ5 (.cons (i := 2) rfl (.cons (i := 3) rfl (.cons (i := 4) rfl (.cons (i := 5) rfl (.cons (i := 6) rfl (.cons (i := 7) rfl (.cons (i := 8) rfl (.cons (i := 9) rfl (.nil))))))))) ?_
  obtain ⟨o6, hF6, hF⟩ := bnd hF
  refine W.join1 (Em := fun (v17 : Bool) => [(0, .bool v17)]) (M := fun v17 => []) (I := fun v17 => v17 = o6) (.nil) (fun K7 hK7 => ?_) ?_
  · -- up to
    -- region 5: causal.go:30
    refine W.regX 27 (by kernel_rfl) ?_
    refine WX.pure 0 #[true, false, false, false, false, false, false, false, false, false, false, false, false, false, false, false, false, false, false, false, false, false, false, false, false, false, false, false] rfl (by kernel_rfl) (fun _ _ => Y.move (.pl rfl)) rfl ?_
    refine WX.pure 1 #[true, true, false, false, false, false, false, false, false, false, false, false, false, false, false, false, false, false, false, false, false, false, false, false, false, false, false, false] rfl (by kernel_rfl) (fun _ _ => Y.move (.pl rfl)) rfl ?_
    refine WX.pure 2 #[true, true, true, false, false, false, false, false, false, false, false, false, false, false, false, false, false, false, false, false, false, false, false, false, false, false, false, false] rfl (by kernel_rfl) (fun _ _ => Y.move (.pl rfl)) rfl ?_
    refine WX.one 3 #[true, true, true, true, false, false, false, false, false, false, false, false, false, false, false, false, false, false, false, false, false, false, false, false, false, false, false, false] (fun w hw => St.tail [] hw) rfl (by kernel_rfl) (WO.bsliceC (enc := (eI .i64)) (ys := ([r5.2.2, r10.2.2, r15.2.2] : List Int)) Try.underlying88 bz29 (.cons (.pl rfl) (.cons (.pl rfl) (.cons (.pl rfl) (.nil)))) rfl (fun _ => rfl) rfl rfl (by decide) (by decide) rfl fun b18 => ?_)
    obtain ⟨r19, hr19, hF6⟩ := bnd hF6
    refine WX.one 4 #[true, true, true, true, true, false, false, false, false, false, false, false, false, false, false, false, false, false, false, false, false, false, false, false, false, false, false, false] (fun w hw => St.tail [_] hw) rfl (by kernel_rfl) (WO.callP isGo28 (.cons (.pl rfl) (.nil)) rfl (fun w hw => alibkeep_ok_ok (hr19) w (SlIn.ofRow (fun _ => rfl) hw (i := 0) rfl)) ?_)
    refine WX.pure 5 #[true, true, true, true, true, true, false, false, false, false, false, false, false, false, false, false, false, false, false, false, false, false, false, false, false, false, false, false] rfl (by kernel_rfl) (fun _ _ => Y.move (.pl rfl)) rfl ?_
    refine WX.pureY 6 #[true, true, true, true, true, true, true, false, false, false, false, false, false, false, false, false, false, false, false, false, false, false, false, false, false, false, false, false] rfl (by kernel_rfl) (fun _ _ => Yg.g (.pl rfl rfl rfl) (fun hg => Y.move (.pl rfl))) rfl ?_
    refine WX.pureY 7 #[true, true, true, true, true, true, true, true, false, false, false, false, false, false, false, false, false, false, false, false, false, false, false, false, false, false, false, false] rfl (by kernel_rfl) (fun _ _ => Yg.g (.pl rfl rfl rfl) (fun hg => Y.not (.gd (hg) rfl))) rfl ?_
    refine WX.take 8 #[true, true, true, true, true, true, true, true, true, false, false, false, false, false, false, false, false, false, false, false, false, false, false, false, false, false, false, false] (fun w hw => St.tail [_] hw) rfl (by kernel_rfl) (Y.and (.pl rfl) (fun h2 => .gd (eqt h2) rfl)) rfl ?_
    refine WX.pure 9 #[true, true, true, true, true, true, true, true, true, true, false, false, false, false, false, false, false, false, false, false, false, false, false, false, false, false, false, false] rfl (by kernel_rfl) (fun _ _ => Y.move (.pl rfl)) rfl ?_
    refine WX.pureY 10 #[true, true, true, true, true, true, true, true, true, true, true, false, false, false, false, false, false, false, false, false, false, false, false, false, false, false, false, false] rfl (by kernel_rfl) (fun _ _ => Yg.g (.pl rfl rfl rfl) (fun hg => Y.move (.pl rfl))) rfl ?_
    refine WX.take 11 #[true, true, true, true, true, true, true, true, true, true, true, true, false, false, false, false, false, false, false, false, false, false, false, false, false, false, false, false] (fun w hw => St.tail [_] hw) rfl (by kernel_rfl) (Y.and (.pl rfl) (fun h2 => .gd (eqt h2) rfl)) rfl ?_
    refine WX.pure 12 #[true, true, true, true, true, true, true, true, true, true, true, true, true, false, false, false, false, false, false, false, false, false, false, false, false, false, false, false] rfl (by kernel_rfl) (fun _ _ => Y.move (.pl rfl)) rfl ?_
    refine WX.pureY 13 #[true, true, true, true, true, true, true, true, true, true, true, true, true, true, false, false, false, false, false, false, false, false, false, false, false, false, false, false] rfl (by kernel_rfl) (fun _ _ => Yg.g (.pl rfl rfl rfl) (fun hg => Y.move (.pl rfl))) rfl ?_
    refine WX.take 14 #[true, true, true, true, true, true, true, true, true, true, true, true, true, true, true, false, false, false, false, false, false, false, false, false, false, false, false, false] (fun w hw => St.tail [_] hw) rfl (by kernel_rfl) (Y.and (.pl rfl) (fun h2 => .gd (eqt h2) rfl)) rfl ?_
    refine WX.pure 15 #[true, true, true, true, true, true, true, true, true, true, true, true, true, true, true, true, false, false, false, false, false, false, false, false, false, false, false, false] rfl (by kernel_rfl) (fun _ _ => Y.move (.pl rfl)) rfl ?_
    refine WX.pureY 16 #[true, true, true, true, true, true, true, true, true, true, true, true, true, true, true, true, true, false, false, false, false, false, false, false, false, false, false, false] rfl (by kernel_rfl) (fun _ _ => Yg.g (.pl rfl rfl rfl) (fun hg => Y.move (.pl rfl))) rfl ?_
    refine WX.take 17 #[true, true, true, true, true, true, true, true, true, true, true, true, true, true, true, true, true, true, false, false, false, false, false, false, false, false, false, false] (fun w hw => St.tail [_] hw) rfl (by kernel_rfl) (Y.and (.pl rfl) (fun h2 => .gd (eqt h2) rfl)) rfl ?_
    refine WX.pure 18 #[true, true, true, true, true, true, true, true, true, true, true, true, true, true, true, true, true, true, true, false, false, false, false, false, false, false, false, false] rfl (by kernel_rfl) (fun _ _ => Y.move (.pl rfl)) rfl ?_
    refine WX.takeY 19 #[true, true, true, true, true, true, true, true, true, true, true, true, true, true, true, true, true, true, true, true, false, false, false, false, false, false, false, false] (fun w hw => St.tail [_] hw) rfl (by kernel_rfl) (Yg.g (.pl rfl rfl rfl) (fun hg => Y.loadBA (ds := (encRel (Rel.mk r15.1 r15.2.1))) Try.underlying99 rfl cells99 (.pl rfl) (i := 0) rfl rfl subW)) rfl ?_
    refine WX.pureY 20 #[true, true, true, true, true, true, true, true, true, true, true, true, true, true, true, true, true, true, true, true, true, false, false, false, false, false, false, false] rfl (by kernel_rfl) (fun _ _ => Yg.g (.pl rfl rfl rfl) (fun hg => Y.buildA (cs := ((encA 2 (eI .i64) 0) [0, 1]).toArray) Try.underlying127 cells3 azero127 (.cons (.pl rfl) (.cons (.pl rfl) (.nil))) rfl)) rfl ?_
    refine WX.pureY 21 #[true, true, true, true, true, true, true, true, true, true, true, true, true, true, true, true, true, true, true, true, true, true, false, false, false, false, false, false] rfl (by kernel_rfl) (fun _ _ => Yg.g (.pl rfl rfl rfl) (fun hg => Y.buildA (cs := ((encA 2 (eI .i64) 0) [0, 2]).toArray) Try.underlying127 cells3 azero127 (.cons (.pl rfl) (.cons (.pl rfl) (.nil))) rfl)) rfl ?_
    refine WX.pureY 22 #[true, true, true, true, true, true, true, true, true, true, true, true, true, true, true, true, true, true, true, true, true, true, true, false, false, false, false, false] rfl (by kernel_rfl) (fun _ _ => Yg.g (.pl rfl rfl rfl) (fun hg => Y.buildA (cs := ((encA 2 (eI .i64) 0) [1, 2]).toArray) Try.underlying127 cells3 azero127 (.cons (.pl rfl) (.cons (.pl rfl) (.nil))) rfl)) rfl ?_
    refine bsplit (((((r19 && (!r5.1)) && r5.2.1) && r10.1) && r10.2.1) == true) (fun hg9 => ?_) (fun hg9 => ?_)
    · replace hF6 := cpos hg9 hF6
      refine WX.one 23 #[true, true, true, true, true, true, true, true, true, true, true, true, true, true, true, true, true, true, true, true, true, true, true, true, false, false, false, false] (fun w hw => St.tail [_] hw) rfl (by kernel_rfl) (WO.gT (.pl rfl rfl rfl) (hg9) (WO.bsliceC (enc := (encA 2 (eI .i64) 0)) (ys := ([[0, 1], [0, 2], [1, 2]] : List (List Int))) Try.underlying155 bz127 (.cons (.gd (hg9) rfl) (.cons (.gd (hg9) rfl) (.cons (.gd (hg9) rfl) (.nil)))) rfl (fun _ => lenA (sz := 1) (fun _ => rfl)) rfl rfl (by decide) (by decide) rfl fun b20 => ?_))
      obtain ⟨r21, hr21, hF6⟩ := bnd hF6
      refine WX.one 24 #[true, true, true, true, true, true, true, true, true, true, true, true, true, true, true, true, true, true, true, true, true, true, true, true, true, false, false, false] (fun w hw => St.tail [_, _] hw) rfl (by kernel_rfl) (WO.gT (.pl rfl rfl rfl) (hg9) (WO.callP isGo90 (.cons (.pl rfl) (.cons (.pl rfl) (.nil))) rfl (fun w hw => alibkeep_rel_ok (hr21) w (SlIn.ofRow (fun _ => lenA (sz := 1) (fun _ => rfl)) hw (i := 0) rfl)) ?_))
      refine WX.pureY 25 #[true, true, true, true, true, true, true, true, true, true, true, true, true, true, true, true, true, true, true, true, true, true, true, true, true, true, false, false] rfl (by kernel_rfl) (fun _ _ => Yg.yes (.pl rfl rfl rfl) (hg9) (Y.eqlG eqg99 (.gd (hg9) rfl) (.pl rfl))) rfl ?_
      refine WX.take 26 #[true, true, true, true, true, true, true, true, true, true, true, true, true, true, true, true, true, true, true, true, true, true, true, true, true, true, true, false] (fun w hw => St.tail [_, _] hw) rfl (by kernel_rfl) (Y.and (.pl rfl) (fun _ => .pl rfl)) rfl ?_
      refine WX.stop #[true, true, true, true, true, true, true, true, true, true, true, true, true, true, true, true, true, true, true, true, true, true, true, true, true, true, true, true] (fun w hw => St.tail [_, _] hw) rfl (by kernel_rfl) (WO.q (Y.assign (.pl rfl)) rfl ?_)
      refine WA.done (by kernel_rfl) ?_
      exact W.joinAt1 hK7 (((((r19 && (!r5.1)) && r5.2.1) && r10.1) && r10.2.1) && (decide (r15.1 = 3) && eqA 12 r15.2.1 r21)) (Option.some.inj hF6) (.cons rfl (.nil)) (.nil) (fun w hw => hw.pick [] rfl)
    · replace hF6 := cneg hg9 hF6
      refine WX.one 23 #[true, true, true, true, true, true, true, true, true, true, true, true, true, true, true, true, true, true, true, true, true, true, true, true, false, false, false, false] (fun w hw => St.tail [_] hw) rfl (by kernel_rfl) (WO.gN (.pl rfl rfl rfl) hg9 rfl ?_)
      refine WX.one 24 #[true, true, true, true, true, true, true, true, true, true, true, true, true, true, true, true, true, true, true, true, true, true, true, true, true, false, false, false] (fun w hw => St.tail [_] hw) rfl (by kernel_rfl) (WO.gN (.pl rfl rfl rfl) hg9 rfl ?_)
      refine WX.pureY 25 #[true, true, true, true, true, true, true, true, true, true, true, true, true, true, true, true, true, true, true, true, true, true, true, true, true, true, false, false] rfl (by kernel_rfl) (fun _ _ => Yg.no (.pl rfl rfl rfl) hg9) rfl ?_
      refine WX.take 26 #[true, true, true, true, true, true, true, true, true, true, true, true, true, true, true, true, true, true, true, true, true, true, true, true, true, true, true, false] (fun w hw => St.tail [_] hw) rfl (by kernel_rfl) (Y.and (b := false) (.pl rfl) (fun h2 => (gabsA hg9 h2).elim)) rfl ?_
      refine WX.stop #[true, true, true, true, true, true, true, true, true, true, true, true, true, true, true, true, true, true, true, true, true, true, true, true, true, true, true, true] (fun w hw => St.tail [_] hw) rfl (by kernel_rfl) (WO.q (Y.assign (.pl rfl)) rfl ?_)
      refine WA.done (by kernel_rfl) ?_
      exact W.joinAt1 hK7 (((((r19 && (!r5.1)) && r5.2.1) && r10.1) && r10.2.1) && false) (Option.some.inj hF6) (.cons rfl (.nil)) (.nil) (fun w hw => hw.pick [] rfl)
  · -- behind
    rintro v17 rfl
    obtain rfl := Option.some.inj hF
    refine W.retV (fn := Try.f62) (vs := [.bool v17]) Try.results62 ⟨.tmp rfl, trivial⟩ (fun _ _ h => h) (fun w hw => ?_)
    exact hR _ _ ⟨rfl, (hw.pick [] rfl)⟩

def alibkeep_CausalWeaker (N : Nat) (types1 : (List Int)) (l6 : (List Event)) : Option Bool :=
  bd (causal_Check N types1 l6) fun (r11 : (Bool × Bool × Int)) =>
  bd (seq_Find N types1 l6) fun (r12 : ((List Step) × Bool × Int)) =>
  bd (search_Find N types1 l6) fun (r15 : ((List Step) × Bool × Int)) =>
  bd (α := Bool) (bd (alibkeep_causalLives N) fun (r19 : Bool) =>
    cond ((!r19) == false)
      (bd (alibkeep_ok N ([r11.2.2, r12.2.2, r15.2.2] : List Int)) fun (r21 : Bool) =>
      some ((!r19) || (!r21)))
      (some ((!r19) || false))) <|
  fun (v18 : Bool) => 
    cond v18
      (bd (alibkeep_causalLives N) fun (r22 : Bool) =>
      some r22)
      (some ((((!r15.2.1) || r12.2.1) && ((!r12.2.1) || r11.1)) && ((!r11.1) || r11.2.1)))

theorem alibkeep_CausalWeaker_ok {N : Nat} {types1 : (List Int)} {l6 : (List Event)} {res : Bool} (hF : alibkeep_CausalWeaker N types1 l6 = some res) (w : World) {v5 : Value} (hs4 : SlIn (eI .i64) 1 w v5 types1) {v10 : Value} (hs9 : SlIn encEvent 4 w v10 l6) :
    Pure Try.prog 23 [v5, v10] w (.bool res) := by
  obtain ⟨A2, c3, rfl, hcc3, hs4⟩ := hs4.form
  obtain ⟨A7, c8, rfl, hcc8, hs9⟩ := hs9.form
  refine W.enter (n := 65) Try.func23 rfl rfl Sub.refl (by simp) (St.start w) fun R hR => ?_
  unfold alibkeep_CausalWeaker at hF
  -- region 0: causal.go:34
  refine W.seqR fun Q1 hQ1 => ?_
  refine WL.q (Y.assign (.pl rfl)) rfl ?_
  refine WL.next hQ1 (.cons (i := 0) rfl (.cons (i := 1) rfl (.nil))) ?_
  -- region 1: causal.go:35
  refine W.seqR fun Q2 hQ2 => ?_
  refine WL.q (Y.move (.pl rfl)) rfl ?_
  refine WL.q (Y.move (.pl rfl)) rfl ?_
  obtain ⟨r11, hr11, hF⟩ := bnd hF
  refine WL.step (WO.callP isGo60 (.cons (.pl rfl) (.cons (.pl rfl) (.nil))) rfl (fun w hw => causal_Check_ok (hr11) w (hs4.mono hw) (hs9.mono hw)) ?_)
  refine WL.q (Y.move (.pl rfl)) rfl ?_
  refine WL.q (Y.extract (.pl rfl) rfl) rfl ?_
  refine WL.q (Y.extract (.pl rfl) rfl) rfl ?_
  refine WL.q (Y.extract (.pl rfl) rfl) rfl ?_
  refine WL.q (Y.assign (.pl rfl)) rfl ?_
  refine WL.q (Y.assign (.pl rfl)) rfl ?_
  refine WL.q (Y.assign (.pl rfl)) rfl ?_
  refine WL.next hQ2 (.cons (i := 0) rfl (.cons (i := 1) rfl (.cons (i := 5) rfl (.cons (i := 6) rfl (.cons (i := 7) rfl (.nil)))))) ?_
  -- region 2: causal.go:36
  refine W.seqR fun Q3 hQ3 => ?_
  refine WL.q (Y.move (.pl rfl)) rfl ?_
  refine WL.q (Y.move (.pl rfl)) rfl ?_
  obtain ⟨r12, hr12, hF⟩ := bnd hF
  refine WL.step (WO.callM isGo46 (.cons (.pl rfl) (.cons (.pl rfl) (.nil))) rfl (fun w hw => seq_Find_ok (hr12) w (hs4.mono hw) (hs9.mono hw)) ?_)
  rintro ⟨A13, c14⟩ -
  refine WL.q (Y.move (.pl rfl)) rfl ?_
  refine WL.q (Y.extract (.pl rfl) rfl) rfl ?_
  refine WL.q (Y.extract (.pl rfl) rfl) rfl ?_
  refine WL.q (Y.extract (.pl rfl) rfl) rfl ?_
  refine WL.q (Y.assign (.pl rfl)) rfl ?_
  refine WL.q (Y.assign (.pl rfl)) rfl ?_
  refine WL.q (Y.assign (.pl rfl)) rfl ?_
  refine WL.next hQ3 (.cons (i := 0) rfl (.cons (i := 1) rfl (.cons (i := 5) rfl (.cons (i := 6) rfl (.cons (i := 7) rfl (.cons (i := 9) rfl (.cons (i := 10) rfl (.nil)))))))) ?_
  -- region 3: causal.go:37
  refine W.seqR fun Q4 hQ4 => ?_
  refine WL.q (Y.move (.pl rfl)) rfl ?_
  refine WL.q (Y.move (.pl rfl)) rfl ?_
  obtain ⟨r15, hr15, hF⟩ := bnd hF
  refine WL.step (WO.callM isGo34 (.cons (.pl rfl) (.cons (.pl rfl) (.nil))) rfl (fun w hw => search_Find_ok (hr15) w (hs4.mono hw) (hs9.mono hw)) ?_)
  rintro ⟨A16, c17⟩ -
  refine WL.q (Y.move (.pl rfl)) rfl ?_
  refine WL.q (Y.extract (.pl rfl) rfl) rfl ?_
  refine WL.q (Y.extract (.pl rfl) rfl) rfl ?_
  refine WL.q (Y.extract (.pl rfl) rfl) rfl ?_
  refine WL.q (Y.assign (.pl rfl)) rfl ?_
  refine WL.q (Y.assign (.pl rfl)) rfl ?_
  refine WL.q (Y.assign (.pl rfl)) rfl ?_
  refine WL.next hQ4 (.cons (i := 5) rfl (.cons (i := 6) rfl (.cons (i := 7) rfl (.cons (i := 9) rfl (.cons (i := 10) rfl (.cons (i := 12) rfl (.cons (i := 13) rfl (.nil)))))))) ?_
  refine W.seq fun K5 hK5 => ?_
  obtain ⟨o6, hF6, hF⟩ := bnd hF
  refine W.join1 (Em := fun (v18 : Bool) => [(44, .bool v18)]) (M := fun v18 => []) (I := fun v18 => v18 = o6) (.cons (i := 5) rfl (.cons (i := 6) rfl (.cons (i := 9) rfl (.cons (i := 12) rfl (.nil))))) (fun K7 hK7 => ?_) ?_
  · -- up to
    -- region 4: causal.go:38
    refine W.reg ?_
    obtain ⟨r19, hr19, hF6⟩ := bnd hF6
    refine WL.step (WO.callP isGo62 (.nil) rfl (fun w hw => alibkeep_causalLives_ok (hr19) w ) ?_)
    refine WL.q (Y.not (.pl rfl)) rfl ?_
    refine WL.q (Y.move (.pl rfl)) rfl ?_
    refine WL.g (.pl rfl rfl rfl) (fun hg => Y.move (.pl rfl)) rfl ?_
    refine WL.g (.pl rfl rfl rfl) (fun hg => Y.move (.pl rfl)) rfl ?_
    refine WL.g (.pl rfl rfl rfl) (fun hg => Y.move (.pl rfl)) rfl ?_
    refine bsplit ((!r19) == false) (fun hg8 => ?_) (fun hg8 => ?_)
    · replace hF6 := cpos hg8 hF6
      refine WL.gd (.pl rfl rfl rfl) (hg8) ?_
      refine WL.step (WO.bsliceC (enc := (eI .i64)) (ys := ([r11.2.2, r12.2.2, r15.2.2] : List Int)) Try.underlying88 bz29 (.cons (.gd (hg8) rfl) (.cons (.gd (hg8) rfl) (.cons (.gd (hg8) rfl) (.nil)))) rfl (fun _ => rfl) rfl rfl (by decide) (by decide) rfl fun b20 => ?_)
      refine WL.gd (.pl rfl rfl rfl) (hg8) ?_
      obtain ⟨r21, hr21, hF6⟩ := bnd hF6
      refine WL.step (WO.callP isGo28 (.cons (.pl rfl) (.nil)) rfl (fun w hw => alibkeep_ok_ok (hr21) w (SlIn.ofRow (fun _ => rfl) hw (i := 0) rfl)) ?_)
      refine WL.gd (.pl rfl rfl rfl) (hg8) ?_
      refine WL.q (Y.not (.pl rfl)) rfl ?_
      refine WL.q (Y.or (.pl rfl) (fun _ => .pl rfl)) rfl ?_
      refine WL.nil ?_
      exact W.joinAt1 hK7 ((!r19) || (!r21)) (Option.some.inj hF6) (.cons rfl (.nil)) (.cons (i := 5) rfl (.cons (i := 6) rfl (.cons (i := 9) rfl (.cons (i := 12) rfl (.nil))))) (fun w hw => hw.pick [] rfl)
    · replace hF6 := cneg hg8 hF6
      refine WL.gn (.pl rfl rfl rfl) hg8 rfl ?_
      refine WL.gn (.pl rfl rfl rfl) hg8 rfl ?_
      refine WL.gn (.pl rfl rfl rfl) hg8 rfl ?_
      refine WL.q (Y.or (b := false) (.pl rfl) (fun h2 => (gabsO hg8 h2).elim)) rfl ?_
      refine WL.nil ?_
      exact W.joinAt1 hK7 ((!r19) || false) (Option.some.inj hF6) (.cons rfl (.nil)) (.cons (i := 5) rfl (.cons (i := 6) rfl (.cons (i := 9) rfl (.cons (i := 12) rfl (.nil))))) (fun w hw => hw.pick [] rfl)
  · -- behind
    rintro v18 rfl
    refine W.cond (.pl rfl) (fun hC9 => ?_) (fun hC9 => ?_)
    · replace hF := cpos hC9 hF
      -- region 5: causal.go:39
      refine W.seqR fun Q10 hQ10 => ?_
      obtain ⟨r22, hr22, hF⟩ := bnd hF
      refine WL.step (WO.callP isGo62 (.nil) rfl (fun w hw => alibkeep_causalLives_ok (hr22) w ) ?_)
      refine WL.q (Y.assign (.pl rfl)) rfl ?_
      refine WL.next hQ10 (.cons (i := 4) rfl (.nil)) ?_
      obtain rfl := Option.some.inj hF
      refine W.retV (fn := Try.f23) (vs := [.bool r22]) Try.results23 ⟨.tmp rfl, trivial⟩ (fun _ _ h => h) (fun w hw => ?_)
      exact hR _ _ ⟨rfl, (hw.pick [] rfl)⟩
    · replace hF := cneg hC9 hF
      refine W.skip ?_
      refine W.go hK5 (.cons (i := 5) rfl (.cons (i := 6) rfl (.cons (i := 9) rfl (.cons (i := 12) rfl (.nil))))) ?_
      -- region 6: causal.go:41
      refine W.seqR fun Q11 hQ11 => ?_
      refine WL.q (Y.move (.pl rfl)) rfl ?_
      refine WL.q (Y.not (.pl rfl)) rfl ?_
      refine WL.q (Y.move (.pl rfl)) rfl ?_
      refine WL.g (.pl rfl rfl rfl) (fun hg => Y.move (.pl rfl)) rfl ?_
      refine WL.q (Y.or (.pl rfl) (fun h2 => .gd (eqf h2) rfl)) rfl ?_
      refine WL.q (Y.move (.pl rfl)) rfl ?_
      refine WL.g (.pl rfl rfl rfl) (fun hg => Y.move (.pl rfl)) rfl ?_
      refine WL.g (.pl rfl rfl rfl) (fun hg => Y.not (.gd (hg) rfl)) rfl ?_
      refine WL.g (.pl rfl rfl rfl) (fun hg => Y.move (.gd (hg) rfl)) rfl ?_
      refine WL.g (.gd rfl rfl rfl) (fun hg => Y.move (.pl rfl)) rfl ?_
      refine WL.g (.pl rfl rfl rfl) (fun hg => Y.or (.gd (hg) rfl) (fun h2 => .gd (band hg (eqf h2)) rfl)) rfl ?_
      refine WL.q (Y.and (.pl rfl) (fun h2 => .gd (eqt h2) rfl)) rfl ?_
      refine WL.q (Y.move (.pl rfl)) rfl ?_
      refine WL.g (.pl rfl rfl rfl) (fun hg => Y.move (.pl rfl)) rfl ?_
      refine WL.g (.pl rfl rfl rfl) (fun hg => Y.not (.gd (hg) rfl)) rfl ?_
      refine WL.g (.pl rfl rfl rfl) (fun hg => Y.move (.gd (hg) rfl)) rfl ?_
      refine WL.g (.gd rfl rfl rfl) (fun hg => Y.move (.pl rfl)) rfl ?_
      refine WL.g (.pl rfl rfl rfl) (fun hg => Y.or (.gd (hg) rfl) (fun h2 => .gd (band hg (eqf h2)) rfl)) rfl ?_
      refine WL.q (Y.and (.pl rfl) (fun h2 => .gd (eqt h2) rfl)) rfl ?_
      refine WL.q (Y.assign (.pl rfl)) rfl ?_
      refine WL.next hQ11 (.cons (i := 4) rfl (.nil)) ?_
      obtain rfl := Option.some.inj hF
      refine W.retV (fn := Try.f23) (vs := [.bool ((((!r15.2.1) || r12.2.1) && ((!r12.2.1) || r11.1)) && ((!r11.1) || r11.2.1))]) Try.results23 ⟨.tmp rfl, trivial⟩ (fun _ _ h => h) (fun w hw => ?_)
      exact hR _ _ ⟨rfl, (hw.pick [] rfl)⟩

def alibkeep_CausalAlone_L3 (N : Nat) (r15 : ((List Call) × Int × Int)) : Int → Option (Int ⊕ (Unit ⊕ Bool))
  | v23 =>
    cond (decide (v23 < ((r15.1).length : Int)))
      (bd (ix r15.1 v23) fun (x24 : Call) =>
      bd (ix r15.1 0) fun (x26 : Call) =>
      cond (!(decide (x24.who = x26.who)))
        (some (.inr (.inr true)))
        (ck (ok64 (v23 + 1)) <|
        some (.inl (v23 + 1))))
      (some (.inr (.inl ())))

def alibkeep_CausalAlone (N : Nat) (types1 : (List Int)) (l6 : (List Event)) : Option Bool :=
  bd (causal_Check N types1 l6) fun (r11 : (Bool × Bool × Int)) =>
  bd (search_Find N types1 l6) fun (r12 : ((List Step) × Bool × Int)) =>
  bd (history_Calls N types1 l6) fun (r15 : ((List Call) × Int × Int)) =>
  bd (α := Bool) (bd (alibkeep_causalLives N) fun (r19 : Bool) =>
    cond ((!r19) == false)
      (bd (alibkeep_ok N ([r11.2.2, r12.2.2, r15.2.2] : List Int)) fun (r21 : Bool) =>
      some ((!r19) || (!r21)))
      (some ((!r19) || false))) <|
  fun (v18 : Bool) => 
    cond v18
      (bd (alibkeep_causalLives N) fun (r22 : Bool) =>
      some r22)
      (bd (α := (Unit ⊕ Bool)) (iter (alibkeep_CausalAlone_L3 N r15) N 0) <|
      Sum.elim (fun _ => 
        some ((r11.1 == r12.2.1) && (r11.2.1 == r12.2.1))) (fun p => some p))

theorem alibkeep_CausalAlone_ok {N : Nat} {types1 : (List Int)} {l6 : (List Event)} {res : Bool} (hF : alibkeep_CausalAlone N types1 l6 = some res) (w : World) {v5 : Value} (hs4 : SlIn (eI .i64) 1 w v5 types1) {v10 : Value} (hs9 : SlIn encEvent 4 w v10 l6) :
    Pure Try.prog 22 [v5, v10] w (.bool res) := by
  obtain ⟨A2, c3, rfl, hcc3, hs4⟩ := hs4.form
  obtain ⟨A7, c8, rfl, hcc8, hs9⟩ := hs9.form
  refine W.enter (n := 70) Try.func22 rfl rfl Sub.refl (by simp) (St.start w) fun R hR => ?_
  unfold alibkeep_CausalAlone at hF
  -- region 0: causal.go:76
  refine W.seqR fun Q1 hQ1 => ?_
  refine WL.q (Y.assign (.pl rfl)) rfl ?_
  refine WL.next hQ1 (.cons (i := 0) rfl (.cons (i := 1) rfl (.nil))) ?_
  -- region 1: causal.go:77
  refine W.seqR fun Q2 hQ2 => ?_
  refine WL.q (Y.move (.pl rfl)) rfl ?_
  refine WL.q (Y.move (.pl rfl)) rfl ?_
  obtain ⟨r11, hr11, hF⟩ := bnd hF
  refine WL.step (WO.callP isGo60 (.cons (.pl rfl) (.cons (.pl rfl) (.nil))) rfl (fun w hw => causal_Check_ok (hr11) w (hs4.mono hw) (hs9.mono hw)) ?_)
  refine WL.q (Y.move (.pl rfl)) rfl ?_
  refine WL.q (Y.extract (.pl rfl) rfl) rfl ?_
  refine WL.q (Y.extract (.pl rfl) rfl) rfl ?_
  refine WL.q (Y.extract (.pl rfl) rfl) rfl ?_
  refine WL.q (Y.assign (.pl rfl)) rfl ?_
  refine WL.q (Y.assign (.pl rfl)) rfl ?_
  refine WL.q (Y.assign (.pl rfl)) rfl ?_
  refine WL.next hQ2 (.cons (i := 0) rfl (.cons (i := 1) rfl (.cons (i := 5) rfl (.cons (i := 6) rfl (.cons (i := 7) rfl (.nil)))))) ?_
  -- region 2: causal.go:78
  refine W.seqR fun Q3 hQ3 => ?_
  refine WL.q (Y.move (.pl rfl)) rfl ?_
  refine WL.q (Y.move (.pl rfl)) rfl ?_
  obtain ⟨r12, hr12, hF⟩ := bnd hF
  refine WL.step (WO.callM isGo34 (.cons (.pl rfl) (.cons (.pl rfl) (.nil))) rfl (fun w hw => search_Find_ok (hr12) w (hs4.mono hw) (hs9.mono hw)) ?_)
  rintro ⟨A13, c14⟩ -
  refine WL.q (Y.move (.pl rfl)) rfl ?_
  refine WL.q (Y.extract (.pl rfl) rfl) rfl ?_
  refine WL.q (Y.extract (.pl rfl) rfl) rfl ?_
  refine WL.q (Y.extract (.pl rfl) rfl) rfl ?_
  refine WL.q (Y.assign (.pl rfl)) rfl ?_
  refine WL.q (Y.assign (.pl rfl)) rfl ?_
  refine WL.q (Y.assign (.pl rfl)) rfl ?_
  refine WL.next hQ3 (.cons (i := 0) rfl (.cons (i := 1) rfl (.cons (i := 5) rfl (.cons (i := 6) rfl (.cons (i := 7) rfl (.cons (i := 9) rfl (.cons (i := 10) rfl (.nil)))))))) ?_
  -- region 3: causal.go:79
  refine W.seqR fun Q4 hQ4 => ?_
  refine WL.q (Y.move (.pl rfl)) rfl ?_
  refine WL.q (Y.move (.pl rfl)) rfl ?_
  obtain ⟨r15, hr15, hF⟩ := bnd hF
  refine WL.step (WO.callM isGo37 (.cons (.pl rfl) (.cons (.pl rfl) (.nil))) rfl (fun w hw => history_Calls_ok (hr15) w (hs4.mono hw) (hs9.mono hw)) ?_)
  rintro ⟨A16, c17⟩ -
  refine WL.q (Y.move (.pl rfl)) rfl ?_
  refine WL.q (Y.extract (.pl rfl) rfl) rfl ?_
  refine WL.q (Y.extract (.pl rfl) rfl) rfl ?_
  refine WL.q (Y.extract (.pl rfl) rfl) rfl ?_
  refine WL.q (Y.assign (.pl rfl)) rfl ?_
  refine WL.q (Y.assign (.pl rfl)) rfl ?_
  refine WL.q (Y.assign (.pl rfl)) rfl ?_
  refine WL.next hQ4 (.cons (i := 5) rfl (.cons (i := 6) rfl (.cons (i := 7) rfl (.cons (i := 9) rfl (.cons (i := 10) rfl (.cons (i := 11) rfl (.cons (i := 13) rfl (.nil)))))))) ?_
  refine W.seq fun K5 hK5 => ?_
  obtain ⟨o6, hF6, hF⟩ := bnd hF
  refine W.join1 (Em := fun (v18 : Bool) => [(46, .bool v18)]) (M := fun v18 => [cR encCall 7 A16 c17 55 r15.1]) (I := fun v18 => v18 = o6) (.cons (i := 5) rfl (.cons (i := 6) rfl (.cons (i := 9) rfl (.cons (i := 11) rfl (.nil))))) (fun K7 hK7 => ?_) ?_
  · -- up to
    -- region 4: causal.go:80
    refine W.reg ?_
    obtain ⟨r19, hr19, hF6⟩ := bnd hF6
    refine WL.step (WO.callP isGo62 (.nil) rfl (fun w hw => alibkeep_causalLives_ok (hr19) w ) ?_)
    refine WL.q (Y.not (.pl rfl)) rfl ?_
    refine WL.q (Y.move (.pl rfl)) rfl ?_
    refine WL.g (.pl rfl rfl rfl) (fun hg => Y.move (.pl rfl)) rfl ?_
    refine WL.g (.pl rfl rfl rfl) (fun hg => Y.move (.pl rfl)) rfl ?_
    refine WL.g (.pl rfl rfl rfl) (fun hg => Y.move (.pl rfl)) rfl ?_
    refine bsplit ((!r19) == false) (fun hg8 => ?_) (fun hg8 => ?_)
    · replace hF6 := cpos hg8 hF6
      refine WL.gd (.pl rfl rfl rfl) (hg8) ?_
      refine WL.step (WO.bsliceC (enc := (eI .i64)) (ys := ([r11.2.2, r12.2.2, r15.2.2] : List Int)) Try.underlying88 bz29 (.cons (.gd (hg8) rfl) (.cons (.gd (hg8) rfl) (.cons (.gd (hg8) rfl) (.nil)))) rfl (fun _ => rfl) rfl rfl (by decide) (by decide) rfl fun b20 => ?_)
      refine WL.gd (.pl rfl rfl rfl) (hg8) ?_
      obtain ⟨r21, hr21, hF6⟩ := bnd hF6
      refine WL.step (WO.callP isGo28 (.cons (.pl rfl) (.nil)) rfl (fun w hw => alibkeep_ok_ok (hr21) w (SlIn.ofRow (fun _ => rfl) hw (i := 0) rfl)) ?_)
      refine WL.gd (.pl rfl rfl rfl) (hg8) ?_
      refine WL.q (Y.not (.pl rfl)) rfl ?_
      refine WL.q (Y.or (.pl rfl) (fun _ => .pl rfl)) rfl ?_
      refine WL.nil ?_
      exact W.joinAt1 hK7 ((!r19) || (!r21)) (Option.some.inj hF6) (.cons rfl (.nil)) (.cons (i := 5) rfl (.cons (i := 6) rfl (.cons (i := 9) rfl (.cons (i := 11) rfl (.nil))))) (fun w hw => hw.pick [1] rfl)
    · replace hF6 := cneg hg8 hF6
      refine WL.gn (.pl rfl rfl rfl) hg8 rfl ?_
      refine WL.gn (.pl rfl rfl rfl) hg8 rfl ?_
      refine WL.gn (.pl rfl rfl rfl) hg8 rfl ?_
      refine WL.q (Y.or (b := false) (.pl rfl) (fun h2 => (gabsO hg8 h2).elim)) rfl ?_
      refine WL.nil ?_
      exact W.joinAt1 hK7 ((!r19) || false) (Option.some.inj hF6) (.cons rfl (.nil)) (.cons (i := 5) rfl (.cons (i := 6) rfl (.cons (i := 9) rfl (.cons (i := 11) rfl (.nil))))) (fun w hw => hw.pick [0] rfl)
  · -- behind
    rintro v18 rfl
    refine W.cond (.pl rfl) (fun hC9 => ?_) (fun hC9 => ?_)
    · replace hF := cpos hC9 hF
      -- region 5: causal.go:81
      refine W.seqR fun Q10 hQ10 => ?_
      obtain ⟨r22, hr22, hF⟩ := bnd hF
      refine WL.step (WO.callP isGo62 (.nil) rfl (fun w hw => alibkeep_causalLives_ok (hr22) w ) ?_)
      refine WL.q (Y.assign (.pl rfl)) rfl ?_
      refine WL.next hQ10 (.cons (i := 4) rfl (.nil)) ?_
      obtain rfl := Option.some.inj hF
      refine W.retV (fn := Try.f22) (vs := [.bool r22]) Try.results22 ⟨.tmp rfl, trivial⟩ (fun _ _ h => h) (fun w hw => ?_)
      exact hR _ _ ⟨rfl, (hw.pick [] rfl)⟩
    · replace hF := cneg hC9 hF
      refine W.skip ?_
      refine W.go hK5 (.cons (i := 5) rfl (.cons (i := 6) rfl (.cons (i := 9) rfl (.cons (i := 11) rfl (.nil))))) ?_
      obtain ⟨o11, hF11, hF⟩ := bnd hF
      refine W.join0 (Em := []) (M := []) (I := (.inl ()) = o11) (.cons (i := 5) rfl (.cons (i := 6) rfl (.cons (i := 9) rfl (.nil)))) (fun K12 hK12 => ?_) ?_
      · -- up to
        -- region 6: causal.go:83
        refine W.seqR fun Q13 hQ13 => ?_
        refine WL.q (Y.move (.pl rfl)) rfl ?_
        refine WL.q (Y.len Try.underlying51 (.pl rfl)) rfl ?_
        refine WL.q (Y.move (.pl rfl)) rfl ?_
        refine WL.next hQ13 (.cons (i := 5) rfl (.cons (i := 6) rfl (.cons (i := 9) rfl (.cons (i := 11) rfl (.cons (i := 48) rfl (.cons (i := 49) rfl (.cons (i := 50) rfl (.nil)))))))) ?_
        refine W.block ?_
        refine W.loop1 (Em := fun (v23 : Int) => [(50, .int .i64 v23)]) (M := fun v23 => [cR encCall 7 A16 c17 55 r15.1]) (I := fun v23 k14 => iter (alibkeep_CausalAlone_L3 N r15) k14 v23 = some o11) 0 N (hF11) (.cons rfl (.nil)) (.cons (i := 5) rfl (.cons (i := 6) rfl (.cons (i := 9) rfl (.cons (i := 11) rfl (.cons (i := 48) rfl (.cons (i := 49) rfl (.nil))))))) (fun w hw => hw.pick [0] rfl) (fun v23 k14 hI K15 hK15 => ?_)
        obtain ⟨k14, t14, rfl, hF14, hN14⟩ := iter_step hI
        -- region 7: causal.go:83
        refine W.seqR fun Q16 hQ16 => ?_
        refine WL.q (Y.lss (.pl rfl) (.pl rfl)) rfl ?_
        refine WL.next hQ16 (.cons (i := 5) rfl (.cons (i := 6) rfl (.cons (i := 9) rfl (.cons (i := 11) rfl (.cons (i := 48) rfl (.cons (i := 49) rfl (.cons (i := 50) rfl (.cons (i := 51) rfl (.nil))))))))) ?_
        refine W.seq fun K17 hK17 => ?_
        refine W.cond (.pl rfl) (fun hC18 => ?_) (fun hC18 => ?_)
        · replace hF14 := cpos hC18 hF14
          refine W.skip ?_
          refine W.go hK17 (.cons (i := 5) rfl (.cons (i := 6) rfl (.cons (i := 9) rfl (.cons (i := 11) rfl (.cons (i := 48) rfl (.cons (i := 49) rfl (.cons (i := 50) rfl (.nil)))))))) ?_
          refine W.seq fun K19 hK19 => ?_
          refine W.block ?_
          -- region 8: causal.go:83
          refine W.seqR fun Q20 hQ20 => ?_
          obtain ⟨x24, hx24, hF14⟩ := bnd hF14
          refine WL.q (Y.rowEl Try.underlying51 cells55 (i := 0) rfl (.pl rfl) rfl (.pl rfl) (ix_lt (hx24))) rfl ?_
          refine WL.q (Y.loadRA (enc := encCall) (ds := (encCall x24)) (a := x24) (idx := v23) (j := 0) Try.underlying55 rfl cells55 lenCall (i := 0) rfl (.pl rfl) (ix_get (hx24)) rfl rfl subW) rfl ?_
          refine WL.step (WO.alloc (cs := (encCall (Call.mk 0 0 0 0 0 0 0)).toArray) zero55 rfl rfl fun b25 => ?_)
          refine WL.step (WO.storeBA (ds := (encCall x24)) (cs' := (encCall x24)) cells55 (.pl rfl) (.pl rfl) rfl (oneCall _) (i := 0) rfl (lel (o := 0) (l := 7) (m := 7) (by decide) rfl rfl) (putW rfl) ?_)
          refine WL.next hQ20 (.cons (i := 5) rfl (.cons (i := 6) rfl (.cons (i := 9) rfl (.cons (i := 11) rfl (.cons (i := 15) rfl (.cons (i := 48) rfl (.cons (i := 49) rfl (.cons (i := 50) rfl (.nil))))))))) ?_
          -- region 9: causal.go:84
          refine W.seqD (by kernel_rfl) (by kernel_rfl) fun R21 hR21 => ?_
          refine WD.q (Y.fieldAddr0 (off := 0) (ft := 3) Try.underlying55 rfl cells3 (.pl rfl)) rfl ?_
          refine WD.q (Y.loadB (v := .int .i64 x24.who) Try.underlying3 rfl (.pl rfl) (i := 0) rfl (rfl)) rfl ?_
          refine WD.q (Y.move (.pl rfl)) rfl ?_
          obtain ⟨x26, hx26, hF14⟩ := bnd hF14
          refine WD.q (Y.rowEl Try.underlying51 cells55 (i := 1) rfl (.pl rfl) rfl (.pl rfl) (ix_lt (hx26))) rfl ?_
          refine WD.q (Y.rowField (off := 0) (ft := 3) Try.underlying55 rfl cells3 (i' := 1) rfl (ix_lt (hx26)) (.pl rfl)) rfl ?_
          refine WD.q (Y.loadR (enc := encCall) (v := .int .i64 x26.who) (a := x26) (idx := 0) (j := 0) Try.underlying3 rfl lenCall (i := 1) rfl (.pl rfl) (ix_get (hx26)) rfl rfl) rfl ?_
          refine WD.q (Y.neq (.pl rfl) (.pl rfl)) rfl ?_
          refine WD.next hR21 (.cons (i := 5) rfl (.cons (i := 6) rfl (.cons (i := 9) rfl (.cons (i := 11) rfl (.cons (i := 48) rfl (.cons (i := 49) rfl (.cons (i := 50) rfl (.cons (i := 60) rfl (.nil))))))))) ?_
          refine W.cond (.pl rfl) (fun hC22 => ?_) (fun hC22 => ?_)
          · replace hF14 := cpos hC22 hF14
            -- region 10: causal.go:85
            refine W.seqR fun Q23 hQ23 => ?_
            refine WL.q (Y.assign (.pl rfl)) rfl ?_
            refine WL.next hQ23 (.cons (i := 4) rfl (.nil)) ?_
            obtain rfl := Option.some.inj hF14
            obtain rfl := einr hN14
            obtain rfl := Option.some.inj hF
            refine W.retV (fn := Try.f22) (vs := [.bool true]) Try.results22 ⟨.tmp rfl, trivial⟩ (fun _ _ h => h) (fun w hw => ?_)
            exact hR _ _ ⟨rfl, (hw.pick [] rfl)⟩
          · replace hF14 := cneg hC22 hF14
            refine W.skip ?_
            refine W.go hK19 (.cons (i := 5) rfl (.cons (i := 6) rfl (.cons (i := 9) rfl (.cons (i := 11) rfl (.cons (i := 48) rfl (.cons (i := 49) rfl (.cons (i := 50) rfl (.nil)))))))) ?_
            -- region 11: causal.go:83
            refine W.reg ?_
            obtain ⟨hk27, hF14⟩ := ckh hF14
            refine WL.q (Y.add (.pl rfl) (.pl rfl) (ok64_lt (hk27))) rfl ?_
            refine WL.q (Y.move (.pl rfl)) rfl ?_
            refine WL.nil ?_
            obtain rfl := Option.some.inj hF14
            exact W.again1 hK15 (v23 + 1) k14 hN14 (Nat.lt_succ_self _) (.cons rfl (.nil)) (.cons (i := 5) rfl (.cons (i := 6) rfl (.cons (i := 9) rfl (.cons (i := 11) rfl (.cons (i := 48) rfl (.cons (i := 49) rfl (.nil))))))) (fun w hw => hw.pick [1] rfl)
        · replace hF14 := cneg hC18 hF14
          refine W.exit ?_
          obtain rfl := Option.some.inj hF14
          exact W.joinAt0 hK12  (einr hN14) (.nil) (.cons (i := 5) rfl (.cons (i := 6) rfl (.cons (i := 9) rfl (.nil)))) (fun w hw => hw.pick [] rfl)
      · -- behind
        rintro  rfl
        -- region 12: causal.go:88
        refine W.seqR fun Q25 hQ25 => ?_
        refine WL.q (Y.move (.pl rfl)) rfl ?_
        refine WL.q (Y.move (.pl rfl)) rfl ?_
        refine WL.q (Y.eqlB Try.underlying4 (.pl rfl) (.pl rfl)) rfl ?_
        refine WL.q (Y.move (.pl rfl)) rfl ?_
        refine WL.g (.pl rfl rfl rfl) (fun hg => Y.move (.pl rfl)) rfl ?_
        refine WL.g (.pl rfl rfl rfl) (fun hg => Y.move (.pl rfl)) rfl ?_
        refine WL.g (.pl rfl rfl rfl) (fun hg => Y.eqlB Try.underlying4 (.gd (hg) rfl) (.gd (hg) rfl)) rfl ?_
        refine WL.q (Y.and (.pl rfl) (fun h2 => .gd (eqt h2) rfl)) rfl ?_
        refine WL.q (Y.assign (.pl rfl)) rfl ?_
        refine WL.next hQ25 (.cons (i := 4) rfl (.nil)) ?_
        obtain rfl := Option.some.inj hF
        refine W.retV (fn := Try.f22) (vs := [.bool ((r11.1 == r12.2.1) && (r11.2.1 == r12.2.1))]) Try.results22 ⟨.tmp rfl, trivial⟩ (fun _ _ h => h) (fun w hw => ?_)
        exact hR _ _ ⟨rfl, (hw.pick [] rfl)⟩

end Go.Proofs.Ytpakplmpihhmbaa
