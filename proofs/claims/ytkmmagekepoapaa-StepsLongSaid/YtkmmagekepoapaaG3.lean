/- read, at whatever length. -/
import Derived.Test.YtkmmagekepoapaaG2
import Derived.Test.YtkmmagekepoapaaSort
set_option linter.unusedVariables false
set_option linter.unusedSimpArgs false
set_option linter.unusedSectionVars false
set_option maxRecDepth 100000
namespace Go.Proofs.Ytkmmagekepoapaa
open Go.RowKit
def ren74 : Go.Shelf.Ren := ⟨fun x => match x with | 6 => 74 | 14 => 101 | 15 => 102 | 20 => 111 | 21 => 112 | 22 => 113 | 23 => 114 | 24 => 115 | 25 => 116 | 26 => 117 | 27 => 118 | 28 => 119 | 29 => 120 | 46 => 121 | 47 => 122 | 48 => 123 | 49 => 124 | 50 => 125 | 57 => 126 | n => n, fun x => match x with | 0 => 0 | 3 => 3 | 4 => 4 | 5 => 5 | 9 => 9 | 22 => 161 | 24 => 167 | 25 => 169 | 39 => 98 | 45 => 206 | 46 => 207 | 50 => 211 | 53 => 197 | 55 => 200 | 66 => 215 | 70 => 219 | 76 => 221 | 77 => 222 | n => n, fun x => x⟩
theorem lays74 : SlLaysF0.n6 Try.prog ren74 where
  mixed := by kernel_rfl
  f6 := ⟨Try.f74.name, by kernel_rfl, Try.func74.trans (congrArg some (by kernel_rfl))⟩
  f14 := ⟨Try.f101.name, by kernel_rfl, Try.func101.trans (congrArg some (by kernel_rfl))⟩
  f15 := Try.func102.trans (congrArg some (by kernel_rfl))
  f20 := ⟨Try.f111.name, by kernel_rfl, Try.func111.trans (congrArg some (by kernel_rfl))⟩
  f21 := ⟨Try.f112.name, by kernel_rfl, Try.func112.trans (congrArg some (by kernel_rfl))⟩
  f22 := ⟨Try.f113.name, by kernel_rfl, Try.func113.trans (congrArg some (by kernel_rfl))⟩
  f23 := ⟨Try.f114.name, by kernel_rfl, Try.func114.trans (congrArg some (by kernel_rfl))⟩
  f24 := ⟨Try.f115.name, by kernel_rfl, Try.func115.trans (congrArg some (by kernel_rfl))⟩
  f25 := ⟨Try.f116.name, by kernel_rfl, Try.func116.trans (congrArg some (by kernel_rfl))⟩
  f26 := ⟨Try.f117.name, by kernel_rfl, Try.func117.trans (congrArg some (by kernel_rfl))⟩
  f27 := ⟨Try.f118.name, by kernel_rfl, Try.func118.trans (congrArg some (by kernel_rfl))⟩
  f28 := Try.func119.trans (congrArg some (by kernel_rfl))
  f29 := Try.func120.trans (congrArg some (by kernel_rfl))
  f46 := ⟨Try.f121.name, by kernel_rfl, Try.func121.trans (congrArg some (by kernel_rfl))⟩
  f47 := Try.func122.trans (congrArg some (by kernel_rfl))
  f48 := Try.func123.trans (congrArg some (by kernel_rfl))
  f49 := ⟨Try.f124.name, by kernel_rfl, Try.func124.trans (congrArg some (by kernel_rfl))⟩
  f50 := ⟨Try.f125.name, by kernel_rfl, Try.func125.trans (congrArg some (by kernel_rfl))⟩
  f57 := ⟨Try.f126.name, by kernel_rfl, Try.func126.trans (congrArg some (by kernel_rfl))⟩
  t0 := Try.underlying0
  a0 := Try.isAgg0
  z0 := Try.sizeOf0
  v0 := Try.zeroValue0
  t3 := Try.underlying3
  a3 := Try.isAgg3
  z3 := Try.sizeOf3
  v3 := Try.zeroValue3
  t4 := Try.underlying4
  a4 := Try.isAgg4
  z4 := Try.sizeOf4
  v4 := Try.zeroValue4
  t5 := Try.underlying5
  a5 := Try.isAgg5
  z5 := Try.sizeOf5
  v5 := Try.zeroValue5
  t9 := Try.underlying9
  a9 := Try.isAgg9
  z9 := Try.sizeOf9
  v9 := Try.zeroValue9
  t22 := Try.underlying161
  a22 := Try.isAgg161
  z22 := Try.sizeOf161
  v22 := Try.zeroValue161
  t25 := Try.underlying169
  a25 := Try.isAgg169
  z25 := Try.sizeOf169
  v25 := Try.zeroValue169
  t39 := Try.underlying98
  a39 := Try.isAgg98
  z39 := Try.sizeOf98
  v39 := Try.zeroValue98
  t45 := Try.underlying206
  a45 := Try.isAgg206
  z45 := Try.sizeOf206
  v45 := Try.zeroValue206
  t46 := Try.underlying207
  a46 := Try.isAgg207
  z46 := Try.sizeOf207
  v46 := Try.zeroValue207
  t50 := Try.underlying211
  a50 := Try.isAgg211
  z50 := Try.sizeOf211
  v50 := Try.zeroValue211
  t53 := Try.underlying197
  a53 := Try.isAgg197
  z53 := Try.sizeOf197
  v53 := Try.zeroValue197
  t55 := Try.underlying200
  a55 := Try.isAgg200
  z55 := Try.sizeOf200
  v55 := Try.zeroValue200
  t66 := Try.underlying215
  a66 := Try.isAgg215
  z66 := Try.sizeOf215
  v66 := Try.zeroValue215
  t70 := Try.underlying219
  a70 := Try.isAgg219
  z70 := Try.sizeOf219
  v70 := Try.zeroValue219
  t76 := Try.underlying221
  a76 := Try.isAgg221
  z76 := Try.sizeOf221
  v76 := Try.zeroValue221
  t77 := Try.underlying222
  a77 := Try.isAgg222
  z77 := Try.sizeOf222
  v77 := Try.zeroValue222
def sort74S : RowsValue → Bool := fun x => decide (-4611686018427387904 ≤ x.n ∧ x.n ≤ 4611686018427387903)
instance : Inhabited (SubT sort74S) := ⟨⟨RowsValue.z, rfl⟩⟩
abbrev sort74C : RowsValue → RowsValue → Int := fun a b => a.n - b.n
theorem sort74_swo : Go.Sort.SWO (ltOf fun a b : SubT sort74S => sort74C a.1 b.1) := by
  refine ⟨fun x => ?_, fun x y z h1 h2 => ?_, fun x y z h1 h2 => ?_⟩
  · exact decide_eq_false (by show ¬ x.1.n - x.1.n < 0; omega)
  · have h1 : x.1.n - y.1.n < 0 := of_decide_eq_true h1
    have h2 : y.1.n - z.1.n < 0 := of_decide_eq_true h2
    exact decide_eq_true (by show x.1.n - z.1.n < 0; omega)
  · have h1 : ¬ x.1.n - y.1.n < 0 := of_decide_eq_false h1
    have h2 : ¬ y.1.n - z.1.n < 0 := of_decide_eq_false h2
    exact decide_eq_false (by show ¬ x.1.n - z.1.n < 0; omega)
theorem sort74_cmp (x y : RowsValue) (hx : sort74S x = true) (hy : sort74S y = true) (W : World) : Calls Try.prog 75 #[.agg (encRowsValue x).toArray, .agg (encRowsValue y).toArray] W fun e w' => e = .returned (.int .i64 (sort74C x y)) ∧ ∃ q os', w' = Go.Sort.grow (W.drewN q) os' := by
  have hx := of_decide_eq_true hx
  have hy := of_decide_eq_true hy
  have hwr : IntKind.i64.wrap (x.n - y.n) = x.n - y.n := by simp [IntKind.wrap, IntKind.bits, IntKind.signed]; omega
  obtain ⟨a, b, c⟩ := x
  obtain ⟨a2, b2, c2⟩ := y
  show Calls Try.prog 75 #[.agg #[.int .i64 a, .int .i64 b, .int .i64 c], .agg #[.int .i64 a2, .int .i64 b2, .int .i64 c2]] W _
  go_enter Try.func75, Try.ntmps75
  go_wp2
  go_ret
  exact ⟨rfl, 0, _, by rw [Go.Sort.alloc_eq_grow, Go.Sort.alloc_eq_grow, Go.Sort.grow_grow]; rfl⟩
def sort74 (N : Nat) (xs : List RowsValue) : Option (List RowsValue) := sortO sort74S sort74C xs
theorem sort74_ok {N : Nat} {sI1 : (List RowsValue)} {AI4 : Option Addr} {cI5 : Nat} {res : (List RowsValue)} (hF : sort74 N sI1 = some res) {w0 w : World} {T : List Chunk} (hw : St w0.heap.size w0 ([cR encRowsValue 3 AI4 cI5 167 sI1] ++ T) w) :
    Calls Try.prog 74 (List.toArray [.slice AI4 (sI1).length cI5, .func (.func 75) #[] #[]]) w (fun e w' => ∃ g : Unit, ((res).length = (sI1).length) ∧ e = .returned (.tuple #[]) ∧ St w0.heap.size w0 ([cR encRowsValue 3 AI4 cI5 167 res] ++ T) w') :=
  sort_calls lays74 Try.isAgg167 Try.sizeOf167 lenRowsValue oneRowsValue sort74_swo (enters_of Try.func75 (by kernel_rfl) rfl) sort74_cmp (fun cap A _ _ _ hw => ((slices_SortFunc_rows_value_rows_value_ok (N := 100) (x3 := []) (by kernel_rfl) hw).mono fun _ _ ⟨_, _, h1, h2⟩ => ⟨h1, h2⟩)) hF hw

def rows_read_2_L5 (N : Nat) (r7 : ((List Call) × Int × Int)) : ((List RowsValue) × Int) → Option (((List RowsValue) × Int) ⊕ ((List RowsValue) ⊕ (Bool × (List Call) × (List RowsValue) × Int)))
  | (values16, v17) =>
    cond (decide (v17 < ((r7.1).length : Int)))
      (bd (ix r7.1 v17) fun (x18 : Call) =>
      cond ((decide (x18.kind = 4)) && (decide (x18.to_ = (-1))))
        (some (.inr (.inr (false, [], [], 6))))
        (bd (α := Bool) (cond ((decide (x18.kind = 3)) == true)
            (bd (rows_log_find N r7.1 values16 x18.arg) fun (r21 : Int) =>
            some ((decide (x18.kind = 3)) && (!(decide (r21 < 0)))))
            (some ((decide (x18.kind = 3)) && false))) <|
        fun (v20 : Bool) => 
          cond v20
            (some (.inr (.inr (false, [], [], 6))))
            (cond (decide (x18.kind = 3))
              (ck (limB 24 ((values16).length + (([(RowsValue.mk x18.arg v17 (-1))] : List RowsValue)).length)) <|
              ck (ok64 (v17 + 1)) <|
              some (.inl ((values16 ++ ([(RowsValue.mk x18.arg v17 (-1))] : List RowsValue)), (v17 + 1))))
              (ck (ok64 (v17 + 1)) <|
              some (.inl (values16, (v17 + 1)))))))
      (some (.inr (.inl values16)))

def rows_read_2_L7 (N : Nat) (r7 : ((List Call) × Int × Int)) : ((List RowsValue) × Int) → Option (((List RowsValue) × Int) ⊕ (List RowsValue))
  | (values31, v32) =>
    cond (decide (v32 < ((r7.1).length : Int)))
      (bd (ix r7.1 v32) fun (x33 : Call) =>
      bd (rows_log_find N r7.1 values31 x33.res) fun (r35 : Int) =>
      bd ((cond (((decide (x33.kind = 4)) && (!(decide (r35 < 0)))) == true) (ix values31 r35) (some RowsValue.z))) fun (x36 : RowsValue) =>
      cond (((decide (x33.kind = 4)) && (!(decide (r35 < 0)))) && (decide (x36.deq < 0)))
        (bd (ix values31 r35) fun (x37 : RowsValue) =>
        ck (ok64 (v32 + 1)) <|
        some (.inl ((values31.set r35.toNat (RowsValue.mk x37.n x37.enq v32)), (v32 + 1))))
        (ck (ok64 (v32 + 1)) <|
        some (.inl (values31, (v32 + 1)))))
      (some (.inr values31))

def rows_read_2 (N : Nat) (l1 : (List Event)) : Option (Bool × (List Call) × (List RowsValue) × Int) :=
  bd (history_Calls N ([2] : List Int) l1) fun (r7 : ((List Call) × Int × Int)) =>
  cond (!(decide (r7.2.2 = 0)))
    (some (false, [], [], r7.2.2))
    (bd (α := ((List RowsValue) ⊕ (Bool × (List Call) × (List RowsValue) × Int))) (iter (rows_read_2_L5 N r7) N ([], 0)) <|
    Sum.elim (fun (values13 : (List RowsValue)) => 
      bd (sort74 N values13) fun (r28 : (List RowsValue)) =>
      bd (α := (List RowsValue)) (iter (rows_read_2_L7 N r7) N (r28, 0)) <|
      fun (values30 : (List RowsValue)) => 
        some (true, r7.1, values30, 0)) (fun p => some p))

theorem rows_read_2_ok {N : Nat} {l1 : (List Event)} {res : (Bool × (List Call) × (List RowsValue) × Int)} (hF : rows_read_2 N l1 = some res) (w : World) {v5 : Value} (hs4 : SlIn encEvent 4 w v5 l1) :
    Made Try.prog 53 [v5] w (fun g : (Option Nat × Option Addr × Nat × Option Addr × Nat) => .tuple #[.pointer (ptO g.1), .int .i64 res.2.2.2]) (fun g => [cBo g.1 163 (Value.slice g.2.1 (res.2.1).length g.2.2.1 :: (Value.slice g.2.2.2.1 (res.2.2.1).length g.2.2.2.2 :: [])), cR encCall 7 g.2.1 g.2.2.1 129 res.2.1, cR encRowsValue 3 g.2.2.2.1 g.2.2.2.2 167 res.2.2.1]) (fun g => res.1 = (g.1).isSome) := by
  obtain ⟨A2, c3, rfl, hcc3, hs4⟩ := hs4.form
  refine W.enter (n := 107) Try.func53 rfl rfl Sub.refl (by simp) (St.start w) fun R hR => ?_
  unfold rows_read_2 at hF
  refine W.seqR fun Q1 hQ1 => ?_
  refine WL.q (Y.assign (.pl rfl)) rfl ?_
  refine WL.q (Y.assign (.pl rfl)) rfl ?_
  refine WL.next hQ1 (.cons (i := 0) rfl (.nil)) ?_
  refine W.seqR fun Q2 hQ2 => ?_
  refine WL.step (WO.bsliceC (enc := (eI .i64)) (ys := ([2] : List Int)) Try.underlying23 bz3 (.cons (.pl rfl) (.nil)) rfl (fun _ => rfl) rfl rfl (by decide) (by decide) rfl fun b6 => ?_)
  refine WL.q (Y.move (.pl rfl)) rfl ?_
  obtain ⟨r7, hr7, hF⟩ := bnd hF
  refine WL.step (WO.callM isGo14 (.cons (.pl rfl) (.cons (.pl rfl) (.nil))) rfl (fun wz hw => history_Calls_ok (hr7) wz (SlIn.ofRow (fun _ => rfl) hw (i := 0) rfl) (hs4.mono hw)) ?_)
  rintro ⟨A8, c9⟩ -
  refine WL.q (Y.move (.pl rfl)) rfl ?_
  refine WL.q (Y.extract (.pl rfl) rfl) rfl ?_
  refine WL.q (Y.extract (.pl rfl) rfl) rfl ?_
  refine WL.q (Y.extract (.pl rfl) rfl) rfl ?_
  refine WL.q (Y.assign (.pl rfl)) rfl ?_
  refine WL.q (Y.assign (.pl rfl)) rfl ?_
  refine WL.q (Y.assign (.pl rfl)) rfl ?_
  refine WL.next hQ2 (.cons (i := 4) rfl (.cons (i := 6) rfl (.nil))) ?_
  refine W.seq fun K3 hK3 => ?_
  refine W.seqR fun Q4 hQ4 => ?_
  refine WL.q (Y.move (.pl rfl)) rfl ?_
  refine WL.q (Y.neq (.pl rfl) (.pl rfl)) rfl ?_
  refine WL.next hQ4 (.cons (i := 4) rfl (.cons (i := 6) rfl (.cons (i := 21) rfl (.nil)))) ?_
  refine W.cond (.pl rfl) (fun hC5 => ?_) (fun hC5 => ?_)
  · replace hF := cpos hC5 hF
    refine W.seqR fun Q6 hQ6 => ?_
    refine WL.q (Y.move (.pl rfl)) rfl ?_
    refine WL.q (Y.assign (.pl rfl)) rfl ?_
    refine WL.q (Y.assign (.pl rfl)) rfl ?_
    refine WL.next hQ6 (.cons (i := 2) rfl (.cons (i := 3) rfl (.nil))) ?_
    obtain rfl := Option.some.inj hF
    refine W.retV (fn := Try.f53) (vs := [.pointer none, .int .i64 r7.2.2]) Try.results53 ⟨.tmp rfl, ⟨.tmp rfl, trivial⟩⟩ (fun _ _ h => h) (fun wz hw => ?_)
    exact hR _ _ ⟨(none, none, 0, none, 0), rfl, rfl, ((St.nilR (St.nilR (St.nilO (hw.pick [] rfl) 163 (Value.slice none 0 0 :: (Value.slice none 0 0 :: []))) encCall 7 129) encRowsValue 3 167).pick [2, 1, 0] rfl)⟩
  · replace hF := cneg hC5 hF
    refine W.skip ?_
    refine W.go hK3 (.cons (i := 4) rfl (.nil)) ?_
    refine W.seqR fun Q7 hQ7 => ?_
    refine WL.q (Y.move (.pl rfl)) rfl ?_
    refine WL.q (Y.build (cs := (Value.slice A8 (r7.1).length c9 :: (Value.slice none 0 0 :: [])).toArray) shape163 (.cons (.pl rfl) (.nil)) (one_parts ⟨rfl, trivial⟩) rfl) rfl ?_
    refine WL.step (WO.boxA (.pl rfl) rfl fun b10 => ?_)
    refine WL.q (Y.assign (.pl rfl)) rfl ?_
    refine WL.next hQ7 (.cons (i := 4) rfl (.cons (i := 7) rfl (.nil))) ?_
    obtain ⟨o8, hF8, hF⟩ := bnd hF
    refine W.join3 (Em := fun (values13 : (List RowsValue)) (A11 : Option Addr) (c12 : Nat) => []) (M := fun values13 A11 c12 => [cR encCall 7 A8 c9 129 r7.1, cBx b10 163 (Value.slice A8 (r7.1).length c9 :: (Value.slice A11 (values13).length c12 :: [])), cR encRowsValue 3 A11 c12 167 values13]) (I := fun values13 A11 c12 => (.inl values13) = o8) (.cons (i := 4) rfl (.cons (i := 7) rfl (.nil))) (fun K9 hK9 => ?_) ?_
    · -- up to
      refine W.seqR fun Q10 hQ10 => ?_
      refine WL.q (Y.move (.pl rfl)) rfl ?_
      refine WL.q (Y.len Try.underlying35 (.pl rfl)) rfl ?_
      refine WL.q (Y.move (.pl rfl)) rfl ?_
      refine WL.next hQ10 (.cons (i := 4) rfl (.cons (i := 7) rfl (.cons (i := 26) rfl (.cons (i := 27) rfl (.cons (i := 28) rfl (.nil)))))) ?_
      refine W.block ?_
      refine W.loop4 (Em := fun (values16 : (List RowsValue)) (v17 : Int) (A14 : Option Addr) (c15 : Nat) => [(28, .int .i64 v17)]) (M := fun values16 v17 A14 c15 => [cR encCall 7 A8 c9 129 r7.1, cBx b10 163 (Value.slice A8 (r7.1).length c9 :: (Value.slice A14 (values16).length c15 :: [])), cR encRowsValue 3 A14 c15 167 values16]) (I := fun values16 v17 A14 c15 k11 => iter (rows_read_2_L5 N r7) k11 (values16, v17) = some o8) [] 0 none 0 N (hF8) (.cons rfl (.nil)) (.cons (i := 4) rfl (.cons (i := 7) rfl (.cons (i := 26) rfl (.cons (i := 27) rfl (.nil))))) (fun wz hw => (St.nilR (hw.pick [1, 0] rfl) encRowsValue 3 167).pick [1, 2, 0] rfl) (fun values16 v17 A14 c15 k11 hI K12 hK12 => ?_)
      obtain ⟨k11, t11, rfl, hF11, hN11⟩ := iter_step hI
      refine W.seqR fun Q13 hQ13 => ?_
      refine WL.q (Y.lss (.pl rfl) (.pl rfl)) rfl ?_
      refine WL.next hQ13 (.cons (i := 4) rfl (.cons (i := 7) rfl (.cons (i := 26) rfl (.cons (i := 27) rfl (.cons (i := 28) rfl (.cons (i := 29) rfl (.nil))))))) ?_
      refine W.seq fun K14 hK14 => ?_
      refine W.cond (.pl rfl) (fun hC15 => ?_) (fun hC15 => ?_)
      · replace hF11 := cpos hC15 hF11
        refine W.skip ?_
        refine W.go hK14 (.cons (i := 4) rfl (.cons (i := 7) rfl (.cons (i := 26) rfl (.cons (i := 27) rfl (.cons (i := 28) rfl (.nil)))))) ?_
        refine W.seq fun K16 hK16 => ?_
        refine W.block ?_
        refine W.seqR fun Q17 hQ17 => ?_
        refine WL.q (Y.move (.pl rfl)) rfl ?_
        obtain ⟨x18, hx18, hF11⟩ := bnd hF11
        refine WL.q (Y.rowEl Try.underlying35 cells129 (i := 0) rfl (.pl rfl) rfl (.pl rfl) (ix_lt (hx18))) rfl ?_
        refine WL.q (Y.loadRA (enc := encCall) (ds := (encCall x18)) (a := x18) (idx := v17) (j := 0) Try.underlying129 rfl cells129 lenCall (i := 0) rfl (.pl rfl) (ix_get (hx18)) rfl rfl subW) rfl ?_
        refine WL.step (WO.alloc (cs := (encCall (Call.mk 0 0 0 0 0 0 0)).toArray) zero129 rfl rfl fun b19 => ?_)
        refine WL.q (Y.assign (.pl rfl)) rfl ?_
        refine WL.step (WO.storeBA (ds := (encCall x18)) (cs' := (encCall x18)) cells129 (.pl rfl) (.pl rfl) rfl (oneCall _) (i := 0) rfl (lel (o := 0) (l := 7) (m := 7) (by decide) rfl rfl) (putW rfl) ?_)
        refine WL.next hQ17 (.cons (i := 4) rfl (.cons (i := 7) rfl (.cons (i := 8) rfl (.cons (i := 9) rfl (.cons (i := 26) rfl (.cons (i := 27) rfl (.cons (i := 28) rfl (.nil)))))))) ?_
        refine W.block ?_
        refine W.seqR fun Q18 hQ18 => ?_
        refine WL.q (Y.fieldAddr0 (off := 2) (ft := 3) Try.underlying129 rfl cells3 (.pl rfl)) rfl ?_
        refine WL.q (Y.loadB (v := .int .i64 x18.kind) Try.underlying3 rfl (.pl rfl) (i := 0) rfl (rfl)) rfl ?_
        refine WL.q (Y.eql (.pl rfl) (.pl rfl)) rfl ?_
        refine WL.q (Y.move (.pl rfl)) rfl ?_
        refine WL.g (.pl rfl rfl rfl) (fun hg => Y.fieldAddr0 (off := 6) (ft := 3) Try.underlying129 rfl cells3 (.pl rfl)) rfl ?_
        refine WL.g (.pl rfl rfl rfl) (fun hg => Y.loadB (v := .int .i64 x18.to_) Try.underlying3 rfl (.gd (hg) rfl) (i := 0) rfl (rfl)) rfl ?_
        refine WL.g (.pl rfl rfl rfl) (fun hg => Y.eql (.gd (hg) rfl) (.pl rfl)) rfl ?_
        refine WL.q (Y.and (.pl rfl) (fun h2 => .gd (eqt h2) rfl)) rfl ?_
        refine WL.q (Y.assign (.pl rfl)) rfl ?_
        refine WL.next hQ18 (.cons (i := 4) rfl (.cons (i := 7) rfl (.cons (i := 8) rfl (.cons (i := 9) rfl (.cons (i := 26) rfl (.cons (i := 27) rfl (.cons (i := 28) rfl (.cons (i := 33) rfl (.nil))))))))) ?_
        refine W.cond (.pl rfl) (fun hC19 => ?_) (fun hC19 => ?_)
        · replace hF11 := cpos hC19 hF11
          refine W.seqR fun Q20 hQ20 => ?_
          refine WL.q (Y.assign (.pl rfl)) rfl ?_
          refine WL.q (Y.assign (.pl rfl)) rfl ?_
          refine WL.next hQ20 (.cons (i := 2) rfl (.cons (i := 3) rfl (.nil))) ?_
          obtain rfl := Option.some.inj hF11
          obtain rfl := einr hN11
          obtain rfl := Option.some.inj hF
          refine W.retV (fn := Try.f53) (vs := [.pointer none, .int .i64 6]) Try.results53 ⟨.tmp rfl, ⟨.tmp rfl, trivial⟩⟩ (fun _ _ h => h) (fun wz hw => ?_)
          exact hR _ _ ⟨(none, none, 0, none, 0), rfl, rfl, ((St.nilR (St.nilR (St.nilO (hw.pick [] rfl) 163 (Value.slice none 0 0 :: (Value.slice none 0 0 :: []))) encCall 7 129) encRowsValue 3 167).pick [2, 1, 0] rfl)⟩
        · replace hF11 := cneg hC19 hF11
          obtain ⟨o21, hF21, hF11⟩ := bnd hF11
          refine W.join1 (Em := fun (v20 : Bool) => [(42, .bool v20)]) (M := fun v20 => [cR encCall 7 A8 c9 129 r7.1, cBx b10 163 (Value.slice A8 (r7.1).length c9 :: (Value.slice A14 (values16).length c15 :: [])), cR encRowsValue 3 A14 c15 167 values16, cBx b19 129 (encCall x18)]) (I := fun v20 => v20 = o21) (.cons (i := 4) rfl (.cons (i := 7) rfl (.cons (i := 8) rfl (.cons (i := 9) rfl (.cons (i := 26) rfl (.cons (i := 27) rfl (.cons (i := 28) rfl (.nil)))))))) (fun K22 hK22 => ?_) ?_
          · -- up to
            refine W.reg ?_
            refine WL.q (Y.fieldAddr0 (off := 2) (ft := 3) Try.underlying129 rfl cells3 (.pl rfl)) rfl ?_
            refine WL.q (Y.loadB (v := .int .i64 x18.kind) Try.underlying3 rfl (.pl rfl) (i := 0) rfl (rfl)) rfl ?_
            refine WL.q (Y.eql (.pl rfl) (.pl rfl)) rfl ?_
            refine WL.q (Y.move (.pl rfl)) rfl ?_
            refine WL.g (.pl rfl rfl rfl) (fun hg => Y.move (.pl rfl)) rfl ?_
            refine WL.g (.pl rfl rfl rfl) (fun hg => Y.fieldAddr0 (off := 3) (ft := 3) Try.underlying129 rfl cells3 (.pl rfl)) rfl ?_
            refine WL.g (.pl rfl rfl rfl) (fun hg => Y.loadB (v := .int .i64 x18.arg) Try.underlying3 rfl (.gd (hg) rfl) (i := 0) rfl (rfl)) rfl ?_
            refine bsplit ((decide (x18.kind = 3)) == true) (fun hg23 => ?_) (fun hg23 => ?_)
            · replace hF21 := cpos hg23 hF21
              refine WL.gd (.pl rfl rfl rfl) (hg23) ?_
              obtain ⟨r21, hr21, hF21⟩ := bnd hF21
              refine WL.step (WO.call (γ := Unit) (fun g => .pointer (oel A14 r21 3)) (fun g => [cBx b10 163 (Value.slice A8 (r7.1).length c9 :: (Value.slice A14 (values16).length c15 :: [])), cR encCall 7 A8 c9 129 r7.1, cR encRowsValue 3 A14 c15 167 values16, cBx b19 129 (encCall x18)]) (fun g => True) isGo73 (.cons (.gd (hg23) rfl) (.cons (.gd (hg23) rfl) (.nil))) rfl (fun wz hw => rows_log_find_ok (T := [cBx b19 129 (encCall x18)]) (hr21) (hw.pick [2, 1, 3, 0] rfl) ) ?_)
              rintro _ -
              refine WL.gd (.pl rfl rfl rfl) (hg23) ?_
              refine WL.q (Y.neqO Try.underlying164 (.pl rfl)) rfl ?_
              refine WL.q (Y.and (.pl rfl) (fun _ => .pl rfl)) rfl ?_
              refine WL.q (Y.assign (.pl rfl)) rfl ?_
              refine WL.nil ?_
              exact W.joinAt1 hK22 ((decide (x18.kind = 3)) && (!(decide (r21 < 0)))) (Option.some.inj hF21) (.cons rfl (.nil)) (.cons (i := 4) rfl (.cons (i := 7) rfl (.cons (i := 8) rfl (.cons (i := 9) rfl (.cons (i := 26) rfl (.cons (i := 27) rfl (.cons (i := 28) rfl (.nil)))))))) (fun wz hw => hw.pick [1, 0, 2, 3] rfl)
            · replace hF21 := cneg hg23 hF21
              refine WL.gn (.pl rfl rfl rfl) hg23 rfl ?_
              refine WL.gn (.pl rfl rfl rfl) hg23 rfl ?_
              refine WL.q (Y.and (b := false) (.pl rfl) (fun h2 => (gabsA hg23 h2).elim)) rfl ?_
              refine WL.q (Y.assign (.pl rfl)) rfl ?_
              refine WL.nil ?_
              exact W.joinAt1 hK22 ((decide (x18.kind = 3)) && false) (Option.some.inj hF21) (.cons rfl (.nil)) (.cons (i := 4) rfl (.cons (i := 7) rfl (.cons (i := 8) rfl (.cons (i := 9) rfl (.cons (i := 26) rfl (.cons (i := 27) rfl (.cons (i := 28) rfl (.nil)))))))) (fun wz hw => hw.pick [1, 2, 3, 0] rfl)
          · -- behind
            rintro v20 rfl
            refine W.cond (.pl rfl) (fun hC24 => ?_) (fun hC24 => ?_)
            · replace hF11 := cpos hC24 hF11
              refine W.seqR fun Q25 hQ25 => ?_
              refine WL.q (Y.assign (.pl rfl)) rfl ?_
              refine WL.q (Y.assign (.pl rfl)) rfl ?_
              refine WL.next hQ25 (.cons (i := 2) rfl (.cons (i := 3) rfl (.nil))) ?_
              obtain rfl := Option.some.inj hF11
              obtain rfl := einr hN11
              obtain rfl := Option.some.inj hF
              refine W.retV (fn := Try.f53) (vs := [.pointer none, .int .i64 6]) Try.results53 ⟨.tmp rfl, ⟨.tmp rfl, trivial⟩⟩ (fun _ _ h => h) (fun wz hw => ?_)
              exact hR _ _ ⟨(none, none, 0, none, 0), rfl, rfl, ((St.nilR (St.nilR (St.nilO (hw.pick [] rfl) 163 (Value.slice none 0 0 :: (Value.slice none 0 0 :: []))) encCall 7 129) encRowsValue 3 167).pick [2, 1, 0] rfl)⟩
            · replace hF11 := cneg hC24 hF11
              refine W.seqR fun Q26 hQ26 => ?_
              refine WL.q (Y.fieldAddr0 (off := 2) (ft := 3) Try.underlying129 rfl cells3 (.pl rfl)) rfl ?_
              refine WL.q (Y.loadB (v := .int .i64 x18.kind) Try.underlying3 rfl (.pl rfl) (i := 3) rfl (rfl)) rfl ?_
              refine WL.q (Y.eql (.pl rfl) (.pl rfl)) rfl ?_
              refine WL.q (Y.assign (.pl rfl)) rfl ?_
              refine WL.next hQ26 (.cons (i := 4) rfl (.cons (i := 7) rfl (.cons (i := 8) rfl (.cons (i := 9) rfl (.cons (i := 26) rfl (.cons (i := 27) rfl (.cons (i := 28) rfl (.cons (i := 53) rfl (.nil))))))))) ?_
              refine W.cond (.pl rfl) (fun hC27 => ?_) (fun hC27 => ?_)
              · replace hF11 := cpos hC27 hF11
                refine W.regX 10 (by kernel_rfl) ?_
                refine WX.pure 0 #[true, false, false, false, false, false, false, false, false, false, false, false, false, false] rfl (by kernel_rfl) (fun _ _ => Y.move (.pl rfl)) rfl ?_
                refine WX.pure 1 #[true, true, false, false, false, false, false, false, false, false, false, false, false, false] rfl (by kernel_rfl) (fun _ _ => Y.move (.pl rfl)) rfl ?_
                refine WX.pure 2 #[true, true, true, false, false, false, false, false, false, false, false, false, false, false] rfl (by kernel_rfl) (fun _ _ => Y.nilCheck (.pl rfl)) rfl ?_
                refine WX.pure 3 #[true, true, true, true, false, false, false, false, false, false, false, false, false, false] rfl (by kernel_rfl) (fun _ _ => Y.fieldAddr0 (off := 1) (ft := 161) Try.underlying163 rfl cells161 (.pl rfl)) rfl ?_
                refine WX.take 4 #[true, true, true, true, true, false, false, false, false, false, false, false, false, false] (fun wz hw => St.tail [] hw) rfl (by kernel_rfl) (Y.loadB (v := .slice A14 (values16).length c15) Try.underlying161 rfl (.pl rfl) (i := 1) rfl (rfl)) rfl ?_
                refine WX.pure 5 #[true, true, true, true, true, true, false, false, false, false, false, false, false, false] rfl (by kernel_rfl) (fun _ _ => Y.fieldAddr0 (off := 3) (ft := 3) Try.underlying129 rfl cells3 (.pl rfl)) rfl ?_
                refine WX.take 6 #[true, true, true, true, true, true, true, false, false, false, false, false, false, false] (fun wz hw => St.tail [] hw) rfl (by kernel_rfl) (Y.loadB (v := .int .i64 x18.arg) Try.underlying3 rfl (.pl rfl) (i := 3) rfl (rfl)) rfl ?_
                refine WX.pure 7 #[true, true, true, true, true, true, true, true, false, false, false, false, false, false] rfl (by kernel_rfl) (fun _ _ => Y.move (.pl rfl)) rfl ?_
                refine WX.pure 8 #[true, true, true, true, true, true, true, true, true, false, false, false, false, false] rfl (by kernel_rfl) (fun _ _ => Y.build (cs := (encRowsValue (RowsValue.mk x18.arg v17 (-1))).toArray) shape167 (.cons (.pl rfl) (.cons (.pl rfl) (.cons (.pl rfl) (.nil)))) (one_parts ⟨rfl, ⟨rfl, ⟨rfl, trivial⟩⟩⟩) rfl) rfl ?_
                refine WX.one 9 #[true, true, true, true, true, true, true, true, true, true, false, false, false, false] (fun wz hw => St.tail [] hw) rfl (by kernel_rfl) (WO.bsliceC (enc := encRowsValue) (ys := ([(RowsValue.mk x18.arg v17 (-1))] : List RowsValue)) Try.underlying161 bz167 (.cons (.pl rfl) (.nil)) rfl lenRowsValue rfl rfl (by decide) (by decide) rfl fun b22 => ?_)
                obtain ⟨hk25, hF11⟩ := ckh hF11
                refine WX.stop #[true, true, true, true, true, true, true, true, true, true, true, false, false, false] (fun wz hw => St.tail [_] hw) rfl (by kernel_rfl) (WO.appendC (enc := encRowsValue) Try.underlying161 ap167 lenRowsValue oneRowsValue (.pl rfl) rfl (.pl rfl) (i := 3) rfl (m2 := 0) rfl (hk25) rfl fun A23 c24 => ?_)
                refine WA.take 11 #[true, true, true, true, true, true, true, true, true, true, true, true, false, false] rfl (by kernel_rfl) (fun _ _ => Y.nilCheck (.pl rfl)) rfl ?_
                refine WA.take 12 #[true, true, true, true, true, true, true, true, true, true, true, true, true, false] rfl (by kernel_rfl) (fun _ _ => Y.fieldAddr0 (off := 1) (ft := 161) Try.underlying163 rfl cells161 (.pl rfl)) rfl ?_
                refine WA.branch [13] (by kernel_rfl) ⟨?_, trivial⟩
                refine WI.step #[true, true, true, true, true, true, true, true, true, true, true, true, true, true] rfl rfl (WO.storeB (cs' := (Value.slice A8 (r7.1).length c9 :: (Value.slice A23 ((values16 ++ ([(RowsValue.mk x18.arg v17 (-1))] : List RowsValue))).length c24 :: []))) cells161 (.pl rfl) (.pl rfl) rfl (i := 2) rfl (ltl (m := 2) (by decide) rfl) (rfl) ?_)
                refine WA.done (by kernel_rfl) ?_
                refine W.go hK16 (.cons (i := 4) rfl (.cons (i := 7) rfl (.cons (i := 26) rfl (.cons (i := 27) rfl (.cons (i := 28) rfl (.nil)))))) ?_
                refine W.reg ?_
                obtain ⟨hk26, hF11⟩ := ckh hF11
                refine WL.q (Y.add (.pl rfl) (.pl rfl) (ok64_lt (hk26))) rfl ?_
                refine WL.q (Y.move (.pl rfl)) rfl ?_
                refine WL.nil ?_
                obtain rfl := Option.some.inj hF11
                exact W.again4 hK12 (values16 ++ ([(RowsValue.mk x18.arg v17 (-1))] : List RowsValue)) (v17 + 1) A23 c24 k11 hN11 (Nat.lt_succ_self _) (.cons rfl (.nil)) (.cons (i := 4) rfl (.cons (i := 7) rfl (.cons (i := 26) rfl (.cons (i := 27) rfl (.nil))))) (fun wz hw => hw.pick [1, 2, 3] rfl)
              · replace hF11 := cneg hC27 hF11
                refine W.skip ?_
                refine W.go hK16 (.cons (i := 4) rfl (.cons (i := 7) rfl (.cons (i := 26) rfl (.cons (i := 27) rfl (.cons (i := 28) rfl (.nil)))))) ?_
                refine W.reg ?_
                obtain ⟨hk27, hF11⟩ := ckh hF11
                refine WL.q (Y.add (.pl rfl) (.pl rfl) (ok64_lt (hk27))) rfl ?_
                refine WL.q (Y.move (.pl rfl)) rfl ?_
                refine WL.nil ?_
                obtain rfl := Option.some.inj hF11
                exact W.again4 hK12 values16 (v17 + 1) A14 c15 k11 hN11 (Nat.lt_succ_self _) (.cons rfl (.nil)) (.cons (i := 4) rfl (.cons (i := 7) rfl (.cons (i := 26) rfl (.cons (i := 27) rfl (.nil))))) (fun wz hw => hw.pick [0, 1, 2] rfl)
      · replace hF11 := cneg hC15 hF11
        refine W.exit ?_
        obtain rfl := Option.some.inj hF11
        exact W.joinAt3 hK9 values16 A14 c15 (einr hN11) (.nil) (.cons (i := 4) rfl (.cons (i := 7) rfl (.nil))) (fun wz hw => hw.pick [0, 1, 2] rfl)
    · -- behind
      rintro values13 A11 c12 rfl
      refine W.seqR fun Q31 hQ31 => ?_
      refine WL.q (Y.move (.pl rfl)) rfl ?_
      refine WL.q (Y.nilCheck (.pl rfl)) rfl ?_
      refine WL.q (Y.fieldAddr0 (off := 1) (ft := 161) Try.underlying163 rfl cells161 (.pl rfl)) rfl ?_
      refine WL.q (Y.loadB (v := .slice A11 (values13).length c12) Try.underlying161 rfl (.pl rfl) (i := 1) rfl (rfl)) rfl ?_
      obtain ⟨r28, hr28, hF⟩ := bnd hF
      refine WL.step (WO.call (γ := Unit) (fun g => .tuple #[]) (fun g => [cR encRowsValue 3 A11 c12 167 r28, cR encCall 7 A8 c9 129 r7.1, cBx b10 163 (Value.slice A8 (r7.1).length c9 :: (Value.slice A11 (values13).length c12 :: []))]) (fun g => (r28).length = (values13).length) isGo74 (.cons (.pl rfl) (.cons (.pl rfl) (.nil))) rfl (fun wz hw => sort74_ok (T := [cR encCall 7 A8 c9 129 r7.1, cBx b10 163 (Value.slice A8 (r7.1).length c9 :: (Value.slice A11 (values13).length c12 :: []))]) (hr28) (hw.pick [2, 0, 1] rfl) ) ?_)
      rintro _ hl29
      refine WL.next hQ31 (.cons (i := 4) rfl (.cons (i := 7) rfl (.nil))) ?_
      obtain ⟨o32, hF32, hF⟩ := bnd hF
      refine W.join1 (Em := fun (values30 : (List RowsValue)) => []) (M := fun values30 => [cBx b10 163 (Value.slice A8 (r7.1).length c9 :: (Value.slice A11 (values30).length c12 :: [])), cR encCall 7 A8 c9 129 r7.1, cR encRowsValue 3 A11 c12 167 values30]) (I := fun values30 => values30 = o32) (.cons (i := 7) rfl (.nil)) (fun K33 hK33 => ?_) ?_
      · -- up to
        refine W.seqR fun Q34 hQ34 => ?_
        refine WL.q (Y.move (.pl rfl)) rfl ?_
        refine WL.q (Y.len Try.underlying35 (.pl rfl)) rfl ?_
        refine WL.q (Y.move (.pl rfl)) rfl ?_
        refine WL.next hQ34 (.cons (i := 7) rfl (.cons (i := 76) rfl (.cons (i := 77) rfl (.cons (i := 78) rfl (.nil))))) ?_
        refine W.block ?_
        refine W.loop2 (Em := fun (values31 : (List RowsValue)) (v32 : Int) => [(78, .int .i64 v32)]) (M := fun values31 v32 => [cBx b10 163 (Value.slice A8 (r7.1).length c9 :: (Value.slice A11 (values31).length c12 :: [])), cR encCall 7 A8 c9 129 r7.1, cR encRowsValue 3 A11 c12 167 values31]) (I := fun values31 v32 k35 => iter (rows_read_2_L7 N r7) k35 (values31, v32) = some o32) r28 0 N (hF32) (.cons rfl (.nil)) (.cons (i := 7) rfl (.cons (i := 76) rfl (.cons (i := 77) rfl (.nil)))) (fun wz hw => St.cong (L := [cBx b10 163 (Value.slice A8 (r7.1).length c9 :: (Value.slice A11 (values13).length c12 :: [])), cR encCall 7 A8 c9 129 r7.1, cR encRowsValue 3 A11 c12 167 r28]) (hw.pick [2, 1, 0] rfl) (by simp only [List.length_set, List.nil_append, List.cons_append, hl29])) (fun values31 v32 k35 hI K36 hK36 => ?_)
        obtain ⟨k35, t35, rfl, hF35, hN35⟩ := iter_step hI
        refine W.seqR fun Q37 hQ37 => ?_
        refine WL.q (Y.lss (.pl rfl) (.pl rfl)) rfl ?_
        refine WL.next hQ37 (.cons (i := 7) rfl (.cons (i := 76) rfl (.cons (i := 77) rfl (.cons (i := 78) rfl (.cons (i := 79) rfl (.nil)))))) ?_
        refine W.seq fun K38 hK38 => ?_
        refine W.cond (.pl rfl) (fun hC39 => ?_) (fun hC39 => ?_)
        · replace hF35 := cpos hC39 hF35
          refine W.skip ?_
          refine W.go hK38 (.cons (i := 7) rfl (.cons (i := 76) rfl (.cons (i := 77) rfl (.cons (i := 78) rfl (.nil))))) ?_
          refine W.seq fun K40 hK40 => ?_
          refine W.block ?_
          refine W.seqR fun Q41 hQ41 => ?_
          refine WL.q (Y.move (.pl rfl)) rfl ?_
          obtain ⟨x33, hx33, hF35⟩ := bnd hF35
          refine WL.q (Y.rowEl Try.underlying35 cells129 (i := 1) rfl (.pl rfl) rfl (.pl rfl) (ix_lt (hx33))) rfl ?_
          refine WL.q (Y.loadRA (enc := encCall) (ds := (encCall x33)) (a := x33) (idx := v32) (j := 0) Try.underlying129 rfl cells129 lenCall (i := 1) rfl (.pl rfl) (ix_get (hx33)) rfl rfl subW) rfl ?_
          refine WL.step (WO.alloc (cs := (encCall (Call.mk 0 0 0 0 0 0 0)).toArray) zero129 rfl rfl fun b34 => ?_)
          refine WL.q (Y.assign (.pl rfl)) rfl ?_
          refine WL.step (WO.storeBA (ds := (encCall x33)) (cs' := (encCall x33)) cells129 (.pl rfl) (.pl rfl) rfl (oneCall _) (i := 0) rfl (lel (o := 0) (l := 7) (m := 7) (by decide) rfl rfl) (putW rfl) ?_)
          refine WL.next hQ41 (.cons (i := 7) rfl (.cons (i := 10) rfl (.cons (i := 11) rfl (.cons (i := 76) rfl (.cons (i := 77) rfl (.cons (i := 78) rfl (.nil))))))) ?_
          refine W.seqR fun Q42 hQ42 => ?_
          refine WL.q (Y.move (.pl rfl)) rfl ?_
          refine WL.q (Y.fieldAddr0 (off := 4) (ft := 3) Try.underlying129 rfl cells3 (.pl rfl)) rfl ?_
          refine WL.q (Y.loadB (v := .int .i64 x33.res) Try.underlying3 rfl (.pl rfl) (i := 0) rfl (rfl)) rfl ?_
          obtain ⟨r35, hr35, hF35⟩ := bnd hF35
          refine WL.step (WO.call (γ := Unit) (fun g => .pointer (oel A11 r35 3)) (fun g => [cBx b10 163 (Value.slice A8 (r7.1).length c9 :: (Value.slice A11 (values31).length c12 :: [])), cR encCall 7 A8 c9 129 r7.1, cR encRowsValue 3 A11 c12 167 values31, cBx b34 129 (encCall x33)]) (fun g => True) isGo73 (.cons (.pl rfl) (.cons (.pl rfl) (.nil))) rfl (fun wz hw => rows_log_find_ok (T := [cBx b34 129 (encCall x33)]) (hr35) (hw.pick [1, 2, 3, 0] rfl) ) ?_)
          rintro _ -
          refine WL.q (Y.assign (.pl rfl)) rfl ?_
          refine WL.next hQ42 (.cons (i := 7) rfl (.cons (i := 10) rfl (.cons (i := 11) rfl (.cons (i := 12) rfl (.cons (i := 76) rfl (.cons (i := 77) rfl (.cons (i := 78) rfl (.nil)))))))) ?_
          refine W.seqR fun Q43 hQ43 => ?_
          refine WL.q (Y.fieldAddr0 (off := 2) (ft := 3) Try.underlying129 rfl cells3 (.pl rfl)) rfl ?_
          refine WL.q (Y.loadB (v := .int .i64 x33.kind) Try.underlying3 rfl (.pl rfl) (i := 3) rfl (rfl)) rfl ?_
          refine WL.q (Y.eql (.pl rfl) (.pl rfl)) rfl ?_
          refine WL.q (Y.move (.pl rfl)) rfl ?_
          refine WL.g (.pl rfl rfl rfl) (fun hg => Y.move (.pl rfl)) rfl ?_
          refine WL.g (.pl rfl rfl rfl) (fun hg => Y.neqO Try.underlying164 (.gd (hg) rfl)) rfl ?_
          refine WL.q (Y.and (.pl rfl) (fun h2 => .gd (eqt h2) rfl)) rfl ?_
          refine WL.q (Y.move (.pl rfl)) rfl ?_
          refine WL.g (.pl rfl rfl rfl) (fun hg => Y.move (.pl rfl)) rfl ?_
          obtain ⟨x36, hx36, hF35⟩ := bnd hF35
          refine WL.g (.pl rfl rfl rfl) (fun hg => Y.nilCheckO (ix_lt (gpos hg hx36)).1 (.gd (hg) rfl)) rfl ?_
          refine WL.g (.pl rfl rfl rfl) (fun hg => Y.rowField (off := 2) (ft := 3) Try.underlying167 rfl cells3 (i' := 2) rfl (ix_lt (gpos hg hx36)) (.gd (hg) rfl)) rfl ?_
          refine WL.g (.pl rfl rfl rfl) (fun hg => Y.loadR (enc := encRowsValue) (v := .int .i64 x36.deq) (a := x36) (idx := r35) (j := 2) Try.underlying3 rfl lenRowsValue (i := 2) rfl (.gd (hg) rfl) (ix_get (gpos hg hx36)) rfl rfl) rfl ?_
          refine WL.g (.pl rfl rfl rfl) (fun hg => Y.lss (.gd (hg) rfl) (.pl rfl)) rfl ?_
          refine WL.q (Y.and (.pl rfl) (fun h2 => .gd (eqt h2) rfl)) rfl ?_
          refine WL.next hQ43 (.cons (i := 7) rfl (.cons (i := 10) rfl (.cons (i := 12) rfl (.cons (i := 76) rfl (.cons (i := 77) rfl (.cons (i := 78) rfl (.cons (i := 100) rfl (.nil)))))))) ?_
          refine W.cond (.pl rfl) (fun hC44 => ?_) (fun hC44 => ?_)
          · replace hF35 := cpos hC44 hF35
            refine W.reg ?_
            refine WL.q (Y.move (.pl rfl)) rfl ?_
            refine WL.q (Y.move (.pl rfl)) rfl ?_
            obtain ⟨x37, hx37, hF35⟩ := bnd hF35
            refine WL.q (Y.nilCheckO (ix_lt (hx37)).1 (.pl rfl)) rfl ?_
            refine WL.q (Y.rowField (off := 2) (ft := 3) Try.underlying167 rfl cells3 (i' := 2) rfl (ix_lt (hx37)) (.pl rfl)) rfl ?_
            refine WL.step (WO.storeS (enc := encRowsValue) (a := x37) (a' := (RowsValue.mk x37.n x37.enq v32)) (idx := r35) (j := 2) cells3 (.pl rfl) (.pl rfl) rfl lenRowsValue (i := 2) rfl (ix_get (hx37)) rfl (by decide) rfl ?_)
            refine WL.nil ?_
            refine W.go hK40 (.cons (i := 7) rfl (.cons (i := 76) rfl (.cons (i := 77) rfl (.cons (i := 78) rfl (.nil))))) ?_
            refine W.reg ?_
            obtain ⟨hk38, hF35⟩ := ckh hF35
            refine WL.q (Y.add (.pl rfl) (.pl rfl) (ok64_lt (hk38))) rfl ?_
            refine WL.q (Y.move (.pl rfl)) rfl ?_
            refine WL.nil ?_
            obtain rfl := Option.some.inj hF35
            exact W.again2 hK36 (values31.set r35.toNat (RowsValue.mk x37.n x37.enq v32)) (v32 + 1) k35 hN35 (Nat.lt_succ_self _) (.cons rfl (.nil)) (.cons (i := 7) rfl (.cons (i := 76) rfl (.cons (i := 77) rfl (.nil)))) (fun wz hw => St.cong (L := [cBx b10 163 (Value.slice A8 (r7.1).length c9 :: (Value.slice A11 (values31).length c12 :: [])), cR encCall 7 A8 c9 129 r7.1, cR encRowsValue 3 A11 c12 167 (values31.set r35.toNat (RowsValue.mk x37.n x37.enq v32))]) (hw.pick [0, 1, 2] rfl) (by simp only [List.length_set, List.nil_append, List.cons_append, hl29]))
          · replace hF35 := cneg hC44 hF35
            refine W.skip ?_
            refine W.go hK40 (.cons (i := 7) rfl (.cons (i := 76) rfl (.cons (i := 77) rfl (.cons (i := 78) rfl (.nil))))) ?_
            refine W.reg ?_
            obtain ⟨hk39, hF35⟩ := ckh hF35
            refine WL.q (Y.add (.pl rfl) (.pl rfl) (ok64_lt (hk39))) rfl ?_
            refine WL.q (Y.move (.pl rfl)) rfl ?_
            refine WL.nil ?_
            obtain rfl := Option.some.inj hF35
            exact W.again2 hK36 values31 (v32 + 1) k35 hN35 (Nat.lt_succ_self _) (.cons rfl (.nil)) (.cons (i := 7) rfl (.cons (i := 76) rfl (.cons (i := 77) rfl (.nil)))) (fun wz hw => hw.pick [0, 1, 2] rfl)
        · replace hF35 := cneg hC39 hF35
          refine W.exit ?_
          obtain rfl := Option.some.inj hF35
          exact W.joinAt1 hK33 values31 (einr hN35) (.nil) (.cons (i := 7) rfl (.nil)) (fun wz hw => hw.pick [0, 1, 2] rfl)
      · -- behind
        rintro values30 rfl
        refine W.seqR fun Q48 hQ48 => ?_
        refine WL.q (Y.move (.pl rfl)) rfl ?_
        refine WL.q (Y.assign (.pl rfl)) rfl ?_
        refine WL.q (Y.assign (.pl rfl)) rfl ?_
        refine WL.next hQ48 (.cons (i := 2) rfl (.cons (i := 3) rfl (.nil))) ?_
        obtain rfl := Option.some.inj hF
        refine W.retV (fn := Try.f53) (vs := [.pointer (some ⟨b10, 0, none⟩), .int .i64 0]) Try.results53 ⟨.tmp rfl, ⟨.tmp rfl, trivial⟩⟩ (fun _ _ h => h) (fun wz hw => ?_)
        exact hR _ _ ⟨((some b10), A8, c9, A11, c12), rfl, rfl, (hw.pick [0, 1, 2] rfl)⟩

end Go.Proofs.Ytkmmagekepoapaa
