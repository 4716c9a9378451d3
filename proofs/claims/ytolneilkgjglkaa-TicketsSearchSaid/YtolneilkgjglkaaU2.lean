/- Order at whatever length. -/
import Derived.Test.YtolneilkgjglkaaU1
import Derived.Test.YtolneilkgjglkaaSort
set_option linter.unusedVariables false
set_option linter.unusedSimpArgs false
set_option linter.unusedSectionVars false
set_option maxRecDepth 100000
namespace Go.Proofs.Ytolneilkgjglkaa
open Go.RowKit
theorem isGo17 : IsGo Try.prog 17 := ⟨_, Try.func17, by kernel_rfl, rfl⟩
theorem isGo21 : IsGo Try.prog 21 := ⟨_, Try.func21, by kernel_rfl, rfl⟩
theorem isGo48 : IsGo Try.prog 48 := ⟨_, Try.func48, by kernel_rfl, rfl⟩
theorem bz39 : ∃ i, Try.prog.info? 39 = some i ∧ i.zero = some (Value.agg #[(Value.int .i64 0), (Value.int .i64 0), (Value.int .i64 0), (Value.int .i64 0)]) ∧ i.size = 4 := ⟨_, rfl, by kernel_rfl, by kernel_rfl⟩
theorem eqs29 : EqShape Try.prog 29 [true, true] := ⟨_, Try.underlying29, by kernel_rfl, by kernel_rfl, by kernel_rfl⟩
theorem eqs34 : EqShape Try.prog 34 [true, true, true] := ⟨_, Try.underlying34, by kernel_rfl, by kernel_rfl, by kernel_rfl⟩
theorem shape39 : Shape Try.prog 39 [(0, 1), (1, 1), (2, 1), (3, 1)] #[(Value.int .i64 0), (Value.int .i64 0), (Value.int .i64 0), (Value.int .i64 0)] := ⟨_, _, Value.agg #[(Value.int .i64 0), (Value.int .i64 0), (Value.int .i64 0), (Value.int .i64 0)], Try.underlying39, rfl, by kernel_rfl, rfl, by kernel_rfl, by decide⟩
def tickets_Check (N : Nat) (l1 : (List Event)) : Option (Bool × Int × Int × Int × Int) :=
  bd (tickets_read N l1) fun (r7 : (Bool × (List Call) × (List Int) × (List Int) × Int)) =>
  cond (!(decide (r7.2.2.2.2 = 0)))
    (some (false, 0, 0, 0, r7.2.2.2.2))
    (ck (r7.1) <|
    bd (tickets_log_check N r7.2.1 r7.2.2.1 r7.2.2.2.1) fun (r18 : (Int × Int × Int)) =>
    some ((decide (r18.1 = 0)), r18.1, r18.2.1, r18.2.2, 0))

theorem tickets_Check_ok {N : Nat} {l1 : (List Event)} {res : (Bool × Int × Int × Int × Int)} (hF : tickets_Check N l1 = some res) (w : World) {v5 : Value} (hs4 : SlIn encEvent 4 w v5 l1) :
    Pure Try.prog 21 [v5] w (.tuple #[.bool res.1, .agg (encBad (Bad.mk res.2.1 res.2.2.1 res.2.2.2.1)).toArray, .int .i64 res.2.2.2.2]) := by
  obtain ⟨A2, c3, rfl, hcc3, hs4⟩ := hs4.form
  refine W.enter (n := 23) Try.func21 rfl rfl Sub.refl (by simp) (St.start w) fun R hR => ?_
  unfold tickets_Check at hF
  -- region 0: tickets.go:74
  refine W.seqR fun Q1 hQ1 => ?_
  refine WL.q (Y.assign (.pl rfl)) rfl ?_
  refine WL.step (WO.alloc (cs := (encBad (Bad.mk 0 0 0)).toArray) zero34 rfl rfl fun b6 => ?_)
  refine WL.q (Y.assign (.pl rfl)) rfl ?_
  refine WL.next hQ1 (.cons (i := 0) rfl (.cons (i := 3) rfl (.nil))) ?_
  -- region 1: tickets.go:75
  refine W.seqR fun Q2 hQ2 => ?_
  refine WL.q (Y.move (.pl rfl)) rfl ?_
  obtain ⟨r7, hr7, hF⟩ := bnd hF
  refine WL.step (WO.callM isGo44 (.cons (.pl rfl) (.nil)) rfl (fun wz hw => tickets_read_ok (hr7) wz (hs4.mono hw)) ?_)
  rintro ⟨b8, A9, c10, A11, c12, A13, c14⟩ hl15
  refine WL.q (Y.move (.pl rfl)) rfl ?_
  refine WL.q (Y.extract (.pl rfl) rfl) rfl ?_
  refine WL.q (Y.extract (.pl rfl) rfl) rfl ?_
  refine WL.q (Y.assign (.pl rfl)) rfl ?_
  refine WL.q (Y.assign (.pl rfl)) rfl ?_
  refine WL.next hQ2 (.cons (i := 3) rfl (.cons (i := 5) rfl (.cons (i := 6) rfl (.nil)))) ?_
  refine W.seq fun K3 hK3 => ?_
  -- region 2: tickets.go:76
  refine W.seqR fun Q4 hQ4 => ?_
  refine WL.q (Y.move (.pl rfl)) rfl ?_
  refine WL.q (Y.neq (.pl rfl) (.pl rfl)) rfl ?_
  refine WL.next hQ4 (.cons (i := 3) rfl (.cons (i := 5) rfl (.cons (i := 6) rfl (.cons (i := 14) rfl (.nil))))) ?_
  refine W.cond (.pl rfl) (fun hC5 => ?_) (fun hC5 => ?_)
  · replace hF := cpos hC5 hF
    -- region 3: tickets.go:77
    refine W.seqR fun Q6 hQ6 => ?_
    refine WL.q (Y.build (cs := (encBad (Bad.mk 0 0 0)).toArray) shape34 (.nil) (one_parts trivial) rfl) rfl ?_
    refine WL.q (Y.move (.pl rfl)) rfl ?_
    refine WL.q (Y.assign (.pl rfl)) rfl ?_
    refine WL.step (WO.storeBA (ds := (encBad (Bad.mk 0 0 0))) (cs' := (encBad (Bad.mk 0 0 0))) cells34 (.pl rfl) (.pl rfl) rfl (oneBad _) (i := 4) rfl (lel (o := 0) (l := 3) (m := 3) (by decide) rfl rfl) (putW rfl) ?_)
    refine WL.q (Y.assign (.pl rfl)) rfl ?_
    refine WL.next hQ6 (.cons (i := 2) rfl (.cons (i := 3) rfl (.cons (i := 4) rfl (.nil)))) ?_
    obtain rfl := Option.some.inj hF
    refine W.retV (fn := Try.f21) (vs := [.bool false, .agg (encBad (Bad.mk 0 0 0)).toArray, .int .i64 r7.2.2.2.2]) Try.results21 ⟨.tmp rfl, ⟨.cellA Try.underlying34 rfl cells34 rfl (i := 4) rfl rfl, ⟨.tmp rfl, trivial⟩⟩⟩ (fun _ _ h => h) (fun wz hw => ?_)
    exact hR _ _ ⟨rfl, (hw.pick [] rfl)⟩
  · replace hF := cneg hC5 hF
    refine W.skip ?_
    refine W.go hK3 (.cons (i := 3) rfl (.cons (i := 5) rfl (.nil))) ?_
    -- region 4: tickets.go:79
    obtain ⟨hk16, hF⟩ := ckh hF
    obtain ⟨b17, rfl⟩ := Option.isSome_iff_exists.1 (hl15.symm.trans hk16)
    refine W.seqR fun Q7 hQ7 => ?_
    refine WL.q (Y.move (.pl rfl)) rfl ?_
    obtain ⟨r18, hr18, hF⟩ := bnd hF
    refine WL.step (WO.call (γ := Unit) (fun g => .agg (encBad (Bad.mk r18.1 r18.2.1 r18.2.2)).toArray) (fun g => [cBx b17 71 (Value.slice A9 (r7.2.1).length c10 :: (Value.slice A11 (r7.2.2.1).length c12 :: (Value.slice A13 (r7.2.2.2.1).length c14 :: []))), cR encCall 7 A9 c10 48 r7.2.1, cR (eI .i64) 1 A11 c12 3 r7.2.2.1, cR (eI .i64) 1 A13 c14 3 r7.2.2.2.1, cBx b6 34 (encBad (Bad.mk 0 0 0))]) (fun g => True) isGo45 (.cons (.pl rfl) (.nil)) rfl (fun wz hw => tickets_log_check_ok (T := [cBx b6 34 (encBad (Bad.mk 0 0 0))]) (hr18) (hw.pick [0, 1, 2, 3, 4] rfl) ) ?_)
    rintro _ -
    refine WL.step (WO.alloc (cs := (encBad (Bad.mk 0 0 0)).toArray) zero34 rfl rfl fun b19 => ?_)
    refine WL.step (WO.storeBA (ds := (encBad (Bad.mk r18.1 r18.2.1 r18.2.2))) (cs' := (encBad (Bad.mk r18.1 r18.2.1 r18.2.2))) cells34 (.pl rfl) (.pl rfl) rfl (oneBad _) (i := 0) rfl (lel (o := 0) (l := 3) (m := 3) (by decide) rfl rfl) (putW rfl) ?_)
    refine WL.next hQ7 (.cons (i := 3) rfl (.cons (i := 7) rfl (.nil))) ?_
    -- region 5: tickets.go:80
    refine W.seqT 5 (by kernel_rfl) (by kernel_rfl) fun Q8 hQ8 => ?_
    refine WS.q (Y.fieldAddr0 (off := 0) (ft := 3) Try.underlying34 rfl cells3 (.pl rfl)) rfl ?_
    refine WS.q (Y.loadB (v := .int .i64 r18.1) Try.underlying3 rfl (.pl rfl) (i := 0) rfl (rfl)) rfl ?_
    refine WS.q (Y.eql (.pl rfl) (.pl rfl)) rfl ?_
    refine WS.q (Y.loadBA (ds := (encBad (Bad.mk r18.1 r18.2.1 r18.2.2))) Try.underlying34 rfl cells34 (.pl rfl) (i := 0) rfl rfl subW) rfl ?_
    refine WS.q (Y.assign (.pl rfl)) rfl ?_
    refine WS.tail ?_
    refine WL.step (WO.storeBA (ds := (encBad (Bad.mk r18.1 r18.2.1 r18.2.2))) (cs' := (encBad (Bad.mk r18.1 r18.2.1 r18.2.2))) cells34 (.pl rfl) (.pl rfl) rfl (oneBad _) (i := 5) rfl (lel (o := 0) (l := 3) (m := 3) (by decide) rfl rfl) (putW rfl) ?_)
    refine WL.q (Y.assign (.pl rfl)) rfl ?_
    refine WL.next hQ8 (.cons (i := 2) rfl (.cons (i := 3) rfl (.cons (i := 4) rfl (.nil)))) ?_
    obtain rfl := Option.some.inj hF
    refine W.retV (fn := Try.f21) (vs := [.bool (decide (r18.1 = 0)), .agg (encBad (Bad.mk r18.1 r18.2.1 r18.2.2)).toArray, .int .i64 0]) Try.results21 ⟨.tmp rfl, ⟨.cellA Try.underlying34 rfl cells34 rfl (i := 5) rfl rfl, ⟨.tmp rfl, trivial⟩⟩⟩ (fun _ _ h => h) (fun wz hw => ?_)
    exact hR _ _ ⟨rfl, (hw.pick [] rfl)⟩

def ren46 : Go.Shelf.Ren := ⟨fun x => match x with | 6 => 46 | 14 => 81 | 15 => 82 | 20 => 113 | 21 => 114 | 22 => 115 | 23 => 116 | 24 => 117 | 25 => 118 | 26 => 119 | 27 => 120 | 28 => 121 | 29 => 122 | 46 => 138 | 47 => 139 | 48 => 140 | 49 => 141 | 50 => 142 | 57 => 170 | n => n, fun x => match x with | 0 => 0 | 3 => 3 | 4 => 4 | 5 => 5 | 9 => 9 | 22 => 23 | 24 => 29 | 25 => 73 | 39 => 132 | 45 => 172 | 46 => 173 | 50 => 177 | 53 => 180 | 55 => 182 | 66 => 198 | 70 => 202 | 76 => 233 | 77 => 234 | n => n, fun x => x⟩
theorem lays46 : SlLaysF0.n6 Try.prog ren46 where
  mixed := by kernel_rfl
  f6 := ⟨Try.f46.name, by kernel_rfl, Try.func46.trans (congrArg some (by kernel_rfl))⟩
  f14 := ⟨Try.f81.name, by kernel_rfl, Try.func81.trans (congrArg some (by kernel_rfl))⟩
  f15 := Try.func82.trans (congrArg some (by kernel_rfl))
  f20 := ⟨Try.f113.name, by kernel_rfl, Try.func113.trans (congrArg some (by kernel_rfl))⟩
  f21 := ⟨Try.f114.name, by kernel_rfl, Try.func114.trans (congrArg some (by kernel_rfl))⟩
  f22 := ⟨Try.f115.name, by kernel_rfl, Try.func115.trans (congrArg some (by kernel_rfl))⟩
  f23 := ⟨Try.f116.name, by kernel_rfl, Try.func116.trans (congrArg some (by kernel_rfl))⟩
  f24 := ⟨Try.f117.name, by kernel_rfl, Try.func117.trans (congrArg some (by kernel_rfl))⟩
  f25 := ⟨Try.f118.name, by kernel_rfl, Try.func118.trans (congrArg some (by kernel_rfl))⟩
  f26 := ⟨Try.f119.name, by kernel_rfl, Try.func119.trans (congrArg some (by kernel_rfl))⟩
  f27 := ⟨Try.f120.name, by kernel_rfl, Try.func120.trans (congrArg some (by kernel_rfl))⟩
  f28 := Try.func121.trans (congrArg some (by kernel_rfl))
  f29 := Try.func122.trans (congrArg some (by kernel_rfl))
  f46 := ⟨Try.f138.name, by kernel_rfl, Try.func138.trans (congrArg some (by kernel_rfl))⟩
  f47 := Try.func139.trans (congrArg some (by kernel_rfl))
  f48 := Try.func140.trans (congrArg some (by kernel_rfl))
  f49 := ⟨Try.f141.name, by kernel_rfl, Try.func141.trans (congrArg some (by kernel_rfl))⟩
  f50 := ⟨Try.f142.name, by kernel_rfl, Try.func142.trans (congrArg some (by kernel_rfl))⟩
  f57 := ⟨Try.f170.name, by kernel_rfl, Try.func170.trans (congrArg some (by kernel_rfl))⟩
  t0 := Try.underlying0
  a0 := Try.isAgg0
  z0 := Try.sizeOf0
  v0 := Try.zeroValue0
  t3 := Try.underlying3
  a3 := Try.isAgg3
  z3 := Try.sizeOf3
  v3 := Try.zeroValue3
  t4 := Try.underlying4
  a4 := Try.isAgg4
  z4 := Try.sizeOf4
  v4 := Try.zeroValue4
  t5 := Try.underlying5
  a5 := Try.isAgg5
  z5 := Try.sizeOf5
  v5 := Try.zeroValue5
  t9 := Try.underlying9
  a9 := Try.isAgg9
  z9 := Try.sizeOf9
  v9 := Try.zeroValue9
  t22 := Try.underlying23
  a22 := Try.isAgg23
  z22 := Try.sizeOf23
  v22 := Try.zeroValue23
  t25 := Try.underlying73
  a25 := Try.isAgg73
  z25 := Try.sizeOf73
  v25 := Try.zeroValue73
  t39 := Try.underlying132
  a39 := Try.isAgg132
  z39 := Try.sizeOf132
  v39 := Try.zeroValue132
  t45 := Try.underlying172
  a45 := Try.isAgg172
  z45 := Try.sizeOf172
  v45 := Try.zeroValue172
  t46 := Try.underlying173
  a46 := Try.isAgg173
  z46 := Try.sizeOf173
  v46 := Try.zeroValue173
  t50 := Try.underlying177
  a50 := Try.isAgg177
  z50 := Try.sizeOf177
  v50 := Try.zeroValue177
  t53 := Try.underlying180
  a53 := Try.isAgg180
  z53 := Try.sizeOf180
  v53 := Try.zeroValue180
  t55 := Try.underlying182
  a55 := Try.isAgg182
  z55 := Try.sizeOf182
  v55 := Try.zeroValue182
  t66 := Try.underlying198
  a66 := Try.isAgg198
  z66 := Try.sizeOf198
  v66 := Try.zeroValue198
  t70 := Try.underlying202
  a70 := Try.isAgg202
  z70 := Try.sizeOf202
  v70 := Try.zeroValue202
  t76 := Try.underlying233
  a76 := Try.isAgg233
  z76 := Try.sizeOf233
  v76 := Try.zeroValue233
  t77 := Try.underlying234
  a77 := Try.isAgg234
  z77 := Try.sizeOf234
  v77 := Try.zeroValue234
def sort46S : Step → Bool := fun x => decide (-4611686018427387904 ≤ x.res ∧ x.res ≤ 4611686018427387903)
instance : Inhabited (SubT sort46S) := ⟨⟨Step.z, rfl⟩⟩
abbrev sort46C : Step → Step → Int := fun a b => a.res - b.res
theorem sort46_swo : Go.Sort.SWO (ltOf fun a b : SubT sort46S => sort46C a.1 b.1) := by
  refine ⟨fun x => ?_, fun x y z h1 h2 => ?_, fun x y z h1 h2 => ?_⟩
  · exact decide_eq_false (by show ¬ x.1.res - x.1.res < 0; omega)
  · have h1 : x.1.res - y.1.res < 0 := of_decide_eq_true h1
    have h2 : y.1.res - z.1.res < 0 := of_decide_eq_true h2
    exact decide_eq_true (by show x.1.res - z.1.res < 0; omega)
  · have h1 : ¬ x.1.res - y.1.res < 0 := of_decide_eq_false h1
    have h2 : ¬ y.1.res - z.1.res < 0 := of_decide_eq_false h2
    exact decide_eq_false (by show ¬ x.1.res - z.1.res < 0; omega)
theorem sort46_cmp (x y : Step) (hx : sort46S x = true) (hy : sort46S y = true) (W : World) : Calls Try.prog 47 #[.agg (encStep x).toArray, .agg (encStep y).toArray] W fun e w' => e = .returned (.int .i64 (sort46C x y)) ∧ ∃ q os', w' = Go.Sort.grow (W.drewN q) os' := by
  have hx := of_decide_eq_true hx
  have hy := of_decide_eq_true hy
  have hwr : IntKind.i64.wrap (x.res - y.res) = x.res - y.res := by simp [IntKind.wrap, IntKind.bits, IntKind.signed]; omega
  obtain ⟨a, b⟩ := x
  obtain ⟨a2, b2⟩ := y
  show Calls Try.prog 47 #[.agg #[.int .i64 a, .int .i64 b], .agg #[.int .i64 a2, .int .i64 b2]] W _
  go_enter Try.func47, Try.ntmps47
  go_wp2
  go_ret
  exact ⟨rfl, 0, _, by rw [Go.Sort.alloc_eq_grow, Go.Sort.alloc_eq_grow, Go.Sort.grow_grow]; rfl⟩
def sort46 (N : Nat) (xs : List Step) : Option (List Step) := sortO sort46S sort46C xs
theorem sort46_ok {N : Nat} {sI1 : (List Step)} {AI4 : Option Addr} {cI5 : Nat} {res : (List Step)} (hF : sort46 N sI1 = some res) {w0 w : World} {T : List Chunk} (hw : St w0.heap.size w0 ([cR encStep 2 AI4 cI5 29 sI1] ++ T) w) :
    Calls Try.prog 46 (List.toArray [.slice AI4 (sI1).length cI5, .func (.func 47) #[] #[]]) w (fun e w' => ∃ g : Unit, ((res).length = (sI1).length) ∧ e = .returned (.tuple #[]) ∧ St w0.heap.size w0 ([cR encStep 2 AI4 cI5 29 res] ++ T) w') :=
  sort_calls lays46 Try.isAgg29 Try.sizeOf29 lenStep oneStep sort46_swo (enters_of Try.func47 (by kernel_rfl) rfl) sort46_cmp (fun cap A _ _ _ hw => ((slices_SortFunc_api_Step_api_Step_ok (N := 100) (x3 := []) (by kernel_rfl) hw).mono fun _ _ ⟨_, _, h1, h2⟩ => ⟨h1, h2⟩)) hF hw

def tickets_Order_2_L5 (N : Nat) (r6 : (Bool × (List Call) × (List Int) × (List Int) × Int)) : ((List Step) × Int) → Option (((List Step) × Int) ⊕ (List Step))
  | (out23, v24) =>
    cond (decide (v24 < ((r6.2.1).length : Int)))
      (bd (ix r6.2.1 v24) fun (x25 : Call) =>
      cond (!(decide (x25.to_ = (-1))))
        (ck (limB 16 ((out23).length + (([(Step.mk v24 x25.res)] : List Step)).length)) <|
        ck (ok64 (v24 + 1)) <|
        some (.inl ((out23 ++ ([(Step.mk v24 x25.res)] : List Step)), (v24 + 1))))
        (ck (ok64 (v24 + 1)) <|
        some (.inl (out23, (v24 + 1)))))
      (some (.inr out23))

def tickets_Order_2_L7 (N : Nat) (r6 : (Bool × (List Call) × (List Int) × (List Int) × Int)) : ((List Step) × Int) → Option (((List Step) × Int) ⊕ (List Step))
  | (out38, v39) =>
    cond (decide (v39 < ((r6.2.2.2.1).length : Int)))
      (bd (ix r6.2.2.2.1 v39) fun (x40 : Int) =>
      bd (ix r6.2.2.1 v39) fun (x41 : Int) =>
      ck (limB 16 ((out38).length + (([(Step.mk x41 x40)] : List Step)).length)) <|
      ck (ok64 (v39 + 1)) <|
      some (.inl ((out38 ++ ([(Step.mk x41 x40)] : List Step)), (v39 + 1))))
      (some (.inr out38))

def tickets_Order_2 (N : Nat) (l1 : (List Event)) : Option ((List Step) × Int) :=
  bd (tickets_read N l1) fun (r6 : (Bool × (List Call) × (List Int) × (List Int) × Int)) =>
  cond (!(decide (r6.2.2.2.2 = 0)))
    (some ([], r6.2.2.2.2))
    (ck (r6.1) <|
    bd (tickets_log_check N r6.2.1 r6.2.2.1 r6.2.2.2.1) fun (r17 : (Int × Int × Int)) =>
    cond (!(decide (r17.1 = 0)))
      (some ([], 4))
      (bd (α := (List Step)) (iter (tickets_Order_2_L5 N r6) N ([], 0)) <|
      fun (out20 : (List Step)) => 
        bd (α := (List Step)) (iter (tickets_Order_2_L7 N r6) N (out20, 0)) <|
        fun (out35 : (List Step)) => 
          bd (sort46 N out35) fun (r47 : (List Step)) =>
          some (r47, 0)))

theorem tickets_Order_2_ok {N : Nat} {l1 : (List Event)} {res : ((List Step) × Int)} (hF : tickets_Order_2 N l1 = some res) (w : World) {v5 : Value} (hs4 : SlIn encEvent 4 w v5 l1) :
    Made Try.prog 17 [v5] w (fun g : (Option Addr × Nat) => .tuple #[.slice g.1 (res.1).length g.2, .int .i64 res.2]) (fun g => [cR encStep 2 g.1 g.2 29 res.1]) (fun g => True) := by
  obtain ⟨A2, c3, rfl, hcc3, hs4⟩ := hs4.form
  refine W.enter (n := 70) Try.func17 rfl rfl Sub.refl (by simp) (St.start w) fun R hR => ?_
  unfold tickets_Order_2 at hF
  -- region 0: tickets.go:84
  refine W.seqR fun Q1 hQ1 => ?_
  refine WL.q (Y.assign (.pl rfl)) rfl ?_
  refine WL.q (Y.assign (.pl rfl)) rfl ?_
  refine WL.next hQ1 (.cons (i := 0) rfl (.nil)) ?_
  -- region 1: tickets.go:85
  refine W.seqR fun Q2 hQ2 => ?_
  refine WL.q (Y.move (.pl rfl)) rfl ?_
  obtain ⟨r6, hr6, hF⟩ := bnd hF
  refine WL.step (WO.callM isGo44 (.cons (.pl rfl) (.nil)) rfl (fun wz hw => tickets_read_ok (hr6) wz (hs4.mono hw)) ?_)
  rintro ⟨b7, A8, c9, A10, c11, A12, c13⟩ hl14
  refine WL.q (Y.move (.pl rfl)) rfl ?_
  refine WL.q (Y.extract (.pl rfl) rfl) rfl ?_
  refine WL.q (Y.extract (.pl rfl) rfl) rfl ?_
  refine WL.q (Y.assign (.pl rfl)) rfl ?_
  refine WL.q (Y.assign (.pl rfl)) rfl ?_
  refine WL.next hQ2 (.cons (i := 4) rfl (.cons (i := 5) rfl (.nil))) ?_
  refine W.seq fun K3 hK3 => ?_
  -- region 2: tickets.go:86
  refine W.seqR fun Q4 hQ4 => ?_
  refine WL.q (Y.move (.pl rfl)) rfl ?_
  refine WL.q (Y.neq (.pl rfl) (.pl rfl)) rfl ?_
  refine WL.next hQ4 (.cons (i := 4) rfl (.cons (i := 5) rfl (.cons (i := 17) rfl (.nil)))) ?_
  refine W.cond (.pl rfl) (fun hC5 => ?_) (fun hC5 => ?_)
  · replace hF := cpos hC5 hF
    -- region 3: tickets.go:87
    refine W.seqR fun Q6 hQ6 => ?_
    refine WL.q (Y.move (.pl rfl)) rfl ?_
    refine WL.q (Y.assign (.pl rfl)) rfl ?_
    refine WL.q (Y.assign (.pl rfl)) rfl ?_
    refine WL.next hQ6 (.cons (i := 2) rfl (.cons (i := 3) rfl (.nil))) ?_
    obtain rfl := Option.some.inj hF
    refine W.retV (fn := Try.f17) (vs := [.slice none 0 0, .int .i64 r6.2.2.2.2]) Try.results17 ⟨.tmp rfl, ⟨.tmp rfl, trivial⟩⟩ (fun _ _ h => h) (fun wz hw => ?_)
    exact hR _ _ ⟨(none, 0), trivial, rfl, ((St.nilR (hw.pick [] rfl) encStep 2 29).pick [0] rfl)⟩
  · replace hF := cneg hC5 hF
    refine W.skip ?_
    refine W.go hK3 (.cons (i := 4) rfl (.nil)) ?_
    refine W.seq fun K7 hK7 => ?_
    -- region 4: tickets.go:89
    obtain ⟨hk15, hF⟩ := ckh hF
    obtain ⟨b16, rfl⟩ := Option.isSome_iff_exists.1 (hl14.symm.trans hk15)
    refine W.seqR fun Q8 hQ8 => ?_
    refine WL.q (Y.move (.pl rfl)) rfl ?_
    obtain ⟨r17, hr17, hF⟩ := bnd hF
    refine WL.step (WO.call (γ := Unit) (fun g => .agg (encBad (Bad.mk r17.1 r17.2.1 r17.2.2)).toArray) (fun g => [cBx b16 71 (Value.slice A8 (r6.2.1).length c9 :: (Value.slice A10 (r6.2.2.1).length c11 :: (Value.slice A12 (r6.2.2.2.1).length c13 :: []))), cR encCall 7 A8 c9 48 r6.2.1, cR (eI .i64) 1 A10 c11 3 r6.2.2.1, cR (eI .i64) 1 A12 c13 3 r6.2.2.2.1]) (fun g => True) isGo45 (.cons (.pl rfl) (.nil)) rfl (fun wz hw => tickets_log_check_ok (T := []) (hr17) (hw.pick [0, 1, 2, 3] rfl) ) ?_)
    rintro _ -
    refine WL.q (Y.field (v := .int .i64 r17.1) (off := 0) (ft := 3) Try.underlying34 rfl Try.underlying3 rfl (.pl rfl) rfl) rfl ?_
    refine WL.q (Y.neq (.pl rfl) (.pl rfl)) rfl ?_
    refine WL.next hQ8 (.cons (i := 4) rfl (.cons (i := 22) rfl (.nil))) ?_
    refine W.cond (.pl rfl) (fun hC9 => ?_) (fun hC9 => ?_)
    · replace hF := cpos hC9 hF
      -- region 5: tickets.go:90
      refine W.seqR fun Q10 hQ10 => ?_
      refine WL.q (Y.assign (.pl rfl)) rfl ?_
      refine WL.q (Y.assign (.pl rfl)) rfl ?_
      refine WL.next hQ10 (.cons (i := 2) rfl (.cons (i := 3) rfl (.nil))) ?_
      obtain rfl := Option.some.inj hF
      refine W.retV (fn := Try.f17) (vs := [.slice none 0 0, .int .i64 4]) Try.results17 ⟨.tmp rfl, ⟨.tmp rfl, trivial⟩⟩ (fun _ _ h => h) (fun wz hw => ?_)
      exact hR _ _ ⟨(none, 0), trivial, rfl, ((St.nilR (hw.pick [] rfl) encStep 2 29).pick [0] rfl)⟩
    · replace hF := cneg hC9 hF
      refine W.skip ?_
      refine W.go hK7 (.cons (i := 4) rfl (.nil)) ?_
      -- region 6: tickets.go:92
      refine W.seqR fun Q11 hQ11 => ?_
      refine WL.q (Y.assign (.pl rfl)) rfl ?_
      refine WL.next hQ11 (.cons (i := 4) rfl (.cons (i := 6) rfl (.nil))) ?_
      obtain ⟨o12, hF12, hF⟩ := bnd hF
      refine W.join3 (Em := fun (out20 : (List Step)) (A18 : Option Addr) (c19 : Nat) => [(6, .slice A18 (out20).length c19)]) (M := fun out20 A18 c19 => [cBx b16 71 (Value.slice A8 (r6.2.1).length c9 :: (Value.slice A10 (r6.2.2.1).length c11 :: (Value.slice A12 (r6.2.2.2.1).length c13 :: []))), cR encCall 7 A8 c9 48 r6.2.1, cR (eI .i64) 1 A10 c11 3 r6.2.2.1, cR (eI .i64) 1 A12 c13 3 r6.2.2.2.1, cR encStep 2 A18 c19 29 out20]) (I := fun out20 A18 c19 => out20 = o12) (.cons (i := 4) rfl (.nil)) (fun K13 hK13 => ?_) ?_
      · -- up to
        -- region 7: tickets.go:93
        refine W.seqR fun Q14 hQ14 => ?_
        refine WL.q (Y.move (.pl rfl)) rfl ?_
        refine WL.q (Y.nilCheck (.pl rfl)) rfl ?_
        refine WL.q (Y.fieldAddr0 (off := 0) (ft := 42) Try.underlying71 rfl cells42 (.pl rfl)) rfl ?_
        refine WL.q (Y.loadB (v := .slice A8 (r6.2.1).length c9) Try.underlying42 rfl (.pl rfl) (i := 0) rfl (rfl)) rfl ?_
        refine WL.q (Y.len Try.underlying42 (.pl rfl)) rfl ?_
        refine WL.q (Y.move (.pl rfl)) rfl ?_
        refine WL.next hQ14 (.cons (i := 4) rfl (.cons (i := 6) rfl (.cons (i := 26) rfl (.cons (i := 27) rfl (.cons (i := 28) rfl (.nil)))))) ?_
        refine W.block ?_
        refine W.loop4 (Em := fun (out23 : (List Step)) (v24 : Int) (A21 : Option Addr) (c22 : Nat) => [(6, .slice A21 (out23).length c22), (28, .int .i64 v24)]) (M := fun out23 v24 A21 c22 => [cBx b16 71 (Value.slice A8 (r6.2.1).length c9 :: (Value.slice A10 (r6.2.2.1).length c11 :: (Value.slice A12 (r6.2.2.2.1).length c13 :: []))), cR encCall 7 A8 c9 48 r6.2.1, cR (eI .i64) 1 A10 c11 3 r6.2.2.1, cR (eI .i64) 1 A12 c13 3 r6.2.2.2.1, cR encStep 2 A21 c22 29 out23]) (I := fun out23 v24 A21 c22 k15 => iter (tickets_Order_2_L5 N r6) k15 (out23, v24) = some o12) [] 0 none 0 N (hF12) (.cons rfl (.cons rfl (.nil))) (.cons (i := 4) rfl (.cons (i := 26) rfl (.cons (i := 27) rfl (.nil)))) (fun wz hw => (St.nilR (hw.pick [0, 1, 2, 3] rfl) encStep 2 29).pick [1, 2, 3, 4, 0] rfl) (fun out23 v24 A21 c22 k15 hI K16 hK16 => ?_)
        obtain ⟨k15, t15, rfl, hF15, hN15⟩ := iter_step hI
        -- region 8: tickets.go:93
        refine W.seqR fun Q17 hQ17 => ?_
        refine WL.q (Y.lss (.pl rfl) (.pl rfl)) rfl ?_
        refine WL.next hQ17 (.cons (i := 4) rfl (.cons (i := 6) rfl (.cons (i := 26) rfl (.cons (i := 27) rfl (.cons (i := 28) rfl (.cons (i := 29) rfl (.nil))))))) ?_
        refine W.seq fun K18 hK18 => ?_
        refine W.cond (.pl rfl) (fun hC19 => ?_) (fun hC19 => ?_)
        · replace hF15 := cpos hC19 hF15
          refine W.skip ?_
          refine W.go hK18 (.cons (i := 4) rfl (.cons (i := 6) rfl (.cons (i := 26) rfl (.cons (i := 27) rfl (.cons (i := 28) rfl (.nil)))))) ?_
          refine W.seq fun K20 hK20 => ?_
          refine W.block ?_
          -- region 9: tickets.go:93
          refine W.seqR fun Q21 hQ21 => ?_
          refine WL.q (Y.move (.pl rfl)) rfl ?_
          obtain ⟨x25, hx25, hF15⟩ := bnd hF15
          refine WL.q (Y.rowEl Try.underlying42 cells48 (i := 1) rfl (.pl rfl) rfl (.pl rfl) (ix_lt (hx25))) rfl ?_
          refine WL.q (Y.loadRA (enc := encCall) (ds := (encCall x25)) (a := x25) (idx := v24) (j := 0) Try.underlying48 rfl cells48 lenCall (i := 1) rfl (.pl rfl) (ix_get (hx25)) rfl rfl subW) rfl ?_
          refine WL.step (WO.alloc (cs := (encCall (Call.mk 0 0 0 0 0 0 0)).toArray) zero48 rfl rfl fun b26 => ?_)
          refine WL.q (Y.assign (.pl rfl)) rfl ?_
          refine WL.step (WO.storeBA (ds := (encCall x25)) (cs' := (encCall x25)) cells48 (.pl rfl) (.pl rfl) rfl (oneCall _) (i := 0) rfl (lel (o := 0) (l := 7) (m := 7) (by decide) rfl rfl) (putW rfl) ?_)
          refine WL.next hQ21 (.cons (i := 4) rfl (.cons (i := 6) rfl (.cons (i := 7) rfl (.cons (i := 8) rfl (.cons (i := 26) rfl (.cons (i := 27) rfl (.cons (i := 28) rfl (.nil)))))))) ?_
          -- region 10: tickets.go:94
          refine W.seqR fun Q22 hQ22 => ?_
          refine WL.q (Y.fieldAddr0 (off := 6) (ft := 3) Try.underlying48 rfl cells3 (.pl rfl)) rfl ?_
          refine WL.q (Y.loadB (v := .int .i64 x25.to_) Try.underlying3 rfl (.pl rfl) (i := 0) rfl (rfl)) rfl ?_
          refine WL.q (Y.neq (.pl rfl) (.pl rfl)) rfl ?_
          refine WL.next hQ22 (.cons (i := 4) rfl (.cons (i := 6) rfl (.cons (i := 7) rfl (.cons (i := 8) rfl (.cons (i := 26) rfl (.cons (i := 27) rfl (.cons (i := 28) rfl (.cons (i := 35) rfl (.nil))))))))) ?_
          refine W.cond (.pl rfl) (fun hC23 => ?_) (fun hC23 => ?_)
          · replace hF15 := cpos hC23 hF15
            -- region 11: tickets.go:95
            refine W.reg ?_
            refine WL.q (Y.move (.pl rfl)) rfl ?_
            refine WL.q (Y.move (.pl rfl)) rfl ?_
            refine WL.q (Y.fieldAddr0 (off := 4) (ft := 3) Try.underlying48 rfl cells3 (.pl rfl)) rfl ?_
            refine WL.q (Y.loadB (v := .int .i64 x25.res) Try.underlying3 rfl (.pl rfl) (i := 0) rfl (rfl)) rfl ?_
            refine WL.q (Y.build (cs := (encStep (Step.mk v24 x25.res)).toArray) shape29 (.cons (.pl rfl) (.cons (.pl rfl) (.nil))) (one_parts ⟨rfl, ⟨rfl, trivial⟩⟩) rfl) rfl ?_
            refine WL.step (WO.bsliceC (enc := encStep) (ys := ([(Step.mk v24 x25.res)] : List Step)) Try.underlying23 bz29 (.cons (.pl rfl) (.nil)) rfl lenStep rfl rfl (by decide) (by decide) rfl fun b27 => ?_)
            obtain ⟨hk30, hF15⟩ := ckh hF15
            refine WL.step (WO.appendC (enc := encStep) Try.underlying23 ap29 lenStep oneStep (.pl rfl) rfl (.pl rfl) (i := 6) rfl (m2 := 0) rfl (hk30) rfl fun A28 c29 => ?_)
            refine WL.q (Y.assign (.pl rfl)) rfl ?_
            refine WL.nil ?_
            refine W.go hK20 (.cons (i := 4) rfl (.cons (i := 6) rfl (.cons (i := 26) rfl (.cons (i := 27) rfl (.cons (i := 28) rfl (.nil)))))) ?_
            -- region 12: tickets.go:93
            refine W.reg ?_
            obtain ⟨hk31, hF15⟩ := ckh hF15
            refine WL.q (Y.add (.pl rfl) (.pl rfl) (ok64_lt (hk31))) rfl ?_
            refine WL.q (Y.move (.pl rfl)) rfl ?_
            refine WL.nil ?_
            obtain rfl := Option.some.inj hF15
            exact W.again4 hK16 (out23 ++ ([(Step.mk v24 x25.res)] : List Step)) (v24 + 1) A28 c29 k15 hN15 (Nat.lt_succ_self _) (.cons rfl (.cons rfl (.nil))) (.cons (i := 4) rfl (.cons (i := 26) rfl (.cons (i := 27) rfl (.nil)))) (fun wz hw => hw.pick [2, 3, 4, 5, 6] rfl)
          · replace hF15 := cneg hC23 hF15
            refine W.skip ?_
            refine W.go hK20 (.cons (i := 4) rfl (.cons (i := 6) rfl (.cons (i := 26) rfl (.cons (i := 27) rfl (.cons (i := 28) rfl (.nil)))))) ?_
            -- region 12: tickets.go:93
            refine W.reg ?_
            obtain ⟨hk32, hF15⟩ := ckh hF15
            refine WL.q (Y.add (.pl rfl) (.pl rfl) (ok64_lt (hk32))) rfl ?_
            refine WL.q (Y.move (.pl rfl)) rfl ?_
            refine WL.nil ?_
            obtain rfl := Option.some.inj hF15
            exact W.again4 hK16 out23 (v24 + 1) A21 c22 k15 hN15 (Nat.lt_succ_self _) (.cons rfl (.cons rfl (.nil))) (.cons (i := 4) rfl (.cons (i := 26) rfl (.cons (i := 27) rfl (.nil)))) (fun wz hw => hw.pick [1, 2, 3, 4, 5] rfl)
        · replace hF15 := cneg hC19 hF15
          refine W.exit ?_
          obtain rfl := Option.some.inj hF15
          exact W.joinAt3 hK13 out23 A21 c22 (einr hN15) (.cons rfl (.nil)) (.cons (i := 4) rfl (.nil)) (fun wz hw => hw.pick [0, 1, 2, 3, 4] rfl)
      · -- behind
        rintro out20 A18 c19 rfl
        obtain ⟨o27, hF27, hF⟩ := bnd hF
        refine W.join3 (Em := fun (out35 : (List Step)) (A33 : Option Addr) (c34 : Nat) => [(6, .slice A33 (out35).length c34)]) (M := fun out35 A33 c34 => [cR encStep 2 A33 c34 29 out35]) (I := fun out35 A33 c34 => out35 = o27) (.nil) (fun K28 hK28 => ?_) ?_
        · -- up to
          -- region 13: tickets.go:98
          refine W.seqR fun Q29 hQ29 => ?_
          refine WL.q (Y.move (.pl rfl)) rfl ?_
          refine WL.q (Y.nilCheck (.pl rfl)) rfl ?_
          refine WL.q (Y.fieldAddr0 (off := 2) (ft := 45) Try.underlying71 rfl cells45 (.pl rfl)) rfl ?_
          refine WL.q (Y.loadB (v := .slice A12 (r6.2.2.2.1).length c13) Try.underlying45 rfl (.pl rfl) (i := 0) rfl (rfl)) rfl ?_
          refine WL.q (Y.len Try.underlying45 (.pl rfl)) rfl ?_
          refine WL.q (Y.move (.pl rfl)) rfl ?_
          refine WL.next hQ29 (.cons (i := 4) rfl (.cons (i := 6) rfl (.cons (i := 47) rfl (.cons (i := 48) rfl (.cons (i := 49) rfl (.nil)))))) ?_
          refine W.block ?_
          refine W.loop4 (Em := fun (out38 : (List Step)) (v39 : Int) (A36 : Option Addr) (c37 : Nat) => [(6, .slice A36 (out38).length c37), (49, .int .i64 v39)]) (M := fun out38 v39 A36 c37 => [cBx b16 71 (Value.slice A8 (r6.2.1).length c9 :: (Value.slice A10 (r6.2.2.1).length c11 :: (Value.slice A12 (r6.2.2.2.1).length c13 :: []))), cR encCall 7 A8 c9 48 r6.2.1, cR (eI .i64) 1 A10 c11 3 r6.2.2.1, cR (eI .i64) 1 A12 c13 3 r6.2.2.2.1, cR encStep 2 A36 c37 29 out38]) (I := fun out38 v39 A36 c37 k30 => iter (tickets_Order_2_L7 N r6) k30 (out38, v39) = some o27) out20 0 A18 c19 N (hF27) (.cons rfl (.cons rfl (.nil))) (.cons (i := 4) rfl (.cons (i := 47) rfl (.cons (i := 48) rfl (.nil)))) (fun wz hw => hw.pick [0, 1, 2, 3, 4] rfl) (fun out38 v39 A36 c37 k30 hI K31 hK31 => ?_)
          obtain ⟨k30, t30, rfl, hF30, hN30⟩ := iter_step hI
          -- region 14: tickets.go:98
          refine W.seqR fun Q32 hQ32 => ?_
          refine WL.q (Y.lss (.pl rfl) (.pl rfl)) rfl ?_
          refine WL.next hQ32 (.cons (i := 4) rfl (.cons (i := 6) rfl (.cons (i := 47) rfl (.cons (i := 48) rfl (.cons (i := 49) rfl (.cons (i := 50) rfl (.nil))))))) ?_
          refine W.seq fun K33 hK33 => ?_
          refine W.cond (.pl rfl) (fun hC34 => ?_) (fun hC34 => ?_)
          · replace hF30 := cpos hC34 hF30
            refine W.skip ?_
            refine W.go hK33 (.cons (i := 4) rfl (.cons (i := 6) rfl (.cons (i := 47) rfl (.cons (i := 48) rfl (.cons (i := 49) rfl (.nil)))))) ?_
            refine W.seq fun K35 hK35 => ?_
            refine W.block ?_
            -- region 15: tickets.go:98
            refine W.seqR fun Q36 hQ36 => ?_
            refine WL.q (Y.move (.pl rfl)) rfl ?_
            obtain ⟨x40, hx40, hF30⟩ := bnd hF30
            refine WL.q (Y.rowEl Try.underlying45 cells3 (i := 3) rfl (.pl rfl) rfl (.pl rfl) (ix_lt (hx40))) rfl ?_
            refine WL.q (Y.loadR (enc := (eI .i64)) (v := .int .i64 x40) (a := x40) (idx := v39) (j := 0) Try.underlying3 rfl (fun _ => rfl) (i := 3) rfl (.pl rfl) (ix_get (hx40)) rfl rfl) rfl ?_
            refine WL.q (Y.assign (.pl rfl)) rfl ?_
            refine WL.q (Y.assign (.pl rfl)) rfl ?_
            refine WL.next hQ36 (.cons (i := 4) rfl (.cons (i := 6) rfl (.cons (i := 9) rfl (.cons (i := 10) rfl (.cons (i := 47) rfl (.cons (i := 48) rfl (.cons (i := 49) rfl (.nil)))))))) ?_
            -- region 16: tickets.go:99
            refine W.reg ?_
            refine WL.q (Y.move (.pl rfl)) rfl ?_
            refine WL.q (Y.move (.pl rfl)) rfl ?_
            refine WL.q (Y.nilCheck (.pl rfl)) rfl ?_
            refine WL.q (Y.fieldAddr0 (off := 1) (ft := 45) Try.underlying71 rfl cells45 (.pl rfl)) rfl ?_
            refine WL.q (Y.loadB (v := .slice A10 (r6.2.2.1).length c11) Try.underlying45 rfl (.pl rfl) (i := 0) rfl (rfl)) rfl ?_
            refine WL.q (Y.move (.pl rfl)) rfl ?_
            obtain ⟨x41, hx41, hF30⟩ := bnd hF30
            refine WL.q (Y.rowEl Try.underlying45 cells3 (i := 2) rfl (.pl rfl) rfl (.pl rfl) (ix_lt (hx41))) rfl ?_
            refine WL.q (Y.loadR (enc := (eI .i64)) (v := .int .i64 x41) (a := x41) (idx := v39) (j := 0) Try.underlying3 rfl (fun _ => rfl) (i := 2) rfl (.pl rfl) (ix_get (hx41)) rfl rfl) rfl ?_
            refine WL.q (Y.move (.pl rfl)) rfl ?_
            refine WL.q (Y.build (cs := (encStep (Step.mk x41 x40)).toArray) shape29 (.cons (.pl rfl) (.cons (.pl rfl) (.nil))) (one_parts ⟨rfl, ⟨rfl, trivial⟩⟩) rfl) rfl ?_
            refine WL.step (WO.bsliceC (enc := encStep) (ys := ([(Step.mk x41 x40)] : List Step)) Try.underlying23 bz29 (.cons (.pl rfl) (.nil)) rfl lenStep rfl rfl (by decide) (by decide) rfl fun b42 => ?_)
            obtain ⟨hk45, hF30⟩ := ckh hF30
            refine WL.step (WO.appendC (enc := encStep) Try.underlying23 ap29 lenStep oneStep (.pl rfl) rfl (.pl rfl) (i := 5) rfl (m2 := 0) rfl (hk45) rfl fun A43 c44 => ?_)
            refine WL.q (Y.assign (.pl rfl)) rfl ?_
            refine WL.nil ?_
            refine W.go hK35 (.cons (i := 4) rfl (.cons (i := 6) rfl (.cons (i := 47) rfl (.cons (i := 48) rfl (.cons (i := 49) rfl (.nil)))))) ?_
            -- region 17: tickets.go:98
            refine W.reg ?_
            obtain ⟨hk46, hF30⟩ := ckh hF30
            refine WL.q (Y.add (.pl rfl) (.pl rfl) (ok64_lt (hk46))) rfl ?_
            refine WL.q (Y.move (.pl rfl)) rfl ?_
            refine WL.nil ?_
            obtain rfl := Option.some.inj hF30
            exact W.again4 hK31 (out38 ++ ([(Step.mk x41 x40)] : List Step)) (v39 + 1) A43 c44 k30 hN30 (Nat.lt_succ_self _) (.cons rfl (.cons rfl (.nil))) (.cons (i := 4) rfl (.cons (i := 47) rfl (.cons (i := 48) rfl (.nil)))) (fun wz hw => hw.pick [1, 2, 3, 4, 5] rfl)
          · replace hF30 := cneg hC34 hF30
            refine W.exit ?_
            obtain rfl := Option.some.inj hF30
            exact W.joinAt3 hK28 out38 A36 c37 (einr hN30) (.cons rfl (.nil)) (.nil) (fun wz hw => hw.pick [4] rfl)
        · -- behind
          rintro out35 A33 c34 rfl
          -- region 18: tickets.go:101
          refine W.seqR fun Q39 hQ39 => ?_
          refine WL.q (Y.move (.pl rfl)) rfl ?_
          obtain ⟨r47, hr47, hF⟩ := bnd hF
          refine WL.step (WO.call (γ := Unit) (fun g => .tuple #[]) (fun g => [cR encStep 2 A33 c34 29 r47]) (fun g => (r47).length = (out35).length) isGo46 (.cons (.pl rfl) (.cons (.pl rfl) (.nil))) rfl (fun wz hw => sort46_ok (T := []) (hr47) (hw.pick [0] rfl) ) ?_)
          rintro _ hl48
          refine WL.next hQ39 (.cons (i := 6) rfl (.nil)) ?_
          -- region 19: tickets.go:102
          refine W.seqR fun Q40 hQ40 => ?_
          refine WL.q (Y.move (.pl rfl)) rfl ?_
          refine WL.q (Y.assign (.pl rfl)) rfl ?_
          refine WL.q (Y.assign (.pl rfl)) rfl ?_
          refine WL.next hQ40 (.cons (i := 2) rfl (.cons (i := 3) rfl (.nil))) ?_
          obtain rfl := Option.some.inj hF
          refine W.retV (fn := Try.f17) (vs := [.slice A33 (out35).length c34, .int .i64 0]) Try.results17 ⟨.tmp rfl, ⟨.tmp rfl, trivial⟩⟩ (fun _ _ h => h) (fun wz hw => ?_)
          exact hR _ _ ⟨(A33, c34), trivial, by simp [resV, hl48], (hw.pick [0] rfl)⟩

def slices_Equal_api_Step_api_Step_L3 (N : Nat) (s11 : (List Step)) (s26 : (List Step)) : Int → Option (Int ⊕ (Unit ⊕ Bool))
  | v11 =>
    cond (decide (v11 < ((s11).length : Int)))
      (bd (ix s11 v11) fun (x12 : Step) =>
      bd (ix s26 v11) fun (x13 : Step) =>
      cond (!(decide (x12 = x13)))
        (some (.inr (.inr false)))
        (ck (ok64 (v11 + 1)) <|
        some (.inl (v11 + 1))))
      (some (.inr (.inl ())))

def slices_Equal_api_Step_api_Step (N : Nat) (s11 : (List Step)) (s26 : (List Step)) : Option Bool :=
  cond (!(decide (((s11).length : Int) = ((s26).length : Int))))
    (some false)
    (bd (α := (Unit ⊕ Bool)) (iter (slices_Equal_api_Step_api_Step_L3 N s11 s26) N 0) <|
    Sum.elim (fun _ => 
      some true) (fun p => some p))

theorem slices_Equal_api_Step_api_Step_ok {N : Nat} {s11 : (List Step)} {s26 : (List Step)} {res : Bool} (hF : slices_Equal_api_Step_api_Step N s11 s26 = some res) (w : World) {v5 : Value} (hs4 : SlIn encStep 2 w v5 s11) {v10 : Value} (hs9 : SlIn encStep 2 w v10 s26) :
    Pure Try.prog 48 [v5, v10] w (.bool res) := by
  obtain ⟨A2, c3, rfl, hcc3, hs4⟩ := hs4.form
  obtain ⟨A7, c8, rfl, hcc8, hs9⟩ := hs9.form
  refine W.enter (n := 26) Try.func48 rfl rfl Sub.refl (by simp) (St.start w) fun R hR => ?_
  unfold slices_Equal_api_Step_api_Step at hF
  -- region 0: slices.go:20
  refine W.seqR fun Q1 hQ1 => ?_
  refine WL.q (Y.assign (.pl rfl)) rfl ?_
  refine WL.next hQ1 (.cons (i := 0) rfl (.cons (i := 1) rfl (.nil))) ?_
  refine W.seq fun K2 hK2 => ?_
  -- region 1: slices.go:21
  refine W.seqR fun Q3 hQ3 => ?_
  refine WL.q (Y.move (.pl rfl)) rfl ?_
  refine WL.q (Y.len Try.underlying23 (.pl rfl)) rfl ?_
  refine WL.q (Y.move (.pl rfl)) rfl ?_
  refine WL.q (Y.len Try.underlying23 (.pl rfl)) rfl ?_
  refine WL.q (Y.neq (.pl rfl) (.pl rfl)) rfl ?_
  refine WL.next hQ3 (.cons (i := 0) rfl (.cons (i := 1) rfl (.cons (i := 10) rfl (.nil)))) ?_
  refine W.cond (.pl rfl) (fun hC4 => ?_) (fun hC4 => ?_)
  · replace hF := cpos hC4 hF
    -- region 2: slices.go:22
    refine W.seqR fun Q5 hQ5 => ?_
    refine WL.q (Y.assign (.pl rfl)) rfl ?_
    refine WL.next hQ5 (.cons (i := 4) rfl (.nil)) ?_
    obtain rfl := Option.some.inj hF
    refine W.retV (fn := Try.f48) (vs := [.bool false]) Try.results48 ⟨.tmp rfl, trivial⟩ (fun _ _ h => h) (fun wz hw => ?_)
    exact hR _ _ ⟨rfl, (hw.pick [] rfl)⟩
  · replace hF := cneg hC4 hF
    refine W.skip ?_
    refine W.go hK2 (.cons (i := 0) rfl (.cons (i := 1) rfl (.nil))) ?_
    obtain ⟨o6, hF6, hF⟩ := bnd hF
    refine W.join0 (Em := []) (M := []) (I := (.inl ()) = o6) (.nil) (fun K7 hK7 => ?_) ?_
    · -- up to
      -- region 3: slices.go:24
      refine W.seqR fun Q8 hQ8 => ?_
      refine WL.q (Y.move (.pl rfl)) rfl ?_
      refine WL.q (Y.len Try.underlying23 (.pl rfl)) rfl ?_
      refine WL.q (Y.move (.pl rfl)) rfl ?_
      refine WL.next hQ8 (.cons (i := 0) rfl (.cons (i := 1) rfl (.cons (i := 12) rfl (.cons (i := 13) rfl (.nil))))) ?_
      refine W.block ?_
      refine W.loop1 (Em := fun (v11 : Int) => [(13, .int .i64 v11)]) (M := fun v11 => []) (I := fun v11 k9 => iter (slices_Equal_api_Step_api_Step_L3 N s11 s26) k9 v11 = some o6) 0 N (hF6) (.cons rfl (.nil)) (.cons (i := 0) rfl (.cons (i := 1) rfl (.cons (i := 12) rfl (.nil)))) (fun wz hw => hw.pick [] rfl) (fun v11 k9 hI K10 hK10 => ?_)
      obtain ⟨k9, t9, rfl, hF9, hN9⟩ := iter_step hI
      -- region 4: slices.go:24
      refine W.seqR fun Q11 hQ11 => ?_
      refine WL.q (Y.lss (.pl rfl) (.pl rfl)) rfl ?_
      refine WL.next hQ11 (.cons (i := 0) rfl (.cons (i := 1) rfl (.cons (i := 12) rfl (.cons (i := 13) rfl (.cons (i := 14) rfl (.nil)))))) ?_
      refine W.seq fun K12 hK12 => ?_
      refine W.cond (.pl rfl) (fun hC13 => ?_) (fun hC13 => ?_)
      · replace hF9 := cpos hC13 hF9
        refine W.skip ?_
        refine W.go hK12 (.cons (i := 0) rfl (.cons (i := 1) rfl (.cons (i := 12) rfl (.cons (i := 13) rfl (.nil))))) ?_
        refine W.seq fun K14 hK14 => ?_
        refine W.block ?_
        -- region 5: slices.go:24
        refine W.seqR fun Q15 hQ15 => ?_
        refine WL.q (Y.move (.pl rfl)) rfl ?_
        refine WL.q (Y.assign (.pl rfl)) rfl ?_
        refine WL.next hQ15 (.cons (i := 0) rfl (.cons (i := 1) rfl (.cons (i := 5) rfl (.cons (i := 12) rfl (.cons (i := 13) rfl (.nil)))))) ?_
        -- region 6: slices.go:25
        refine W.seqD (by kernel_rfl) (by kernel_rfl) fun R16 hR16 => ?_
        refine WD.q (Y.move (.pl rfl)) rfl ?_
        refine WD.q (Y.move (.pl rfl)) rfl ?_
        obtain ⟨x12, hx12, hF9⟩ := bnd hF9
        refine WD.q (Y.slEl Try.underlying23 cells29 hs4 (.pl rfl) (.pl rfl) (ix_lt (hx12))) rfl ?_
        refine WD.q (Y.loadSA (enc := encStep) (ds := (encStep x12)) (j := 0) Try.underlying29 rfl cells29 hs4 (.pl rfl) (hx12) rfl rfl subW) rfl ?_
        refine WD.q (Y.move (.pl rfl)) rfl ?_
        refine WD.q (Y.move (.pl rfl)) rfl ?_
        obtain ⟨x13, hx13, hF9⟩ := bnd hF9
        refine WD.q (Y.slEl Try.underlying23 cells29 hs9 (.pl rfl) (.pl rfl) (ix_lt (hx13))) rfl ?_
        refine WD.q (Y.loadSA (enc := encStep) (ds := (encStep x13)) (j := 0) Try.underlying29 rfl cells29 hs9 (.pl rfl) (hx13) rfl rfl subW) rfl ?_
        refine WD.q (Y.neqS eqs29 (.pl rfl) (.pl rfl) (eqStep x12 x13)) rfl ?_
        refine WD.next hR16 (.cons (i := 0) rfl (.cons (i := 1) rfl (.cons (i := 12) rfl (.cons (i := 13) rfl (.cons (i := 24) rfl (.nil)))))) ?_
        refine W.cond (.pl rfl) (fun hC17 => ?_) (fun hC17 => ?_)
        · replace hF9 := cpos hC17 hF9
          -- region 7: slices.go:26
          refine W.seqR fun Q18 hQ18 => ?_
          refine WL.q (Y.assign (.pl rfl)) rfl ?_
          refine WL.next hQ18 (.cons (i := 4) rfl (.nil)) ?_
          obtain rfl := Option.some.inj hF9
          obtain rfl := einr hN9
          obtain rfl := Option.some.inj hF
          refine W.retV (fn := Try.f48) (vs := [.bool false]) Try.results48 ⟨.tmp rfl, trivial⟩ (fun _ _ h => h) (fun wz hw => ?_)
          exact hR _ _ ⟨rfl, (hw.pick [] rfl)⟩
        · replace hF9 := cneg hC17 hF9
          refine W.skip ?_
          refine W.go hK14 (.cons (i := 0) rfl (.cons (i := 1) rfl (.cons (i := 12) rfl (.cons (i := 13) rfl (.nil))))) ?_
          -- region 8: slices.go:24
          refine W.reg ?_
          obtain ⟨hk14, hF9⟩ := ckh hF9
          refine WL.q (Y.add (.pl rfl) (.pl rfl) (ok64_lt (hk14))) rfl ?_
          refine WL.q (Y.move (.pl rfl)) rfl ?_
          refine WL.nil ?_
          obtain rfl := Option.some.inj hF9
          exact W.again1 hK10 (v11 + 1) k9 hN9 (Nat.lt_succ_self _) (.cons rfl (.nil)) (.cons (i := 0) rfl (.cons (i := 1) rfl (.cons (i := 12) rfl (.nil)))) (fun wz hw => hw.pick [] rfl)
      · replace hF9 := cneg hC13 hF9
        refine W.exit ?_
        obtain rfl := Option.some.inj hF9
        exact W.joinAt0 hK7  (einr hN9) (.nil) (.nil) (fun wz hw => hw.pick [] rfl)
    · -- behind
      rintro  rfl
      -- region 9: slices.go:29
      refine W.seqR fun Q20 hQ20 => ?_
      refine WL.q (Y.assign (.pl rfl)) rfl ?_
      refine WL.next hQ20 (.cons (i := 4) rfl (.nil)) ?_
      obtain rfl := Option.some.inj hF
      refine W.retV (fn := Try.f48) (vs := [.bool true]) Try.results48 ⟨.tmp rfl, trivial⟩ (fun _ _ h => h) (fun wz hw => ?_)
      exact hR _ _ ⟨rfl, (hw.pick [] rfl)⟩

def alibkeep_ticketsLives (N : Nat) : Option Bool :=
  bd (tickets_Check N ([(Event.mk 0 0 10 0), (Event.mk 1 0 10 0), (Event.mk 2 0 10 0), (Event.mk 2 0 0 2), (Event.mk 1 0 0 0)] : List Event)) fun (r2 : (Bool × Int × Int × Int × Int)) =>
  bd (tickets_Order_2 N ([(Event.mk 0 0 10 0), (Event.mk 1 0 10 0), (Event.mk 2 0 10 0), (Event.mk 2 0 0 2), (Event.mk 1 0 0 0)] : List Event)) fun (r4 : ((List Step) × Int)) =>
  ck (slB (([(Event.mk 0 0 10 0), (Event.mk 1 0 10 0), (Event.mk 2 0 10 0), (Event.mk 2 0 0 2), (Event.mk 1 0 0 0)] : List Event)).length 1 ((([(Event.mk 0 0 10 0), (Event.mk 1 0 10 0), (Event.mk 2 0 10 0), (Event.mk 2 0 0 2), (Event.mk 1 0 0 0)] : List Event)).length : Int)) <|
  bd (tickets_Check N (([(Event.mk 0 0 10 0), (Event.mk 1 0 10 0), (Event.mk 2 0 10 0), (Event.mk 2 0 0 2), (Event.mk 1 0 0 0)] : List Event).drop (1 : Int).toNat)) fun (r8 : (Bool × Int × Int × Int × Int)) =>
  bd (α := Bool) (cond (((((decide (r2.2.2.2.2 = 0)) && (decide (r4.2 = 0))) && (decide (r8.2.2.2.2 = 0))) && r2.1) == true)
      (bd (slices_Equal_api_Step_api_Step N r4.1 ([(Step.mk 1 0), (Step.mk 0 1), (Step.mk 2 2)] : List Step)) fun (r12 : Bool) =>
      some ((((((decide (r2.2.2.2.2 = 0)) && (decide (r4.2 = 0))) && (decide (r8.2.2.2.2 = 0))) && r2.1) && r12) && (decide ((Bad.mk r8.2.1 r8.2.2.1 r8.2.2.2.1) = (Bad.mk 8 1 0)))))
      (some ((((((decide (r2.2.2.2.2 = 0)) && (decide (r4.2 = 0))) && (decide (r8.2.2.2.2 = 0))) && r2.1) && false) && (decide ((Bad.mk r8.2.1 r8.2.2.1 r8.2.2.2.1) = (Bad.mk 8 1 0)))))) <|
  fun (v10 : Bool) => 
    some v10

theorem alibkeep_ticketsLives_ok {N : Nat} {res : Bool} (hF : alibkeep_ticketsLives N = some res) (w : World) :
    Pure Try.prog 18 [] w (.bool res) := by
  refine W.enter (n := 60) Try.func18 rfl rfl Sub.refl (by simp) (St.start w) fun R hR => ?_
  unfold alibkeep_ticketsLives at hF
  -- region 0: tickets.go:12
  refine W.seqR fun Q1 hQ1 => ?_
  refine WL.q (Y.assign (.pl rfl)) rfl ?_
  refine WL.next hQ1 (.nil) ?_
  -- region 1: tickets.go:13
  refine W.seqR fun Q2 hQ2 => ?_
  refine WL.q (Y.build (cs := (encEvent (Event.mk 0 0 10 0)).toArray) shape39 (.cons (.pl rfl) (.cons (.pl rfl) (.nil))) (one_parts ⟨rfl, ⟨rfl, trivial⟩⟩) rfl) rfl ?_
  refine WL.q (Y.build (cs := (encEvent (Event.mk 1 0 10 0)).toArray) shape39 (.cons (.pl rfl) (.cons (.pl rfl) (.nil))) (one_parts ⟨rfl, ⟨rfl, trivial⟩⟩) rfl) rfl ?_
  refine WL.q (Y.build (cs := (encEvent (Event.mk 2 0 10 0)).toArray) shape39 (.cons (.pl rfl) (.cons (.pl rfl) (.nil))) (one_parts ⟨rfl, ⟨rfl, trivial⟩⟩) rfl) rfl ?_
  refine WL.q (Y.build (cs := (encEvent (Event.mk 2 0 0 2)).toArray) shape39 (.cons (.pl rfl) (.cons (.pl rfl) (.nil))) (one_parts ⟨rfl, ⟨rfl, trivial⟩⟩) rfl) rfl ?_
  refine WL.q (Y.build (cs := (encEvent (Event.mk 1 0 0 0)).toArray) shape39 (.cons (.pl rfl) (.cons (.pl rfl) (.nil))) (one_parts ⟨rfl, ⟨rfl, trivial⟩⟩) rfl) rfl ?_
  refine WL.step (WO.bsliceC (enc := encEvent) (ys := ([(Event.mk 0 0 10 0), (Event.mk 1 0 10 0), (Event.mk 2 0 10 0), (Event.mk 2 0 0 2), (Event.mk 1 0 0 0)] : List Event)) Try.underlying22 bz39 (.cons (.pl rfl) (.cons (.pl rfl) (.cons (.pl rfl) (.cons (.pl rfl) (.cons (.pl rfl) (.nil)))))) rfl lenEvent rfl rfl (by decide) (by decide) rfl fun b1 => ?_)
  refine WL.q (Y.assign (.pl rfl)) rfl ?_
  refine WL.next hQ2 (.cons (i := 1) rfl (.nil)) ?_
  -- region 2: tickets.go:14
  refine W.seqR fun Q3 hQ3 => ?_
  refine WL.q (Y.move (.pl rfl)) rfl ?_
  obtain ⟨r2, hr2, hF⟩ := bnd hF
  refine WL.step (WO.callP isGo21 (.cons (.pl rfl) (.nil)) rfl (fun wz hw => tickets_Check_ok (hr2) wz (SlIn.ofRow lenEvent hw (i := 0) rfl)) ?_)
  refine WL.q (Y.move (.pl rfl)) rfl ?_
  refine WL.q (Y.extract (.pl rfl) rfl) rfl ?_
  refine WL.q (Y.extract (.pl rfl) rfl) rfl ?_
  refine WL.q (Y.extract (.pl rfl) rfl) rfl ?_
  refine WL.step (WO.alloc (cs := (encBad (Bad.mk 0 0 0)).toArray) zero34 rfl rfl fun b3 => ?_)
  refine WL.q (Y.assign (.pl rfl)) rfl ?_
  refine WL.step (WO.storeBA (ds := (encBad (Bad.mk r2.2.1 r2.2.2.1 r2.2.2.2.1))) (cs' := (encBad (Bad.mk r2.2.1 r2.2.2.1 r2.2.2.2.1))) cells34 (.pl rfl) (.pl rfl) rfl (oneBad _) (i := 0) rfl (lel (o := 0) (l := 3) (m := 3) (by decide) rfl rfl) (putW rfl) ?_)
  refine WL.q (Y.assign (.pl rfl)) rfl ?_
  refine WL.next hQ3 (.cons (i := 1) rfl (.cons (i := 2) rfl (.cons (i := 4) rfl (.nil)))) ?_
  -- region 3: tickets.go:15
  refine W.seqR fun Q4 hQ4 => ?_
  refine WL.q (Y.move (.pl rfl)) rfl ?_
  obtain ⟨r4, hr4, hF⟩ := bnd hF
  refine WL.step (WO.callM isGo17 (.cons (.pl rfl) (.nil)) rfl (fun wz hw => tickets_Order_2_ok (hr4) wz (SlIn.ofRow lenEvent hw (i := 1) rfl)) ?_)
  rintro ⟨A5, c6⟩ -
  refine WL.q (Y.move (.pl rfl)) rfl ?_
  refine WL.q (Y.extract (.pl rfl) rfl) rfl ?_
  refine WL.q (Y.extract (.pl rfl) rfl) rfl ?_
  refine WL.q (Y.assign (.pl rfl)) rfl ?_
  refine WL.q (Y.assign (.pl rfl)) rfl ?_
  refine WL.next hQ4 (.cons (i := 1) rfl (.cons (i := 2) rfl (.cons (i := 4) rfl (.cons (i := 5) rfl (.cons (i := 6) rfl (.nil)))))) ?_
  -- region 4: tickets.go:16
  refine W.seqR fun Q5 hQ5 => ?_
  refine WL.q (Y.move (.pl rfl)) rfl ?_
  obtain ⟨hk7, hF⟩ := ckh hF
  refine WL.q (Y.sliceR1 Try.underlying22 cells39 (i := 2) rfl (.pl rfl) rfl (.pl rfl) (hk7)) rfl ?_
  obtain ⟨r8, hr8, hF⟩ := bnd hF
  refine WL.step (WO.callP isGo21 (.cons (.pl rfl) (.nil)) rfl (fun wz hw => tickets_Check_ok (hr8) wz (SlIn.sub1 (SlIn.ofRow (enc := encEvent) (sz := 4) lenEvent hw (i := 2) rfl) (slB_nat (hk7)).1)) ?_)
  refine WL.q (Y.move (.pl rfl)) rfl ?_
  refine WL.q (Y.extract (.pl rfl) rfl) rfl ?_
  refine WL.q (Y.extract (.pl rfl) rfl) rfl ?_
  refine WL.q (Y.extract (.pl rfl) rfl) rfl ?_
  refine WL.step (WO.alloc (cs := (encBad (Bad.mk 0 0 0)).toArray) zero34 rfl rfl fun b9 => ?_)
  refine WL.q (Y.assign (.pl rfl)) rfl ?_
  refine WL.step (WO.storeBA (ds := (encBad (Bad.mk r8.2.1 r8.2.2.1 r8.2.2.2.1))) (cs' := (encBad (Bad.mk r8.2.1 r8.2.2.1 r8.2.2.2.1))) cells34 (.pl rfl) (.pl rfl) rfl (oneBad _) (i := 0) rfl (lel (o := 0) (l := 3) (m := 3) (by decide) rfl rfl) (putW rfl) ?_)
  refine WL.q (Y.assign (.pl rfl)) rfl ?_
  refine WL.next hQ5 (.cons (i := 2) rfl (.cons (i := 4) rfl (.cons (i := 5) rfl (.cons (i := 6) rfl (.cons (i := 8) rfl (.cons (i := 9) rfl (.nil))))))) ?_
  obtain ⟨o6, hF6, hF⟩ := bnd hF
  refine W.join1 (Em := fun (v10 : Bool) => [(0, .bool v10)]) (M := fun v10 => []) (I := fun v10 => v10 = o6) (.nil) (fun K7 hK7 => ?_) ?_
  · -- up to
    -- region 5: tickets.go:17
    refine W.reg ?_
    refine WL.q (Y.move (.pl rfl)) rfl ?_
    refine WL.q (Y.eql (.pl rfl) (.pl rfl)) rfl ?_
    refine WL.q (Y.move (.pl rfl)) rfl ?_
    refine WL.g (.pl rfl rfl rfl) (fun hg => Y.move (.pl rfl)) rfl ?_
    refine WL.g (.pl rfl rfl rfl) (fun hg => Y.eql (.gd (hg) rfl) (.pl rfl)) rfl ?_
    refine WL.q (Y.and (.pl rfl) (fun h2 => .gd (eqt h2) rfl)) rfl ?_
    refine WL.q (Y.move (.pl rfl)) rfl ?_
    refine WL.g (.pl rfl rfl rfl) (fun hg => Y.move (.pl rfl)) rfl ?_
    refine WL.g (.pl rfl rfl rfl) (fun hg => Y.eql (.gd (hg) rfl) (.pl rfl)) rfl ?_
    refine WL.q (Y.and (.pl rfl) (fun h2 => .gd (eqt h2) rfl)) rfl ?_
    refine WL.q (Y.move (.pl rfl)) rfl ?_
    refine WL.g (.pl rfl rfl rfl) (fun hg => Y.move (.pl rfl)) rfl ?_
    refine WL.q (Y.and (.pl rfl) (fun h2 => .gd (eqt h2) rfl)) rfl ?_
    refine WL.q (Y.move (.pl rfl)) rfl ?_
    refine WL.g (.pl rfl rfl rfl) (fun hg => Y.move (.pl rfl)) rfl ?_
    refine WL.g (.pl rfl rfl rfl) (fun hg => Y.build (cs := (encStep (Step.mk 1 0)).toArray) shape29 (.cons (.pl rfl) (.nil)) (one_parts ⟨rfl, trivial⟩) rfl) rfl ?_
    refine WL.g (.pl rfl rfl rfl) (fun hg => Y.build (cs := (encStep (Step.mk 0 1)).toArray) shape29 (.cons (.pl rfl) (.cons (.pl rfl) (.nil))) (one_parts ⟨rfl, ⟨rfl, trivial⟩⟩) rfl) rfl ?_
    refine WL.g (.pl rfl rfl rfl) (fun hg => Y.build (cs := (encStep (Step.mk 2 2)).toArray) shape29 (.cons (.pl rfl) (.cons (.pl rfl) (.nil))) (one_parts ⟨rfl, ⟨rfl, trivial⟩⟩) rfl) rfl ?_
    refine bsplit (((((decide (r2.2.2.2.2 = 0)) && (decide (r4.2 = 0))) && (decide (r8.2.2.2.2 = 0))) && r2.1) == true) (fun hg8 => ?_) (fun hg8 => ?_)
    · replace hF6 := cpos hg8 hF6
      refine WL.gd (.pl rfl rfl rfl) (hg8) ?_
      refine WL.step (WO.bsliceC (enc := encStep) (ys := ([(Step.mk 1 0), (Step.mk 0 1), (Step.mk 2 2)] : List Step)) Try.underlying23 bz29 (.cons (.gd (hg8) rfl) (.cons (.gd (hg8) rfl) (.cons (.gd (hg8) rfl) (.nil)))) rfl lenStep rfl rfl (by decide) (by decide) rfl fun b11 => ?_)
      refine WL.gd (.pl rfl rfl rfl) (hg8) ?_
      obtain ⟨r12, hr12, hF6⟩ := bnd hF6
      refine WL.step (WO.callP isGo48 (.cons (.gd (hg8) rfl) (.cons (.pl rfl) (.nil))) rfl (fun wz hw => slices_Equal_api_Step_api_Step_ok (hr12) wz (SlIn.ofRow lenStep hw (i := 2) rfl) (SlIn.ofRow lenStep hw (i := 0) rfl)) ?_)
      refine WL.q (Y.and (.pl rfl) (fun _ => .pl rfl)) rfl ?_
      refine WL.q (Y.move (.pl rfl)) rfl ?_
      refine WL.g (.pl rfl rfl rfl) (fun hg => Y.loadBA (ds := (encBad (Bad.mk r8.2.1 r8.2.2.1 r8.2.2.2.1))) Try.underlying34 rfl cells34 (.pl rfl) (i := 1) rfl rfl subW) rfl ?_
      refine WL.g (.pl rfl rfl rfl) (fun hg => Y.build (cs := (encBad (Bad.mk 8 1 0)).toArray) shape34 (.cons (.pl rfl) (.cons (.pl rfl) (.nil))) (one_parts ⟨rfl, ⟨rfl, trivial⟩⟩) rfl) rfl ?_
      refine WL.g (.pl rfl rfl rfl) (fun hg => Y.eqlS eqs34 (.gd (hg) rfl) (.gd (hg) rfl) (eqBad (Bad.mk r8.2.1 r8.2.2.1 r8.2.2.2.1) (Bad.mk 8 1 0))) rfl ?_
      refine WL.q (Y.and (.pl rfl) (fun h2 => .gd (eqt h2) rfl)) rfl ?_
      refine WL.q (Y.assign (.pl rfl)) rfl ?_
      refine WL.nil ?_
      exact W.joinAt1 hK7 ((((((decide (r2.2.2.2.2 = 0)) && (decide (r4.2 = 0))) && (decide (r8.2.2.2.2 = 0))) && r2.1) && r12) && (decide ((Bad.mk r8.2.1 r8.2.2.1 r8.2.2.2.1) = (Bad.mk 8 1 0)))) (Option.some.inj hF6) (.cons rfl (.nil)) (.nil) (fun wz hw => hw.pick [] rfl)
    · replace hF6 := cneg hg8 hF6
      refine WL.gn (.pl rfl rfl rfl) hg8 rfl ?_
      refine WL.gn (.pl rfl rfl rfl) hg8 rfl ?_
      refine WL.q (Y.and (b := false) (.pl rfl) (fun h2 => (gabsA hg8 h2).elim)) rfl ?_
      refine WL.q (Y.move (.pl rfl)) rfl ?_
      refine WL.g (.pl rfl rfl rfl) (fun hg => Y.loadBA (ds := (encBad (Bad.mk r8.2.1 r8.2.2.1 r8.2.2.2.1))) Try.underlying34 rfl cells34 (.pl rfl) (i := 0) rfl rfl subW) rfl ?_
      refine WL.g (.pl rfl rfl rfl) (fun hg => Y.build (cs := (encBad (Bad.mk 8 1 0)).toArray) shape34 (.cons (.pl rfl) (.cons (.pl rfl) (.nil))) (one_parts ⟨rfl, ⟨rfl, trivial⟩⟩) rfl) rfl ?_
      refine WL.g (.pl rfl rfl rfl) (fun hg => Y.eqlS eqs34 (.gd (hg) rfl) (.gd (hg) rfl) (eqBad (Bad.mk r8.2.1 r8.2.2.1 r8.2.2.2.1) (Bad.mk 8 1 0))) rfl ?_
      refine WL.q (Y.and (.pl rfl) (fun h2 => .gd (eqt h2) rfl)) rfl ?_
      refine WL.q (Y.assign (.pl rfl)) rfl ?_
      refine WL.nil ?_
      exact W.joinAt1 hK7 ((((((decide (r2.2.2.2.2 = 0)) && (decide (r4.2 = 0))) && (decide (r8.2.2.2.2 = 0))) && r2.1) && false) && (decide ((Bad.mk r8.2.1 r8.2.2.1 r8.2.2.2.1) = (Bad.mk 8 1 0)))) (Option.some.inj hF6) (.cons rfl (.nil)) (.nil) (fun wz hw => hw.pick [] rfl)
  · -- behind
    rintro v10 rfl
    obtain rfl := Option.some.inj hF
    refine W.retV (fn := Try.f18) (vs := [.bool v10]) Try.results18 ⟨.tmp rfl, trivial⟩ (fun _ _ h => h) (fun wz hw => ?_)
    exact hR _ _ ⟨rfl, (hw.pick [] rfl)⟩

end Go.Proofs.Ytolneilkgjglkaa
