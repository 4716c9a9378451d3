/- Bags: what their code computes, and the walks. -/
import Derived.Test.YtolneilkgjglkaaA2
set_option linter.unusedVariables false
set_option linter.unusedSimpArgs false
set_option linter.unusedSectionVars false
set_option maxRecDepth 100000
namespace Go.Proofs.Ytolneilkgjglkaa
open Go.RowKit
theorem cells4 : Try.prog.cellsOf 4 = 0 + 1 := by kernel_rfl
theorem cells160 : Try.prog.cellsOf 160 = 7 + 1 := by kernel_rfl
theorem isGo38 : IsGo Try.prog 38 := ⟨_, Try.func38, by kernel_rfl, rfl⟩
theorem isGo72 : IsGo Try.prog 72 := ⟨_, Try.func72, by kernel_rfl, rfl⟩
theorem isGo73 : IsGo Try.prog 73 := ⟨_, Try.func73, by kernel_rfl, rfl⟩
theorem isGo74 : IsGo Try.prog 74 := ⟨_, Try.func74, by kernel_rfl, rfl⟩
theorem isGo75 : IsGo Try.prog 75 := ⟨_, Try.func75, by kernel_rfl, rfl⟩
theorem zero3 : ∃ i, Try.prog.info? 3 = some i ∧ i.zero = some (Value.int .i64 0) := ⟨_, rfl, by kernel_rfl⟩
theorem zero160 : ∃ i, Try.prog.info? 160 = some i ∧ i.zero = some (Value.agg #[(Value.bool false), (Value.bool false), (Value.bool false), (Value.bool false), (Value.bool false), (Value.bool false), (Value.bool false), (Value.bool false)]) := ⟨_, rfl, by kernel_rfl⟩
theorem bz39 : ∃ i, Try.prog.info? 39 = some i ∧ i.zero = some (Value.agg #[(Value.int .i64 0), (Value.int .i64 0), (Value.int .i64 0), (Value.int .i64 0)]) ∧ i.size = 4 := ⟨_, rfl, by kernel_rfl, by kernel_rfl⟩
theorem ap39 : ∃ i z, Try.prog.info? 39 = some i ∧ i.zero = some z ∧ i.size = 4 ∧ i.bytes = 32 ∧ z.cells.size = 4 ∧ 0 < 4 := ⟨_, (Value.agg #[(Value.int .i64 0), (Value.int .i64 0), (Value.int .i64 0), (Value.int .i64 0)]), rfl, by kernel_rfl, by kernel_rfl, by kernel_rfl, by kernel_rfl, by decide⟩
theorem azero160 : ∃ i zv, Try.prog.info? 160 = some i ∧ i.zero = some zv ∧ zv.cells = #[(Value.bool false), (Value.bool false), (Value.bool false), (Value.bool false), (Value.bool false), (Value.bool false), (Value.bool false), (Value.bool false)] := ⟨_, (Value.agg #[(Value.bool false), (Value.bool false), (Value.bool false), (Value.bool false), (Value.bool false), (Value.bool false), (Value.bool false), (Value.bool false)]), rfl, by kernel_rfl, rfl⟩
def bags_types (N : Nat) : Option Unit :=
  some ()

theorem bags_types_ok {N : Nat} {res : Unit} (hF : bags_types N = some res) (w : World) :
    Made Try.prog 72 [] w (fun g : Option Addr => .slice g (([4] : List Int)).length (([4] : List Int)).length) (fun g => [cR (eI .i64) 1 g (([4] : List Int)).length 3 ([4] : List Int)]) (fun g => True) := by
  refine W.enter (n := 2) Try.func72 rfl rfl Sub.refl (by simp) (St.start w) fun R hR => ?_
  unfold bags_types at hF
  -- region 0: bags.go:13
  refine W.seqR fun Q1 hQ1 => ?_
  refine WL.q (Y.assign (.pl rfl)) rfl ?_
  refine WL.next hQ1 (.nil) ?_
  -- region 1: bags.go:13
  refine W.seqR fun Q2 hQ2 => ?_
  refine WL.step (WO.bsliceC (enc := (eI .i64)) (ys := ([4] : List Int)) Try.underlying45 bz3 (.cons (.pl rfl) (.nil)) rfl (fun _ => rfl) rfl rfl (by decide) (by decide) rfl fun b1 => ?_)
  refine WL.q (Y.assign (.pl rfl)) rfl ?_
  refine WL.next hQ2 (.cons (i := 0) rfl (.nil)) ?_
  obtain rfl := Option.some.inj hF
  refine W.retV (fn := Try.f72) (vs := [.slice (some ⟨b1, 0, none⟩) (([4] : List Int)).length (([4] : List Int)).length]) Try.results72 ⟨.tmp rfl, trivial⟩ (fun _ _ h => h) (fun wz hw => ?_)
  exact hR _ _ ⟨(some ⟨b1, 0, none⟩), trivial, rfl, (hw.pick [0] rfl)⟩

def maps_Keys_map_int_int_int_int (N : Nat) (m2 : (List (Int × Int))) : Option Unit :=
  some ()

theorem maps_Keys_map_int_int_int_int_ok {N : Nat} {m2 : (List (Int × Int))} {b1 : Nat} {res : Unit} (hF : maps_Keys_map_int_int_int_int N m2 = some res) {w0 w : World} {T : List Chunk} (hw : St w0.heap.size w0 ([cM (Value.int .i64) (some b1) m2] ++ T) w) :
    Calls Try.prog 74 (List.toArray [.map (some b1)]) w (fun e w' => ∃ g : Nat, (True) ∧ e = .returned (.func (.func 107) #[] #[.pointer (some ⟨g, 0, none⟩)]) ∧ St w0.heap.size w0 ([cM (Value.int .i64) (some b1) m2, cBx g 110 [.map (some b1)]] ++ T) w') := by
  refine W.enter (n := 4) Try.func74 rfl rfl Sub.refl (by simp) hw fun R hR => ?_
  unfold maps_Keys_map_int_int_int_int at hF
  -- region 0: iter.go:25
  refine W.seqR fun Q1 hQ1 => ?_
  refine WL.step (WO.box1 (.pl rfl) rfl rfl fun b3 => ?_)
  refine WL.q (Y.assign (.pl rfl)) rfl ?_
  refine WL.next hQ1 (.cons (i := 1) rfl (.nil)) ?_
  -- region 1: iter.go:26
  refine W.seqR fun Q2 hQ2 => ?_
  refine WL.q (Y.fnC (.cons (.pl rfl) (.nil))) rfl ?_
  refine WL.q (Y.assign (.pl rfl)) rfl ?_
  refine WL.next hQ2 (.cons (i := 2) rfl (.nil)) ?_
  obtain rfl := Option.some.inj hF
  refine W.retV (fn := Try.f74) (vs := [.func (.func 107) #[] #[.pointer (some ⟨b3, 0, none⟩)]]) Try.results74 ⟨.tmp rfl, trivial⟩ (fun _ _ h => h) (fun wz hw => ?_)
  exact hR _ _ ⟨b3, trivial, rfl, (hw.pickK 2 [1, 0] rfl)⟩

def layS73_ren : Go.Shelf.Ren := ⟨fun x => match x with | 6 => 73 | 8 => 105 | 9 => 106 | 11 => 131 | n => n, fun x => match x with | 0 => 0 | 3 => 3 | 4 => 4 | 23 => 110 | 24 => 45 | 26 => 3 | 27 => 112 | 28 => 113 | 33 => 156 | n => n, fun x => x⟩
theorem layS73 : SlLaysZI.n6 Try.prog layS73_ren where
  mixed := by kernel_rfl
  f6 := ⟨Try.f73.name, by kernel_rfl, Try.func73.trans (congrArg some (by kernel_rfl))⟩
  f8 := ⟨Try.f105.name, by kernel_rfl, Try.func105.trans (congrArg some (by kernel_rfl))⟩
  f11 := ⟨Try.f131.name, by kernel_rfl, Try.func131.trans (congrArg some (by kernel_rfl))⟩
  t0 := Try.underlying0
  a0 := Try.isAgg0
  z0 := Try.sizeOf0
  v0 := Try.zeroValue0
  t24 := Try.underlying45
  a24 := Try.isAgg45
  z24 := Try.sizeOf45
  v24 := Try.zeroValue45
  t26 := Try.underlying3
  a26 := Try.isAgg3
  z26 := Try.sizeOf3
  v26 := Try.zeroValue3
  t28 := Try.underlying113
  a28 := Try.isAgg113
  z28 := Try.sizeOf113
  v28 := Try.zeroValue113
  i26 := by kernel_rfl
def layK73_ren : Go.Shelf.Ren := ⟨fun x => match x with | 10 => 107 | n => n, fun x => match x with | 0 => 0 | 3 => 3 | 4 => 4 | 23 => 110 | 24 => 45 | 26 => 3 | 27 => 112 | 28 => 113 | 33 => 156 | n => n, fun x => x⟩
theorem layK73 : SlLaysZI.n10 Try.prog layK73_ren where
  mixed := by kernel_rfl
  f10 := ⟨Try.f107.name, by kernel_rfl, Try.func107.trans (congrArg some (by kernel_rfl))⟩
  t0 := Try.underlying0
  a0 := Try.isAgg0
  z0 := Try.sizeOf0
  v0 := Try.zeroValue0
  t4 := Try.underlying4
  a4 := Try.isAgg4
  z4 := Try.sizeOf4
  v4 := Try.zeroValue4
  t23 := Try.underlying110
  a23 := Try.isAgg110
  z23 := Try.sizeOf110
  v23 := Try.zeroValue110
  t26 := Try.underlying3
  a26 := Try.isAgg3
  z26 := Try.sizeOf3
  v26 := Try.zeroValue3
  t33 := Try.underlying156
  a33 := Try.isAgg156
  z33 := Try.sizeOf156
  v33 := Try.zeroValue156
def layM73_ren : Go.Shelf.Ren := ⟨fun x => match x with | 5 => 106 | 7 => 132 | 8 => 82 | 10 => 159 | 11 => 160 | 12 => 161 | 13 => 162 | 14 => 163 | 15 => 164 | 16 => 165 | 17 => 166 | 18 => 167 | 19 => 121 | 20 => 122 | 30 => 177 | 31 => 139 | 32 => 140 | 33 => 178 | 34 => 179 | 35 => 128 | 40 => 182 | n => n, fun x => match x with | 0 => 0 | 3 => 3 | 4 => 4 | 5 => 5 | 9 => 9 | 22 => 45 | 23 => 45 | 25 => 3 | 32 => 132 | 35 => 172 | 36 => 173 | 41 => 177 | 44 => 180 | 46 => 182 | 53 => 198 | 57 => 202 | 63 => 233 | 64 => 234 | n => n, fun x => x⟩
theorem layM73 : SlLaysM.n5 Try.prog layM73_ren where
  mixed := by kernel_rfl
  f5 := ⟨Try.f106.name, by kernel_rfl, Try.func106.trans (congrArg some (by kernel_rfl))⟩
  f7 := ⟨Try.f132.name, by kernel_rfl, Try.func132.trans (congrArg some (by kernel_rfl))⟩
  f8 := Try.func82.trans (congrArg some (by kernel_rfl))
  f10 := ⟨Try.f159.name, by kernel_rfl, Try.func159.trans (congrArg some (by kernel_rfl))⟩
  f11 := ⟨Try.f160.name, by kernel_rfl, Try.func160.trans (congrArg some (by kernel_rfl))⟩
  f12 := ⟨Try.f161.name, by kernel_rfl, Try.func161.trans (congrArg some (by kernel_rfl))⟩
  f13 := ⟨Try.f162.name, by kernel_rfl, Try.func162.trans (congrArg some (by kernel_rfl))⟩
  f14 := ⟨Try.f163.name, by kernel_rfl, Try.func163.trans (congrArg some (by kernel_rfl))⟩
  f15 := ⟨Try.f164.name, by kernel_rfl, Try.func164.trans (congrArg some (by kernel_rfl))⟩
  f16 := ⟨Try.f165.name, by kernel_rfl, Try.func165.trans (congrArg some (by kernel_rfl))⟩
  f17 := ⟨Try.f166.name, by kernel_rfl, Try.func166.trans (congrArg some (by kernel_rfl))⟩
  f18 := ⟨Try.f167.name, by kernel_rfl, Try.func167.trans (congrArg some (by kernel_rfl))⟩
  f19 := Try.func121.trans (congrArg some (by kernel_rfl))
  f20 := Try.func122.trans (congrArg some (by kernel_rfl))
  f30 := ⟨Try.f177.name, by kernel_rfl, Try.func177.trans (congrArg some (by kernel_rfl))⟩
  f31 := Try.func139.trans (congrArg some (by kernel_rfl))
  f32 := Try.func140.trans (congrArg some (by kernel_rfl))
  f33 := ⟨Try.f178.name, by kernel_rfl, Try.func178.trans (congrArg some (by kernel_rfl))⟩
  f34 := ⟨Try.f179.name, by kernel_rfl, Try.func179.trans (congrArg some (by kernel_rfl))⟩
  f35 := ⟨Try.f128.name, by kernel_rfl, Try.func128.trans (congrArg some (by kernel_rfl))⟩
  f40 := ⟨Try.f182.name, by kernel_rfl, Try.func182.trans (congrArg some (by kernel_rfl))⟩
  t0 := Try.underlying0
  a0 := Try.isAgg0
  z0 := Try.sizeOf0
  v0 := Try.zeroValue0
  t3 := Try.underlying3
  a3 := Try.isAgg3
  z3 := Try.sizeOf3
  v3 := Try.zeroValue3
  t4 := Try.underlying4
  a4 := Try.isAgg4
  z4 := Try.sizeOf4
  v4 := Try.zeroValue4
  t5 := Try.underlying5
  a5 := Try.isAgg5
  z5 := Try.sizeOf5
  v5 := Try.zeroValue5
  t9 := Try.underlying9
  a9 := Try.isAgg9
  z9 := Try.sizeOf9
  v9 := Try.zeroValue9
  t22 := Try.underlying45
  a22 := Try.isAgg45
  z22 := Try.sizeOf45
  v22 := Try.zeroValue45
  t23 := Try.underlying45
  a23 := Try.isAgg45
  z23 := Try.sizeOf45
  v23 := Try.zeroValue45
  t25 := Try.underlying3
  a25 := Try.isAgg3
  z25 := Try.sizeOf3
  v25 := Try.zeroValue3
  t32 := Try.underlying132
  a32 := Try.isAgg132
  z32 := Try.sizeOf132
  v32 := Try.zeroValue132
  t35 := Try.underlying172
  a35 := Try.isAgg172
  z35 := Try.sizeOf172
  v35 := Try.zeroValue172
  t36 := Try.underlying173
  a36 := Try.isAgg173
  z36 := Try.sizeOf173
  v36 := Try.zeroValue173
  t41 := Try.underlying177
  a41 := Try.isAgg177
  z41 := Try.sizeOf177
  v41 := Try.zeroValue177
  t44 := Try.underlying180
  a44 := Try.isAgg180
  z44 := Try.sizeOf180
  v44 := Try.zeroValue180
  t46 := Try.underlying182
  a46 := Try.isAgg182
  z46 := Try.sizeOf182
  v46 := Try.zeroValue182
  t53 := Try.underlying198
  a53 := Try.isAgg198
  z53 := Try.sizeOf198
  v53 := Try.zeroValue198
  t57 := Try.underlying202
  a57 := Try.isAgg202
  z57 := Try.sizeOf202
  v57 := Try.zeroValue202
  t63 := Try.underlying233
  a63 := Try.isAgg233
  z63 := Try.sizeOf233
  v63 := Try.zeroValue233
  t64 := Try.underlying234
  a64 := Try.isAgg234
  z64 := Try.sizeOf234
  v64 := Try.zeroValue234
theorem sortsI73 (m : Nat) : AnyZI.SortsIn Try.prog layS73_ren Fence.wide m :=
  ⟨fun blk off cap ss W hH hblk hsz => callsIn_wide.2 (AnyM.slices_Sort_int layM73 blk off cap ss W hH hblk hsz), fun p cap W => callsIn_wide.2 (AnyM.slices_Sort_int_none layM73 p cap W)⟩
def sortedKeys73 (N : Nat) (m : List (Int × Int)) : Option (List Int) := skeys m
theorem sortedKeys73_ok {N : Nat} {sI1 : (List (Int × Int))} {bI2 : Nat} {bI3 : Nat} {res : (List Int)} (hF : sortedKeys73 N sI1 = some res) {w0 w : World} {T : List Chunk} (hw : St w0.heap.size w0 ([cBx bI2 110 [.map (some bI3)], cM (Value.int .i64) (some bI3) sI1] ++ T) w) :
    Calls Try.prog 73 (List.toArray [.func (.func 107) #[] #[.pointer (some ⟨bI2, 0, none⟩)]]) w (fun e w' => ∃ g : (Option Addr × Nat), (True) ∧ e = .returned (.slice g.1 (res).length g.2) ∧ St w0.heap.size w0 ([cR (eI .i64) 1 g.1 g.2 3 res, cBx bI2 110 [.map (some bI3)], cM (Value.int .i64) (some bI3) sI1] ++ T) w') :=
  sorted_calls layS73 layK73 sortsI73 (enters_of Try.func106 (by kernel_rfl) rfl) (enters_of Try.func107 (by kernel_rfl) rfl) Try.underlying3 Try.underlying3 hF hw

def bags_part_L3 (N : Nat) (l1 : (List Event)) (n6 : Int) : ((List Event) × (List Bool) × Int) → Option (((List Event) × (List Bool) × Int) ⊕ (List Event))
  | (out13, in14, v15) =>
    cond (decide (v15 < ((l1).length : Int)))
      (bd (ix l1 v15) fun (x16 : Event) =>
      bd (α := (List Bool)) (cond (!(decide (x16.kind = 0)))
          (bd (ax 8 false in14 x16.who) fun (x19 : Bool) =>
          some (setA 8 false in14 x16.who (decide (x16.value = n6))))
          (some in14)) <|
      fun (in18 : (List Bool)) => 
        bd (ax 8 false in18 x16.who) fun (x20 : Bool) =>
        cond x20
          (ck (limB 32 ((out13).length + (([x16] : List Event)).length)) <|
          ck (ok64 (v15 + 1)) <|
          some (.inl ((out13 ++ ([x16] : List Event)), in18, (v15 + 1))))
          (ck (ok64 (v15 + 1)) <|
          some (.inl (out13, in18, (v15 + 1)))))
      (some (.inr out13))

def bags_part (N : Nat) (l1 : (List Event)) (n6 : Int) : Option (List Event) :=
  bd (α := (List Event)) (iter (bags_part_L3 N l1 n6) N ([], [false, false, false, false, false, false, false, false], 0)) <|
  fun (out10 : (List Event)) => 
    some out10

theorem bags_part_ok {N : Nat} {l1 : (List Event)} {n6 : Int} {res : (List Event)} (hF : bags_part N l1 n6 = some res) (w : World) {v5 : Value} (hs4 : SlIn encEvent 4 w v5 l1) :
    Made Try.prog 75 [v5, .int .i64 n6] w (fun g : (Option Addr × Nat) => .slice g.1 (res).length g.2) (fun g => [cR encEvent 4 g.1 g.2 39 res]) (fun g => True) := by
  obtain ⟨A2, c3, rfl, hcc3, hs4⟩ := hs4.form
  refine W.enter (n := 36) Try.func75 rfl rfl Sub.refl (by simp) (St.start w) fun R hR => ?_
  unfold bags_part at hF
  -- region 0: bags.go:16
  refine W.seqR fun Q1 hQ1 => ?_
  refine WL.q (Y.assign (.pl rfl)) rfl ?_
  refine WL.next hQ1 (.cons (i := 0) rfl (.cons (i := 1) rfl (.nil))) ?_
  -- region 1: bags.go:17
  refine W.seqR fun Q2 hQ2 => ?_
  refine WL.q (Y.assign (.pl rfl)) rfl ?_
  refine WL.next hQ2 (.cons (i := 0) rfl (.cons (i := 1) rfl (.cons (i := 5) rfl (.nil)))) ?_
  -- region 2: bags.go:18
  refine W.seqR fun Q3 hQ3 => ?_
  refine WL.q (Y.buildA (cs := ((encA 8 eB false) [false, false, false, false, false, false, false, false]).toArray) Try.underlying160 cells4 azero160 (.nil) rfl) rfl ?_
  refine WL.step (WO.alloc (cs := ((encA 8 eB false) []).toArray) zero160 rfl rfl fun b7 => ?_)
  refine WL.step (WO.storeBA (ds := ((encA 8 eB false) [false, false, false, false, false, false, false, false])) (cs' := ((encA 8 eB false) [false, false, false, false, false, false, false, false])) cells160 (.pl rfl) (.pl rfl) rfl ((oneA oneB) _) (i := 0) rfl (lel (o := 0) (l := 8) (m := 8) (by decide) rfl rfl) (putW rfl) ?_)
  refine WL.next hQ3 (.cons (i := 0) rfl (.cons (i := 1) rfl (.cons (i := 5) rfl (.cons (i := 6) rfl (.nil))))) ?_
  obtain ⟨o4, hF4, hF⟩ := bnd hF
  refine W.join3 (Em := fun (out10 : (List Event)) (A8 : Option Addr) (c9 : Nat) => [(5, .slice A8 (out10).length c9)]) (M := fun out10 A8 c9 => [cR encEvent 4 A8 c9 39 out10]) (I := fun out10 A8 c9 => out10 = o4) (.nil) (fun K5 hK5 => ?_) ?_
  · -- up to
    -- region 3: bags.go:19
    refine W.seqR fun Q6 hQ6 => ?_
    refine WL.q (Y.move (.pl rfl)) rfl ?_
    refine WL.q (Y.len Try.underlying22 (.pl rfl)) rfl ?_
    refine WL.q (Y.move (.pl rfl)) rfl ?_
    refine WL.next hQ6 (.cons (i := 1) rfl (.cons (i := 5) rfl (.cons (i := 6) rfl (.cons (i := 10) rfl (.cons (i := 11) rfl (.cons (i := 12) rfl (.nil))))))) ?_
    refine W.block ?_
    refine W.loop5 (Em := fun (out13 : (List Event)) (in14 : (List Bool)) (v15 : Int) (A11 : Option Addr) (c12 : Nat) => [(5, .slice A11 (out13).length c12), (12, .int .i64 v15)]) (M := fun out13 in14 v15 A11 c12 => [cR encEvent 4 A11 c12 39 out13, cBx b7 160 ((encA 8 eB false) in14)]) (I := fun out13 in14 v15 A11 c12 k7 => iter (bags_part_L3 N l1 n6) k7 (out13, in14, v15) = some o4) [] [false, false, false, false, false, false, false, false] 0 none 0 N (hF4) (.cons rfl (.cons rfl (.nil))) (.cons (i := 1) rfl (.cons (i := 6) rfl (.cons (i := 10) rfl (.cons (i := 11) rfl (.nil))))) (fun wz hw => (St.nilR (hw.pick [0] rfl) encEvent 4 39).pick [0, 1] rfl) (fun out13 in14 v15 A11 c12 k7 hI K8 hK8 => ?_)
    obtain ⟨k7, t7, rfl, hF7, hN7⟩ := iter_step hI
    -- region 4: bags.go:19
    refine W.seqR fun Q9 hQ9 => ?_
    refine WL.q (Y.lss (.pl rfl) (.pl rfl)) rfl ?_
    refine WL.next hQ9 (.cons (i := 1) rfl (.cons (i := 5) rfl (.cons (i := 6) rfl (.cons (i := 10) rfl (.cons (i := 11) rfl (.cons (i := 12) rfl (.cons (i := 13) rfl (.nil)))))))) ?_
    refine W.seq fun K10 hK10 => ?_
    refine W.cond (.pl rfl) (fun hC11 => ?_) (fun hC11 => ?_)
    · replace hF7 := cpos hC11 hF7
      refine W.skip ?_
      refine W.go hK10 (.cons (i := 1) rfl (.cons (i := 5) rfl (.cons (i := 6) rfl (.cons (i := 10) rfl (.cons (i := 11) rfl (.cons (i := 12) rfl (.nil))))))) ?_
      refine W.seq fun K12 hK12 => ?_
      refine W.block ?_
      -- region 5: bags.go:19
      refine W.seqR fun Q13 hQ13 => ?_
      obtain ⟨x16, hx16, hF7⟩ := bnd hF7
      refine WL.q (Y.slEl Try.underlying22 cells39 hs4 (.pl rfl) (.pl rfl) (ix_lt (hx16))) rfl ?_
      refine WL.q (Y.loadSA (enc := encEvent) (ds := (encEvent x16)) (j := 0) Try.underlying39 rfl cells39 hs4 (.pl rfl) (hx16) rfl rfl subW) rfl ?_
      refine WL.step (WO.alloc (cs := (encEvent (Event.mk 0 0 0 0)).toArray) zero39 rfl rfl fun b17 => ?_)
      refine WL.step (WO.storeBA (ds := (encEvent x16)) (cs' := (encEvent x16)) cells39 (.pl rfl) (.pl rfl) rfl (oneEvent _) (i := 0) rfl (lel (o := 0) (l := 4) (m := 4) (by decide) rfl rfl) (putW rfl) ?_)
      refine WL.next hQ13 (.cons (i := 1) rfl (.cons (i := 5) rfl (.cons (i := 6) rfl (.cons (i := 8) rfl (.cons (i := 10) rfl (.cons (i := 11) rfl (.cons (i := 12) rfl (.nil)))))))) ?_
      obtain ⟨o14, hF14, hF7⟩ := bnd hF7
      refine W.join1 (Em := fun (in18 : (List Bool)) => []) (M := fun in18 => [cR encEvent 4 A11 c12 39 out13, cBx b7 160 ((encA 8 eB false) in18), cBx b17 39 (encEvent x16)]) (I := fun in18 => in18 = o14) (.cons (i := 1) rfl (.cons (i := 5) rfl (.cons (i := 6) rfl (.cons (i := 8) rfl (.cons (i := 10) rfl (.cons (i := 11) rfl (.cons (i := 12) rfl (.nil)))))))) (fun K15 hK15 => ?_) ?_
      · -- up to
        -- region 6: bags.go:20
        refine W.seqR fun Q16 hQ16 => ?_
        refine WL.q (Y.fieldAddr0 (off := 2) (ft := 3) Try.underlying39 rfl cells3 (.pl rfl)) rfl ?_
        refine WL.q (Y.loadB (v := .int .i64 x16.kind) Try.underlying3 rfl (.pl rfl) (i := 0) rfl (rfl)) rfl ?_
        refine WL.q (Y.neq (.pl rfl) (.pl rfl)) rfl ?_
        refine WL.next hQ16 (.cons (i := 1) rfl (.cons (i := 5) rfl (.cons (i := 6) rfl (.cons (i := 8) rfl (.cons (i := 10) rfl (.cons (i := 11) rfl (.cons (i := 12) rfl (.cons (i := 18) rfl (.nil))))))))) ?_
        refine W.cond (.pl rfl) (fun hC17 => ?_) (fun hC17 => ?_)
        · replace hF14 := cpos hC17 hF14
          -- region 7: bags.go:21
          refine W.reg ?_
          refine WL.q (Y.fieldAddr0 (off := 0) (ft := 3) Try.underlying39 rfl cells3 (.pl rfl)) rfl ?_
          refine WL.q (Y.loadB (v := .int .i64 x16.who) Try.underlying3 rfl (.pl rfl) (i := 0) rfl (rfl)) rfl ?_
          refine WL.q (Y.fieldAddr0 (off := 3) (ft := 3) Try.underlying39 rfl cells3 (.pl rfl)) rfl ?_
          refine WL.q (Y.loadB (v := .int .i64 x16.value) Try.underlying3 rfl (.pl rfl) (i := 0) rfl (rfl)) rfl ?_
          refine WL.q (Y.move (.pl rfl)) rfl ?_
          refine WL.q (Y.eql (.pl rfl) (.pl rfl)) rfl ?_
          obtain ⟨x19, hx19, hF14⟩ := bnd hF14
          refine WL.q (Y.arrZ Try.underlying160 cells4 (.pl rfl) (.pl rfl) (ax_lt (hx19))) rfl ?_
          refine WL.step (WO.storeB (cs' := ((encA 8 eB false) (setA 8 false in14 x16.who (decide (x16.value = n6))))) cells4 (.pl rfl) (.pl rfl) rfl (i := 2) rfl (ltl (m := 8) (offlt (off := 0) (sz := 1) (j := 0) (ax_nat (hx19)) (by decide)) rfl) (cellsSet (pre := []) (off := 0) (post := []) (a := in14) (enc := eB) (d := false) (n := 8) (sz := 1) (j := 0) (x := x19) (x' := (decide (x16.value = n6))) (fun _ => rfl) rfl (ax_lt (hx19)) (ax_get (hx19)) (by decide) rfl rfl) ?_)
          refine WL.nil ?_
          exact W.joinAt1 hK15 (setA 8 false in14 x16.who (decide (x16.value = n6))) (Option.some.inj hF14) (.nil) (.cons (i := 1) rfl (.cons (i := 5) rfl (.cons (i := 6) rfl (.cons (i := 8) rfl (.cons (i := 10) rfl (.cons (i := 11) rfl (.cons (i := 12) rfl (.nil)))))))) (fun wz hw => hw.pick [1, 2, 0] rfl)
        · replace hF14 := cneg hC17 hF14
          refine W.skip ?_
          exact W.joinAt1 hK15 in14 (Option.some.inj hF14) (.nil) (.cons (i := 1) rfl (.cons (i := 5) rfl (.cons (i := 6) rfl (.cons (i := 8) rfl (.cons (i := 10) rfl (.cons (i := 11) rfl (.cons (i := 12) rfl (.nil)))))))) (fun wz hw => hw.pick [1, 2, 0] rfl)
      · -- behind
        rintro in18 rfl
        -- region 8: bags.go:23
        refine W.seqR fun Q19 hQ19 => ?_
        refine WL.q (Y.fieldAddr0 (off := 0) (ft := 3) Try.underlying39 rfl cells3 (.pl rfl)) rfl ?_
        refine WL.q (Y.loadB (v := .int .i64 x16.who) Try.underlying3 rfl (.pl rfl) (i := 2) rfl (rfl)) rfl ?_
        obtain ⟨x20, hx20, hF7⟩ := bnd hF7
        refine WL.q (Y.arrZ Try.underlying160 cells4 (.pl rfl) (.pl rfl) (ax_lt (hx20))) rfl ?_
        refine WL.q (Y.loadB (v := .bool x20) Try.underlying4 rfl (.pl rfl) (i := 1) rfl (cellsA (pre := []) (off := 0) (post := []) (a := in18) (enc := eB) (d := false) (n := 8) (sz := 1) (j := 0) (fun _ => rfl) rfl (ax_nat (hx20)) (ax_get (hx20)) rfl)) rfl ?_
        refine WL.next hQ19 (.cons (i := 1) rfl (.cons (i := 5) rfl (.cons (i := 6) rfl (.cons (i := 8) rfl (.cons (i := 10) rfl (.cons (i := 11) rfl (.cons (i := 12) rfl (.cons (i := 29) rfl (.nil))))))))) ?_
        refine W.cond (.pl rfl) (fun hC20 => ?_) (fun hC20 => ?_)
        · replace hF7 := cpos hC20 hF7
          -- region 9: bags.go:24
          refine W.reg ?_
          refine WL.q (Y.move (.pl rfl)) rfl ?_
          refine WL.q (Y.loadBA (ds := (encEvent x16)) Try.underlying39 rfl cells39 (.pl rfl) (i := 2) rfl rfl subW) rfl ?_
          refine WL.step (WO.bsliceC (enc := encEvent) (ys := ([x16] : List Event)) Try.underlying22 bz39 (.cons (.pl rfl) (.nil)) rfl lenEvent rfl rfl (by decide) (by decide) rfl fun b21 => ?_)
          obtain ⟨hk24, hF7⟩ := ckh hF7
          refine WL.step (WO.appendC (enc := encEvent) Try.underlying22 ap39 lenEvent oneEvent (.pl rfl) rfl (.pl rfl) (i := 1) rfl (m2 := 0) rfl (hk24) rfl fun A22 c23 => ?_)
          refine WL.q (Y.assign (.pl rfl)) rfl ?_
          refine WL.nil ?_
          refine W.go hK12 (.cons (i := 1) rfl (.cons (i := 5) rfl (.cons (i := 6) rfl (.cons (i := 10) rfl (.cons (i := 11) rfl (.cons (i := 12) rfl (.nil))))))) ?_
          -- region 10: bags.go:19
          refine W.reg ?_
          obtain ⟨hk25, hF7⟩ := ckh hF7
          refine WL.q (Y.add (.pl rfl) (.pl rfl) (ok64_lt (hk25))) rfl ?_
          refine WL.q (Y.move (.pl rfl)) rfl ?_
          refine WL.nil ?_
          obtain rfl := Option.some.inj hF7
          exact W.again5 hK8 (out13 ++ ([x16] : List Event)) in18 (v15 + 1) A22 c23 k7 hN7 (Nat.lt_succ_self _) (.cons rfl (.cons rfl (.nil))) (.cons (i := 1) rfl (.cons (i := 6) rfl (.cons (i := 10) rfl (.cons (i := 11) rfl (.nil))))) (fun wz hw => hw.pick [1, 2] rfl)
        · replace hF7 := cneg hC20 hF7
          refine W.skip ?_
          refine W.go hK12 (.cons (i := 1) rfl (.cons (i := 5) rfl (.cons (i := 6) rfl (.cons (i := 10) rfl (.cons (i := 11) rfl (.cons (i := 12) rfl (.nil))))))) ?_
          -- region 10: bags.go:19
          refine W.reg ?_
          obtain ⟨hk26, hF7⟩ := ckh hF7
          refine WL.q (Y.add (.pl rfl) (.pl rfl) (ok64_lt (hk26))) rfl ?_
          refine WL.q (Y.move (.pl rfl)) rfl ?_
          refine WL.nil ?_
          obtain rfl := Option.some.inj hF7
          exact W.again5 hK8 out13 in18 (v15 + 1) A11 c12 k7 hN7 (Nat.lt_succ_self _) (.cons rfl (.cons rfl (.nil))) (.cons (i := 1) rfl (.cons (i := 6) rfl (.cons (i := 10) rfl (.cons (i := 11) rfl (.nil))))) (fun wz hw => hw.pick [0, 1] rfl)
    · replace hF7 := cneg hC11 hF7
      refine W.exit ?_
      obtain rfl := Option.some.inj hF7
      exact W.joinAt3 hK5 out13 A11 c12 (einr hN7) (.cons rfl (.nil)) (.nil) (fun wz hw => hw.pick [0] rfl)
  · -- behind
    rintro out10 A8 c9 rfl
    -- region 11: bags.go:27
    refine W.seqR fun Q24 hQ24 => ?_
    refine WL.q (Y.move (.pl rfl)) rfl ?_
    refine WL.q (Y.assign (.pl rfl)) rfl ?_
    refine WL.next hQ24 (.cons (i := 4) rfl (.nil)) ?_
    obtain rfl := Option.some.inj hF
    refine W.retV (fn := Try.f75) (vs := [.slice A8 (out10).length c9]) Try.results75 ⟨.tmp rfl, trivial⟩ (fun _ _ h => h) (fun wz hw => ?_)
    exact hR _ _ ⟨(A8, c9), trivial, rfl, (hw.pick [0] rfl)⟩

def bags_Check_L5 (N : Nat) (r8 : ((List Call) × Int × Int)) : ((List (Int × Int)) × Int) → Option (((List (Int × Int)) × Int) ⊕ ((List (Int × Int)) ⊕ ((List Int) × Int)))
  | (count13, v14) =>
    cond (decide (v14 < ((r8.1).length : Int)))
      (bd (ix r8.1 v14) fun (x15 : Call) =>
      ck (ok64 (((mget count13 x15.arg).getD 0) + 1)) <|
      cond (decide (9 < ((mget (mput count13 x15.arg (((mget count13 x15.arg).getD 0) + 1)) x15.arg).getD 0)))
        (some (.inr (.inr ([], 2))))
        (ck (ok64 (v14 + 1)) <|
        some (.inl ((mput count13 x15.arg (((mget count13 x15.arg).getD 0) + 1)), (v14 + 1)))))
      (some (.inr (.inl count13)))

def bags_Check_L7 (N : Nat) (r24 : (List Int)) (l1 : (List Event)) : ((List Int) × Int) → Option (((List Int) × Int) ⊕ (List Int))
  | (out29, v30) =>
    cond (decide (v30 < ((r24).length : Int)))
      (bd (ix r24 v30) fun (x31 : Int) =>
      bd (bags_types N) fun (r32 : Unit) =>
      bd (bags_part N l1 x31) fun (r34 : (List Event)) =>
      bd (search_Find N ([4] : List Int) r34) fun (r37 : ((List Step) × Bool × Int)) =>
      cond (!r37.2.1)
        (ck (limB 8 ((out29).length + (([x31] : List Int)).length)) <|
        ck (ok64 (v30 + 1)) <|
        some (.inl ((out29 ++ ([x31] : List Int)), (v30 + 1))))
        (ck (ok64 (v30 + 1)) <|
        some (.inl (out29, (v30 + 1)))))
      (some (.inr out29))

def bags_Check (N : Nat) (l1 : (List Event)) : Option ((List Int) × Int) :=
  bd (bags_types N) fun (r6 : Unit) =>
  bd (history_Calls N ([4] : List Int) l1) fun (r8 : ((List Call) × Int × Int)) =>
  cond (!(decide (r8.2.2 = 0)))
    (some ([], r8.2.2))
    (bd (α := ((List (Int × Int)) ⊕ ((List Int) × Int))) (iter (bags_Check_L5 N r8) N (([] : List (Int × Int)), 0)) <|
    Sum.elim (fun (count12 : (List (Int × Int))) => 
      bd (α := (List Int)) (bd (maps_Keys_map_int_int_int_int N count12) fun (r22 : Unit) =>
        bd (sortedKeys73 N count12) fun (r24 : (List Int)) =>
        iter (bags_Check_L7 N r24 l1) N ([], 0)) <|
      fun (out21 : (List Int)) => 
        some (out21, 0)) (fun p => some p))

theorem bags_Check_ok {N : Nat} {l1 : (List Event)} {res : ((List Int) × Int)} (hF : bags_Check N l1 = some res) (w : World) {v5 : Value} (hs4 : SlIn encEvent 4 w v5 l1) :
    Made Try.prog 37 [v5] w (fun g : (Option Addr × Nat) => .tuple #[.slice g.1 (res.1).length g.2, .int .i64 res.2]) (fun g => [cR (eI .i64) 1 g.1 g.2 3 res.1]) (fun g => True) := by
  obtain ⟨A2, c3, rfl, hcc3, hs4⟩ := hs4.form
  refine W.enter (n := 69) Try.func37 rfl rfl Sub.refl (by simp) (St.start w) fun R hR => ?_
  unfold bags_Check at hF
  -- region 0: bags.go:42
  refine W.seqR fun Q1 hQ1 => ?_
  refine WL.q (Y.assign (.pl rfl)) rfl ?_
  refine WL.q (Y.assign (.pl rfl)) rfl ?_
  refine WL.next hQ1 (.cons (i := 0) rfl (.nil)) ?_
  -- region 1: bags.go:43
  refine W.seqR fun Q2 hQ2 => ?_
  obtain ⟨r6, hr6, hF⟩ := bnd hF
  refine WL.step (WO.callM isGo72 (.nil) rfl (fun wz hw => bags_types_ok (hr6) wz ) ?_)
  rintro A7 -
  refine WL.q (Y.move (.pl rfl)) rfl ?_
  obtain ⟨r8, hr8, hF⟩ := bnd hF
  refine WL.step (WO.callM isGo26 (.cons (.pl rfl) (.cons (.pl rfl) (.nil))) rfl (fun wz hw => history_Calls_ok (hr8) wz (SlIn.ofRow (fun _ => rfl) hw (i := 0) rfl) (hs4.mono hw)) ?_)
  rintro ⟨A9, c10⟩ -
  refine WL.q (Y.move (.pl rfl)) rfl ?_
  refine WL.q (Y.extract (.pl rfl) rfl) rfl ?_
  refine WL.q (Y.extract (.pl rfl) rfl) rfl ?_
  refine WL.q (Y.extract (.pl rfl) rfl) rfl ?_
  refine WL.q (Y.assign (.pl rfl)) rfl ?_
  refine WL.q (Y.assign (.pl rfl)) rfl ?_
  refine WL.q (Y.assign (.pl rfl)) rfl ?_
  refine WL.next hQ2 (.cons (i := 0) rfl (.cons (i := 4) rfl (.cons (i := 6) rfl (.nil)))) ?_
  refine W.seq fun K3 hK3 => ?_
  -- region 2: bags.go:44
  refine W.seqR fun Q4 hQ4 => ?_
  refine WL.q (Y.move (.pl rfl)) rfl ?_
  refine WL.q (Y.neq (.pl rfl) (.pl rfl)) rfl ?_
  refine WL.next hQ4 (.cons (i := 0) rfl (.cons (i := 4) rfl (.cons (i := 6) rfl (.cons (i := 24) rfl (.nil))))) ?_
  refine W.cond (.pl rfl) (fun hC5 => ?_) (fun hC5 => ?_)
  · replace hF := cpos hC5 hF
    -- region 3: bags.go:45
    refine W.seqR fun Q6 hQ6 => ?_
    refine WL.q (Y.move (.pl rfl)) rfl ?_
    refine WL.q (Y.assign (.pl rfl)) rfl ?_
    refine WL.q (Y.assign (.pl rfl)) rfl ?_
    refine WL.next hQ6 (.cons (i := 2) rfl (.cons (i := 3) rfl (.nil))) ?_
    obtain rfl := Option.some.inj hF
    refine W.retV (fn := Try.f37) (vs := [.slice none 0 0, .int .i64 r8.2.2]) Try.results37 ⟨.tmp rfl, ⟨.tmp rfl, trivial⟩⟩ (fun _ _ h => h) (fun wz hw => ?_)
    exact hR _ _ ⟨(none, 0), trivial, rfl, ((St.nilR (hw.pick [] rfl) (eI .i64) 1 3).pick [0] rfl)⟩
  · replace hF := cneg hC5 hF
    refine W.skip ?_
    refine W.go hK3 (.cons (i := 0) rfl (.cons (i := 4) rfl (.nil))) ?_
    -- region 4: bags.go:47
    refine W.seqR fun Q7 hQ7 => ?_
    refine WL.step (WO.mmake (Value.int .i64) rfl fun b11 => ?_)
    refine WL.q (Y.assign (.pl rfl)) rfl ?_
    refine WL.next hQ7 (.cons (i := 0) rfl (.cons (i := 4) rfl (.cons (i := 7) rfl (.nil)))) ?_
    obtain ⟨o8, hF8, hF⟩ := bnd hF
    refine W.join1 (Em := fun (count12 : (List (Int × Int))) => []) (M := fun count12 => [cM (Value.int .i64) (some b11) count12]) (I := fun count12 => (.inl count12) = o8) (.cons (i := 0) rfl (.cons (i := 7) rfl (.nil))) (fun K9 hK9 => ?_) ?_
    · -- up to
      -- region 5: bags.go:48
      refine W.seqR fun Q10 hQ10 => ?_
      refine WL.q (Y.move (.pl rfl)) rfl ?_
      refine WL.q (Y.len Try.underlying42 (.pl rfl)) rfl ?_
      refine WL.q (Y.move (.pl rfl)) rfl ?_
      refine WL.next hQ10 (.cons (i := 0) rfl (.cons (i := 7) rfl (.cons (i := 27) rfl (.cons (i := 28) rfl (.cons (i := 29) rfl (.nil)))))) ?_
      refine W.block ?_
      refine W.loop2 (Em := fun (count13 : (List (Int × Int))) (v14 : Int) => [(29, .int .i64 v14)]) (M := fun count13 v14 => [cM (Value.int .i64) (some b11) count13, cR encCall 7 A9 c10 48 r8.1]) (I := fun count13 v14 k11 => iter (bags_Check_L5 N r8) k11 (count13, v14) = some o8) ([] : List (Int × Int)) 0 N (hF8) (.cons rfl (.nil)) (.cons (i := 0) rfl (.cons (i := 7) rfl (.cons (i := 27) rfl (.cons (i := 28) rfl (.nil))))) (fun wz hw => hw.pick [0, 1] rfl) (fun count13 v14 k11 hI K12 hK12 => ?_)
      obtain ⟨k11, t11, rfl, hF11, hN11⟩ := iter_step hI
      -- region 6: bags.go:48
      refine W.seqR fun Q13 hQ13 => ?_
      refine WL.q (Y.lss (.pl rfl) (.pl rfl)) rfl ?_
      refine WL.next hQ13 (.cons (i := 0) rfl (.cons (i := 7) rfl (.cons (i := 27) rfl (.cons (i := 28) rfl (.cons (i := 29) rfl (.cons (i := 30) rfl (.nil))))))) ?_
      refine W.seq fun K14 hK14 => ?_
      refine W.cond (.pl rfl) (fun hC15 => ?_) (fun hC15 => ?_)
      · replace hF11 := cpos hC15 hF11
        refine W.skip ?_
        refine W.go hK14 (.cons (i := 0) rfl (.cons (i := 7) rfl (.cons (i := 27) rfl (.cons (i := 28) rfl (.cons (i := 29) rfl (.nil)))))) ?_
        refine W.seq fun K16 hK16 => ?_
        refine W.block ?_
        -- region 7: bags.go:48
        refine W.seqR fun Q17 hQ17 => ?_
        obtain ⟨x15, hx15, hF11⟩ := bnd hF11
        refine WL.q (Y.rowEl Try.underlying42 cells48 (i := 1) rfl (.pl rfl) rfl (.pl rfl) (ix_lt (hx15))) rfl ?_
        refine WL.q (Y.loadRA (enc := encCall) (ds := (encCall x15)) (a := x15) (idx := v14) (j := 0) Try.underlying48 rfl cells48 lenCall (i := 1) rfl (.pl rfl) (ix_get (hx15)) rfl rfl subW) rfl ?_
        refine WL.step (WO.alloc (cs := (encCall (Call.mk 0 0 0 0 0 0 0)).toArray) zero48 rfl rfl fun b16 => ?_)
        refine WL.step (WO.storeBA (ds := (encCall x15)) (cs' := (encCall x15)) cells48 (.pl rfl) (.pl rfl) rfl (oneCall _) (i := 0) rfl (lel (o := 0) (l := 7) (m := 7) (by decide) rfl rfl) (putW rfl) ?_)
        refine WL.next hQ17 (.cons (i := 0) rfl (.cons (i := 7) rfl (.cons (i := 9) rfl (.cons (i := 27) rfl (.cons (i := 28) rfl (.cons (i := 29) rfl (.nil))))))) ?_
        -- region 8: bags.go:49
        refine W.seqR fun Q18 hQ18 => ?_
        refine WL.q (Y.move (.pl rfl)) rfl ?_
        refine WL.q (Y.fieldAddr0 (off := 3) (ft := 3) Try.underlying48 rfl cells3 (.pl rfl)) rfl ?_
        refine WL.q (Y.loadB (v := .int .i64 x15.arg) Try.underlying3 rfl (.pl rfl) (i := 0) rfl (rfl)) rfl ?_
        refine WL.q (Y.mget (f := (Value.int .i64)) (dv := 0) Try.underlying110 Try.underlying3 zero3 (.pl rfl) (.pl rfl) (i := 1) rfl) rfl ?_
        obtain ⟨hk17, hF11⟩ := ckh hF11
        refine WL.q (Y.add (.pl rfl) (.pl rfl) (ok64_lt (hk17))) rfl ?_
        refine WL.step (WO.mset (f := (Value.int .i64)) (a := (((mget count13 x15.arg).getD 0) + 1)) Try.underlying110 Try.underlying3 (.pl rfl) (.pl rfl) (.pl rfl) (i := 1) rfl ?_)
        refine WL.next hQ18 (.cons (i := 0) rfl (.cons (i := 7) rfl (.cons (i := 9) rfl (.cons (i := 27) rfl (.cons (i := 28) rfl (.cons (i := 29) rfl (.nil))))))) ?_
        -- region 9: bags.go:49
        refine W.seqR fun Q19 hQ19 => ?_
        refine WL.q (Y.move (.pl rfl)) rfl ?_
        refine WL.q (Y.fieldAddr0 (off := 3) (ft := 3) Try.underlying48 rfl cells3 (.pl rfl)) rfl ?_
        refine WL.q (Y.loadB (v := .int .i64 x15.arg) Try.underlying3 rfl (.pl rfl) (i := 0) rfl (rfl)) rfl ?_
        refine WL.q (Y.mget (f := (Value.int .i64)) (dv := 0) Try.underlying110 Try.underlying3 zero3 (.pl rfl) (.pl rfl) (i := 1) rfl) rfl ?_
        refine WL.q (Y.gtr (.pl rfl) (.pl rfl)) rfl ?_
        refine WL.next hQ19 (.cons (i := 0) rfl (.cons (i := 7) rfl (.cons (i := 27) rfl (.cons (i := 28) rfl (.cons (i := 29) rfl (.cons (i := 42) rfl (.nil))))))) ?_
        refine W.cond (.pl rfl) (fun hC20 => ?_) (fun hC20 => ?_)
        · replace hF11 := cpos hC20 hF11
          -- region 10: bags.go:50
          refine W.seqR fun Q21 hQ21 => ?_
          refine WL.q (Y.assign (.pl rfl)) rfl ?_
          refine WL.q (Y.assign (.pl rfl)) rfl ?_
          refine WL.next hQ21 (.cons (i := 2) rfl (.cons (i := 3) rfl (.nil))) ?_
          obtain rfl := Option.some.inj hF11
          obtain rfl := einr hN11
          obtain rfl := Option.some.inj hF
          refine W.retV (fn := Try.f37) (vs := [.slice none 0 0, .int .i64 2]) Try.results37 ⟨.tmp rfl, ⟨.tmp rfl, trivial⟩⟩ (fun _ _ h => h) (fun wz hw => ?_)
          exact hR _ _ ⟨(none, 0), trivial, rfl, ((St.nilR (hw.pick [] rfl) (eI .i64) 1 3).pick [0] rfl)⟩
        · replace hF11 := cneg hC20 hF11
          refine W.skip ?_
          refine W.go hK16 (.cons (i := 0) rfl (.cons (i := 7) rfl (.cons (i := 27) rfl (.cons (i := 28) rfl (.cons (i := 29) rfl (.nil)))))) ?_
          -- region 11: bags.go:48
          refine W.reg ?_
          obtain ⟨hk18, hF11⟩ := ckh hF11
          refine WL.q (Y.add (.pl rfl) (.pl rfl) (ok64_lt (hk18))) rfl ?_
          refine WL.q (Y.move (.pl rfl)) rfl ?_
          refine WL.nil ?_
          obtain rfl := Option.some.inj hF11
          exact W.again2 hK12 (mput count13 x15.arg (((mget count13 x15.arg).getD 0) + 1)) (v14 + 1) k11 hN11 (Nat.lt_succ_self _) (.cons rfl (.nil)) (.cons (i := 0) rfl (.cons (i := 7) rfl (.cons (i := 27) rfl (.cons (i := 28) rfl (.nil))))) (fun wz hw => hw.pick [1, 2] rfl)
      · replace hF11 := cneg hC15 hF11
        refine W.exit ?_
        obtain rfl := Option.some.inj hF11
        exact W.joinAt1 hK9 count13 (einr hN11) (.nil) (.cons (i := 0) rfl (.cons (i := 7) rfl (.nil))) (fun wz hw => hw.pick [0] rfl)
    · -- behind
      rintro count12 rfl
      -- region 12: bags.go:53
      refine W.seqR fun Q23 hQ23 => ?_
      refine WL.q (Y.assign (.pl rfl)) rfl ?_
      refine WL.next hQ23 (.cons (i := 0) rfl (.cons (i := 7) rfl (.cons (i := 10) rfl (.nil)))) ?_
      obtain ⟨o24, hF24, hF⟩ := bnd hF
      refine W.join3 (Em := fun (out21 : (List Int)) (A19 : Option Addr) (c20 : Nat) => [(10, .slice A19 (out21).length c20)]) (M := fun out21 A19 c20 => [cR (eI .i64) 1 A19 c20 3 out21]) (I := fun out21 A19 c20 => out21 = o24) (.nil) (fun K25 hK25 => ?_) ?_
      · -- up to
        -- region 13: bags.go:54
        refine W.seqR fun Q26 hQ26 => ?_
        refine WL.q (Y.move (.pl rfl)) rfl ?_
        obtain ⟨r22, hr22, hF24⟩ := bnd hF24
        refine WL.step (WO.call (γ := Nat) (fun g => .func (.func 107) #[] #[.pointer (some ⟨g, 0, none⟩)]) (fun g => [cM (Value.int .i64) (some b11) count12, cBx g 110 [.map (some b11)]]) (fun g => True) isGo74 (.cons (.pl rfl) (.nil)) rfl (fun wz hw => maps_Keys_map_int_int_int_int_ok (T := []) (hr22) (hw.pick [0] rfl) ) ?_)
        rintro b23 -
        obtain ⟨r24, hr24, hF24⟩ := bnd hF24
        refine WL.step (WO.call (γ := (Option Addr × Nat)) (fun g => .slice g.1 (r24).length g.2) (fun g => [cR (eI .i64) 1 g.1 g.2 3 r24, cBx b23 110 [.map (some b11)], cM (Value.int .i64) (some b11) count12]) (fun g => True) isGo73 (.cons (.pl rfl) (.nil)) rfl (fun wz hw => sortedKeys73_ok (T := []) (hr24) (hw.pick [1, 0] rfl) ) ?_)
        rintro ⟨AI25, cI26⟩ -
        refine WL.q (Y.len Try.underlying45 (.pl rfl)) rfl ?_
        refine WL.q (Y.move (.pl rfl)) rfl ?_
        refine WL.next hQ26 (.cons (i := 0) rfl (.cons (i := 10) rfl (.cons (i := 46) rfl (.cons (i := 47) rfl (.cons (i := 48) rfl (.nil)))))) ?_
        refine W.block ?_
        refine W.loop4 (Em := fun (out29 : (List Int)) (v30 : Int) (A27 : Option Addr) (c28 : Nat) => [(10, .slice A27 (out29).length c28), (48, .int .i64 v30)]) (M := fun out29 v30 A27 c28 => [cR (eI .i64) 1 A27 c28 3 out29, cR (eI .i64) 1 AI25 cI26 3 r24]) (I := fun out29 v30 A27 c28 k27 => iter (bags_Check_L7 N r24 l1) k27 (out29, v30) = some o24) [] 0 none 0 N (hF24) (.cons rfl (.cons rfl (.nil))) (.cons (i := 0) rfl (.cons (i := 46) rfl (.cons (i := 47) rfl (.nil)))) (fun wz hw => (St.nilR (hw.pick [0] rfl) (eI .i64) 1 3).pick [0, 1] rfl) (fun out29 v30 A27 c28 k27 hI K28 hK28 => ?_)
        obtain ⟨k27, t27, rfl, hF27, hN27⟩ := iter_step hI
        -- region 14: bags.go:54
        refine W.seqR fun Q29 hQ29 => ?_
        refine WL.q (Y.lss (.pl rfl) (.pl rfl)) rfl ?_
        refine WL.next hQ29 (.cons (i := 0) rfl (.cons (i := 10) rfl (.cons (i := 46) rfl (.cons (i := 47) rfl (.cons (i := 48) rfl (.cons (i := 49) rfl (.nil))))))) ?_
        refine W.seq fun K30 hK30 => ?_
        refine W.cond (.pl rfl) (fun hC31 => ?_) (fun hC31 => ?_)
        · replace hF27 := cpos hC31 hF27
          refine W.skip ?_
          refine W.go hK30 (.cons (i := 0) rfl (.cons (i := 10) rfl (.cons (i := 46) rfl (.cons (i := 47) rfl (.cons (i := 48) rfl (.nil)))))) ?_
          refine W.seq fun K32 hK32 => ?_
          refine W.block ?_
          -- region 15: bags.go:54
          refine W.seqR fun Q33 hQ33 => ?_
          obtain ⟨x31, hx31, hF27⟩ := bnd hF27
          refine WL.q (Y.rowEl Try.underlying45 cells3 (i := 1) rfl (.pl rfl) rfl (.pl rfl) (ix_lt (hx31))) rfl ?_
          refine WL.q (Y.loadR (enc := (eI .i64)) (v := .int .i64 x31) (a := x31) (idx := v30) (j := 0) Try.underlying3 rfl (fun _ => rfl) (i := 1) rfl (.pl rfl) (ix_get (hx31)) rfl rfl) rfl ?_
          refine WL.q (Y.assign (.pl rfl)) rfl ?_
          refine WL.next hQ33 (.cons (i := 0) rfl (.cons (i := 10) rfl (.cons (i := 12) rfl (.cons (i := 46) rfl (.cons (i := 47) rfl (.cons (i := 48) rfl (.nil))))))) ?_
          -- region 16: bags.go:55
          refine W.seqR fun Q34 hQ34 => ?_
          obtain ⟨r32, hr32, hF27⟩ := bnd hF27
          refine WL.step (WO.callM isGo72 (.nil) rfl (fun wz hw => bags_types_ok (hr32) wz ) ?_)
          rintro A33 -
          refine WL.q (Y.move (.pl rfl)) rfl ?_
          refine WL.q (Y.move (.pl rfl)) rfl ?_
          obtain ⟨r34, hr34, hF27⟩ := bnd hF27
          refine WL.step (WO.callM isGo75 (.cons (.pl rfl) (.cons (.pl rfl) (.nil))) rfl (fun wz hw => bags_part_ok (hr34) wz (hs4.mono hw)) ?_)
          rintro ⟨A35, c36⟩ -
          obtain ⟨r37, hr37, hF27⟩ := bnd hF27
          refine WL.step (WO.callM isGo38 (.cons (.pl rfl) (.cons (.pl rfl) (.nil))) rfl (fun wz hw => search_Find_ok (hr37) wz (SlIn.ofRow (fun _ => rfl) hw (i := 1) rfl) (SlIn.ofRow lenEvent hw (i := 0) rfl)) ?_)
          rintro ⟨A38, c39⟩ -
          refine WL.q (Y.move (.pl rfl)) rfl ?_
          refine WL.q (Y.extract (.pl rfl) rfl) rfl ?_
          refine WL.q (Y.extract (.pl rfl) rfl) rfl ?_
          refine WL.q (Y.extract (.pl rfl) rfl) rfl ?_
          refine WL.q (Y.assign (.pl rfl)) rfl ?_
          refine WL.q (Y.assign (.pl rfl)) rfl ?_
          refine WL.q (Y.assign (.pl rfl)) rfl ?_
          refine WL.next hQ34 (.cons (i := 0) rfl (.cons (i := 10) rfl (.cons (i := 12) rfl (.cons (i := 14) rfl (.cons (i := 46) rfl (.cons (i := 47) rfl (.cons (i := 48) rfl (.nil)))))))) ?_
          -- region 17: bags.go:55
          refine W.seqR fun Q35 hQ35 => ?_
          refine WL.q (Y.move (.pl rfl)) rfl ?_
          refine WL.q (Y.not (.pl rfl)) rfl ?_
          refine WL.next hQ35 (.cons (i := 0) rfl (.cons (i := 10) rfl (.cons (i := 12) rfl (.cons (i := 46) rfl (.cons (i := 47) rfl (.cons (i := 48) rfl (.cons (i := 62) rfl (.nil)))))))) ?_
          refine W.cond (.pl rfl) (fun hC36 => ?_) (fun hC36 => ?_)
          · replace hF27 := cpos hC36 hF27
            -- region 18: bags.go:56
            refine W.reg ?_
            refine WL.q (Y.move (.pl rfl)) rfl ?_
            refine WL.q (Y.move (.pl rfl)) rfl ?_
            refine WL.step (WO.bsliceC (enc := (eI .i64)) (ys := ([x31] : List Int)) Try.underlying45 bz3 (.cons (.pl rfl) (.nil)) rfl (fun _ => rfl) rfl rfl (by decide) (by decide) rfl fun b40 => ?_)
            obtain ⟨hk43, hF27⟩ := ckh hF27
            refine WL.step (WO.appendC (enc := (eI .i64)) Try.underlying45 ap3 (fun _ => rfl) oneI (.pl rfl) rfl (.pl rfl) (i := 4) rfl (m2 := 0) rfl (hk43) rfl fun A41 c42 => ?_)
            refine WL.q (Y.assign (.pl rfl)) rfl ?_
            refine WL.nil ?_
            refine W.go hK32 (.cons (i := 0) rfl (.cons (i := 10) rfl (.cons (i := 46) rfl (.cons (i := 47) rfl (.cons (i := 48) rfl (.nil)))))) ?_
            -- region 19: bags.go:54
            refine W.reg ?_
            obtain ⟨hk44, hF27⟩ := ckh hF27
            refine WL.q (Y.add (.pl rfl) (.pl rfl) (ok64_lt (hk44))) rfl ?_
            refine WL.q (Y.move (.pl rfl)) rfl ?_
            refine WL.nil ?_
            obtain rfl := Option.some.inj hF27
            exact W.again4 hK28 (out29 ++ ([x31] : List Int)) (v30 + 1) A41 c42 k27 hN27 (Nat.lt_succ_self _) (.cons rfl (.cons rfl (.nil))) (.cons (i := 0) rfl (.cons (i := 46) rfl (.cons (i := 47) rfl (.nil)))) (fun wz hw => hw.pick [4, 5] rfl)
          · replace hF27 := cneg hC36 hF27
            refine W.skip ?_
            refine W.go hK32 (.cons (i := 0) rfl (.cons (i := 10) rfl (.cons (i := 46) rfl (.cons (i := 47) rfl (.cons (i := 48) rfl (.nil)))))) ?_
            -- region 19: bags.go:54
            refine W.reg ?_
            obtain ⟨hk45, hF27⟩ := ckh hF27
            refine WL.q (Y.add (.pl rfl) (.pl rfl) (ok64_lt (hk45))) rfl ?_
            refine WL.q (Y.move (.pl rfl)) rfl ?_
            refine WL.nil ?_
            obtain rfl := Option.some.inj hF27
            exact W.again4 hK28 out29 (v30 + 1) A27 c28 k27 hN27 (Nat.lt_succ_self _) (.cons rfl (.cons rfl (.nil))) (.cons (i := 0) rfl (.cons (i := 46) rfl (.cons (i := 47) rfl (.nil)))) (fun wz hw => hw.pick [3, 4] rfl)
        · replace hF27 := cneg hC31 hF27
          refine W.exit ?_
          obtain rfl := Option.some.inj hF27
          exact W.joinAt3 hK25 out29 A27 c28 (einr hN27) (.cons rfl (.nil)) (.nil) (fun wz hw => hw.pick [0] rfl)
      · -- behind
        rintro out21 A19 c20 rfl
        -- region 20: bags.go:59
        refine W.seqR fun Q40 hQ40 => ?_
        refine WL.q (Y.move (.pl rfl)) rfl ?_
        refine WL.q (Y.assign (.pl rfl)) rfl ?_
        refine WL.q (Y.assign (.pl rfl)) rfl ?_
        refine WL.next hQ40 (.cons (i := 2) rfl (.cons (i := 3) rfl (.nil))) ?_
        obtain rfl := Option.some.inj hF
        refine W.retV (fn := Try.f37) (vs := [.slice A19 (out21).length c20, .int .i64 0]) Try.results37 ⟨.tmp rfl, ⟨.tmp rfl, trivial⟩⟩ (fun _ _ h => h) (fun wz hw => ?_)
        exact hR _ _ ⟨(A19, c20), trivial, rfl, (hw.pick [0] rfl)⟩

def bags_Part (N : Nat) (l1 : (List Event)) (n6 : Int) : Option ((List Event) × Int) :=
  bd (bags_types N) fun (r7 : Unit) =>
  bd (history_Calls N ([4] : List Int) l1) fun (r9 : ((List Call) × Int × Int)) =>
  cond (!(decide (r9.2.2 = 0)))
    (some ([], r9.2.2))
    (cond ((decide (n6 < 1)) || (decide (1000 < n6)))
      (some ([], 1))
      (bd (bags_part N l1 n6) fun (r12 : (List Event)) =>
      some (r12, 0)))

theorem bags_Part_ok {N : Nat} {l1 : (List Event)} {n6 : Int} {res : ((List Event) × Int)} (hF : bags_Part N l1 n6 = some res) (w : World) {v5 : Value} (hs4 : SlIn encEvent 4 w v5 l1) :
    Made Try.prog 41 [v5, .int .i64 n6] w (fun g : (Option Addr × Nat) => .tuple #[.slice g.1 (res.1).length g.2, .int .i64 res.2]) (fun g => [cR encEvent 4 g.1 g.2 39 res.1]) (fun g => True) := by
  obtain ⟨A2, c3, rfl, hcc3, hs4⟩ := hs4.form
  refine W.enter (n := 28) Try.func41 rfl rfl Sub.refl (by simp) (St.start w) fun R hR => ?_
  unfold bags_Part at hF
  -- region 0: bags.go:31
  refine W.seqR fun Q1 hQ1 => ?_
  refine WL.q (Y.assign (.pl rfl)) rfl ?_
  refine WL.q (Y.assign (.pl rfl)) rfl ?_
  refine WL.next hQ1 (.cons (i := 0) rfl (.cons (i := 1) rfl (.nil))) ?_
  refine W.seq fun K2 hK2 => ?_
  -- region 1: bags.go:32
  refine W.seqR fun Q3 hQ3 => ?_
  obtain ⟨r7, hr7, hF⟩ := bnd hF
  refine WL.step (WO.callM isGo72 (.nil) rfl (fun wz hw => bags_types_ok (hr7) wz ) ?_)
  rintro A8 -
  refine WL.q (Y.move (.pl rfl)) rfl ?_
  obtain ⟨r9, hr9, hF⟩ := bnd hF
  refine WL.step (WO.callM isGo26 (.cons (.pl rfl) (.cons (.pl rfl) (.nil))) rfl (fun wz hw => history_Calls_ok (hr9) wz (SlIn.ofRow (fun _ => rfl) hw (i := 0) rfl) (hs4.mono hw)) ?_)
  rintro ⟨A10, c11⟩ -
  refine WL.q (Y.move (.pl rfl)) rfl ?_
  refine WL.q (Y.extract (.pl rfl) rfl) rfl ?_
  refine WL.q (Y.extract (.pl rfl) rfl) rfl ?_
  refine WL.q (Y.extract (.pl rfl) rfl) rfl ?_
  refine WL.q (Y.assign (.pl rfl)) rfl ?_
  refine WL.q (Y.assign (.pl rfl)) rfl ?_
  refine WL.q (Y.assign (.pl rfl)) rfl ?_
  refine WL.next hQ3 (.cons (i := 0) rfl (.cons (i := 1) rfl (.cons (i := 8) rfl (.nil)))) ?_
  -- region 2: bags.go:32
  refine W.seqR fun Q4 hQ4 => ?_
  refine WL.q (Y.move (.pl rfl)) rfl ?_
  refine WL.q (Y.neq (.pl rfl) (.pl rfl)) rfl ?_
  refine WL.next hQ4 (.cons (i := 0) rfl (.cons (i := 1) rfl (.cons (i := 8) rfl (.cons (i := 17) rfl (.nil))))) ?_
  refine W.cond (.pl rfl) (fun hC5 => ?_) (fun hC5 => ?_)
  · replace hF := cpos hC5 hF
    -- region 3: bags.go:33
    refine W.seqR fun Q6 hQ6 => ?_
    refine WL.q (Y.move (.pl rfl)) rfl ?_
    refine WL.q (Y.assign (.pl rfl)) rfl ?_
    refine WL.q (Y.assign (.pl rfl)) rfl ?_
    refine WL.next hQ6 (.cons (i := 4) rfl (.cons (i := 5) rfl (.nil))) ?_
    obtain rfl := Option.some.inj hF
    refine W.retV (fn := Try.f41) (vs := [.slice none 0 0, .int .i64 r9.2.2]) Try.results41 ⟨.tmp rfl, ⟨.tmp rfl, trivial⟩⟩ (fun _ _ h => h) (fun wz hw => ?_)
    exact hR _ _ ⟨(none, 0), trivial, rfl, ((St.nilR (hw.pick [] rfl) encEvent 4 39).pick [0] rfl)⟩
  · replace hF := cneg hC5 hF
    refine W.skip ?_
    refine W.go hK2 (.cons (i := 0) rfl (.cons (i := 1) rfl (.nil))) ?_
    refine W.seq fun K7 hK7 => ?_
    -- region 4: bags.go:35
    refine W.seqR fun Q8 hQ8 => ?_
    refine WL.q (Y.move (.pl rfl)) rfl ?_
    refine WL.q (Y.lss (.pl rfl) (.pl rfl)) rfl ?_
    refine WL.q (Y.move (.pl rfl)) rfl ?_
    refine WL.g (.pl rfl rfl rfl) (fun hg => Y.move (.pl rfl)) rfl ?_
    refine WL.g (.pl rfl rfl rfl) (fun hg => Y.gtr (.gd (hg) rfl) (.pl rfl)) rfl ?_
    refine WL.q (Y.or (.pl rfl) (fun h2 => .gd (eqf h2) rfl)) rfl ?_
    refine WL.next hQ8 (.cons (i := 0) rfl (.cons (i := 1) rfl (.cons (i := 24) rfl (.nil)))) ?_
    refine W.cond (.pl rfl) (fun hC9 => ?_) (fun hC9 => ?_)
    · replace hF := cpos hC9 hF
      -- region 5: bags.go:36
      refine W.seqR fun Q10 hQ10 => ?_
      refine WL.q (Y.assign (.pl rfl)) rfl ?_
      refine WL.q (Y.assign (.pl rfl)) rfl ?_
      refine WL.next hQ10 (.cons (i := 4) rfl (.cons (i := 5) rfl (.nil))) ?_
      obtain rfl := Option.some.inj hF
      refine W.retV (fn := Try.f41) (vs := [.slice none 0 0, .int .i64 1]) Try.results41 ⟨.tmp rfl, ⟨.tmp rfl, trivial⟩⟩ (fun _ _ h => h) (fun wz hw => ?_)
      exact hR _ _ ⟨(none, 0), trivial, rfl, ((St.nilR (hw.pick [] rfl) encEvent 4 39).pick [0] rfl)⟩
    · replace hF := cneg hC9 hF
      refine W.skip ?_
      refine W.go hK7 (.cons (i := 0) rfl (.cons (i := 1) rfl (.nil))) ?_
      -- region 6: bags.go:38
      refine W.seqR fun Q11 hQ11 => ?_
      refine WL.q (Y.move (.pl rfl)) rfl ?_
      refine WL.q (Y.move (.pl rfl)) rfl ?_
      obtain ⟨r12, hr12, hF⟩ := bnd hF
      refine WL.step (WO.callM isGo75 (.cons (.pl rfl) (.cons (.pl rfl) (.nil))) rfl (fun wz hw => bags_part_ok (hr12) wz (hs4.mono hw)) ?_)
      rintro ⟨A13, c14⟩ -
      refine WL.q (Y.assign (.pl rfl)) rfl ?_
      refine WL.q (Y.assign (.pl rfl)) rfl ?_
      refine WL.next hQ11 (.cons (i := 4) rfl (.cons (i := 5) rfl (.nil))) ?_
      obtain rfl := Option.some.inj hF
      refine W.retV (fn := Try.f41) (vs := [.slice A13 (r12).length c14, .int .i64 0]) Try.results41 ⟨.tmp rfl, ⟨.tmp rfl, trivial⟩⟩ (fun _ _ h => h) (fun wz hw => ?_)
      exact hR _ _ ⟨(A13, c14), trivial, rfl, (hw.pick [0] rfl)⟩

end Go.Proofs.Ytolneilkgjglkaa
