/- HistoryBack: what its code computes, and the walks. -/
import Derived.Test.YtooaoekfnmakhaaS2
set_option linter.unusedVariables false
set_option linter.unusedSimpArgs false
set_option linter.unusedSectionVars false
set_option maxRecDepth 100000
namespace Go.Proofs.Ytooaoekfnmakhaa
open Go.RowKit
theorem cells4 : Try.prog.cellsOf 4 = 0 + 1 := by kernel_rfl
theorem cells23 : Try.prog.cellsOf 23 = 0 + 1 := by kernel_rfl
theorem cells88 : Try.prog.cellsOf 88 = 0 + 1 := by kernel_rfl
theorem isGo20 : IsGo Try.prog 20 := ⟨_, Try.func20, by kernel_rfl, rfl⟩
theorem isGo21 : IsGo Try.prog 21 := ⟨_, Try.func21, by kernel_rfl, rfl⟩
theorem isGo41 : IsGo Try.prog 41 := ⟨_, Try.func41, by kernel_rfl, rfl⟩
theorem zero3 : ∃ i, Try.prog.info? 3 = some i ∧ i.zero = some (Value.int .i64 0) := ⟨_, rfl, by kernel_rfl⟩
theorem zero23 : ∃ i, Try.prog.info? 23 = some i ∧ i.zero = some (Value.slice none 0 0) := ⟨_, rfl, by kernel_rfl⟩
theorem zero88 : ∃ i, Try.prog.info? 88 = some i ∧ i.zero = some (Value.slice none 0 0) := ⟨_, rfl, by kernel_rfl⟩
theorem mka4 : ∃ i z, Try.prog.info? 4 = some i ∧ i.zero = some z ∧ i.size = 1 ∧ i.bytes = 1 ∧ z.cells = ([(Value.bool false)] : List Value).toArray ∧ ([(Value.bool false)] : List Value).length = 1 ∧ 0 < 1 := ⟨_, (Value.bool false), rfl, by kernel_rfl, by kernel_rfl, by kernel_rfl, rfl, rfl, by decide⟩
theorem mka36 : ∃ i z, Try.prog.info? 36 = some i ∧ i.zero = some z ∧ i.size = 4 ∧ i.bytes = 32 ∧ z.cells = ([(Value.int .i64 0), (Value.int .i64 0), (Value.int .i64 0), (Value.int .i64 0)] : List Value).toArray ∧ ([(Value.int .i64 0), (Value.int .i64 0), (Value.int .i64 0), (Value.int .i64 0)] : List Value).length = 4 ∧ 0 < 4 := ⟨_, (Value.agg #[(Value.int .i64 0), (Value.int .i64 0), (Value.int .i64 0), (Value.int .i64 0)]), rfl, by kernel_rfl, by kernel_rfl, by kernel_rfl, rfl, rfl, by decide⟩
theorem eqs36 : EqShape Try.prog 36 [true, true, true, true] := ⟨_, Try.underlying36, by kernel_rfl, by kernel_rfl, by kernel_rfl⟩
theorem ap3 : ∃ i z, Try.prog.info? 3 = some i ∧ i.zero = some z ∧ i.size = 1 ∧ i.bytes = 8 ∧ z.cells.size = 1 ∧ 0 < 1 := ⟨_, (Value.int .i64 0), rfl, by kernel_rfl, by kernel_rfl, by kernel_rfl, by kernel_rfl, by decide⟩
def history_Events_1 (N : Nat) (at1 : Int) (v2 : Event) (a4 : Int) (a8 : (List Bool)) (a12 : (List Event)) : Option ((List Bool) × (List Event) × Bool) :=
  bd ((cond (((decide (at1 < 0)) || (decide (a4 ≤ at1))) == false) (ix a8 at1) (some false))) fun (x14 : Bool) =>
  cond (((decide (at1 < 0)) || (decide (a4 ≤ at1))) || x14)
    (some (a8, a12, false))
    (bd (ix a12 at1) fun (x15 : Event) =>
    bd (ix a8 at1) fun (x16 : Bool) =>
    some ((a8.set at1.toNat true), (a12.set at1.toNat v2), true))

theorem history_Events_1_ok {N : Nat} {at1 : Int} {v2 : Event} {a4 : Int} {a8 : (List Bool)} {a12 : (List Event)} {b3 : Nat} {b5 : Nat} {A6 : Option Addr} {c7 : Nat} {b9 : Nat} {A10 : Option Addr} {c11 : Nat} {res : ((List Bool) × (List Event) × Bool)} (hF : history_Events_1 N at1 v2 a4 a8 a12 = some res) {w0 w : World} {T : List Chunk} (hw : St w0.heap.size w0 ([cBx b3 3 [.int .i64 a4], cBx b5 88 [.slice A6 (a8).length c7], cR eB 1 A6 c7 4 a8, cBx b9 23 [.slice A10 (a12).length c11], cR encEvent 4 A10 c11 36 a12] ++ T) w) :
    Calls Try.prog 41 (List.toArray [.int .i64 at1, .agg (encEvent v2).toArray, .pointer (some ⟨b3, 0, none⟩), .pointer (some ⟨b5, 0, none⟩), .pointer (some ⟨b9, 0, none⟩)]) w (fun e w' => ∃ g : Unit, True ∧ e = .returned (.bool res.2.2) ∧ St w0.heap.size w0 ([cBx b3 3 [.int .i64 a4], cBx b5 88 [.slice A6 (res.1).length c7], cR eB 1 A6 c7 4 res.1, cBx b9 23 [.slice A10 (res.2.1).length c11], cR encEvent 4 A10 c11 36 res.2.1] ++ T) w') := by
  refine W.enter (n := 28) Try.func41 rfl rfl Sub.refl (by simp) hw fun R hR => ?_
  unfold history_Events_1 at hF
  -- region 0: history.go:128
  refine W.seqR fun Q1 hQ1 => ?_
  refine WL.step (WO.boxA (.pl rfl) rfl fun b13 => ?_)
  refine WL.q (Y.assign (.pl rfl)) rfl ?_
  refine WL.next hQ1 (.cons (i := 0) rfl (.cons (i := 2) rfl (.cons (i := 3) rfl (.cons (i := 4) rfl (.cons (i := 6) rfl (.nil)))))) ?_
  refine W.seq fun K2 hK2 => ?_
  -- region 1: history.go:129
  refine W.seqR fun Q3 hQ3 => ?_
  refine WL.q (Y.move (.pl rfl)) rfl ?_
  refine WL.q (Y.lss (.pl rfl) (.pl rfl)) rfl ?_
  refine WL.q (Y.move (.pl rfl)) rfl ?_
  refine WL.g (.pl rfl rfl rfl) (fun hg => Y.move (.pl rfl)) rfl ?_
  refine WL.g (.pl rfl rfl rfl) (fun hg => Y.loadB (v := .int .i64 a4) Try.underlying3 rfl (.pl rfl) (i := 1) rfl (rfl)) rfl ?_
  refine WL.g (.pl rfl rfl rfl) (fun hg => Y.geq (.gd (hg) rfl) (.gd (hg) rfl)) rfl ?_
  refine WL.q (Y.or (.pl rfl) (fun h2 => .gd (eqf h2) rfl)) rfl ?_
  refine WL.q (Y.move (.pl rfl)) rfl ?_
  refine WL.g (.pl rfl rfl rfl) (fun hg => Y.loadB (v := .slice A6 (a8).length c7) Try.underlying88 rfl (.pl rfl) (i := 2) rfl (rfl)) rfl ?_
  refine WL.g (.pl rfl rfl rfl) (fun hg => Y.move (.pl rfl)) rfl ?_
  obtain ⟨x14, hx14, hF⟩ := bnd hF
  refine WL.g (.pl rfl rfl rfl) (fun hg => Y.rowEl Try.underlying88 cells4 (i := 3) rfl (.gd (hg) rfl) rfl (.gd (hg) rfl) (ix_lt (gpos hg hx14))) rfl ?_
  refine WL.g (.pl rfl rfl rfl) (fun hg => Y.loadR (enc := eB) (v := .bool x14) (a := x14) (idx := at1) (j := 0) Try.underlying4 rfl (fun _ => rfl) (i := 3) rfl (.gd (hg) rfl) (ix_get (gpos hg hx14)) rfl rfl) rfl ?_
  refine WL.q (Y.or (.pl rfl) (fun h2 => .gd (eqf h2) rfl)) rfl ?_
  refine WL.next hQ3 (.cons (i := 0) rfl (.cons (i := 3) rfl (.cons (i := 4) rfl (.cons (i := 6) rfl (.cons (i := 20) rfl (.nil)))))) ?_
  refine W.cond (.pl rfl) (fun hC4 => ?_) (fun hC4 => ?_)
  · replace hF := cpos hC4 hF
    -- region 2: history.go:130
    refine W.seqR fun Q5 hQ5 => ?_
    refine WL.q (Y.assign (.pl rfl)) rfl ?_
    refine WL.next hQ5 (.cons (i := 7) rfl (.nil)) ?_
    obtain rfl := Option.some.inj hF
    refine W.retV (fn := Try.f41) (vs := [.bool false]) Try.results41 ⟨.tmp rfl, trivial⟩ (fun _ _ h => h) (fun w hw => ?_)
    exact hR _ _ ⟨(), trivial, rfl, (hw.pickK 6 [1, 2, 3, 4, 5] rfl)⟩
  · replace hF := cneg hC4 hF
    refine W.skip ?_
    refine W.go hK2 (.cons (i := 0) rfl (.cons (i := 3) rfl (.cons (i := 4) rfl (.cons (i := 6) rfl (.nil))))) ?_
    -- region 3: history.go:132
    refine W.know (fun w hw => (hw.row_lim (i := 5) rfl).2.2) (fun hok7 => ?_)
    refine W.seqXK 8 [0, 1, 2, 3, 4] (by kernel_rfl) fun K6 hK6 => ?_
    refine WX.take 0 #[true, false, false, false, false, false, false, false, false] (fun w hw => hw.pick [0, 1, 2, 3, 4] rfl) rfl (by kernel_rfl) (Y.loadB (v := .slice A10 (a12).length c11) Try.underlying23 rfl (.pl rfl) (i := 4) rfl (rfl)) rfl ?_
    refine WX.pure 1 #[true, true, false, false, false, false, false, false, false] rfl (by kernel_rfl) (fun _ _ => Y.move (.pl rfl)) rfl ?_
    refine WX.take 2 #[true, true, true, false, false, false, false, false, false] (fun w hw => hw.pick [0, 1, 2, 3, 4] rfl) rfl (by kernel_rfl) (Y.loadB (v := .slice A6 (a8).length c7) Try.underlying88 rfl (.pl rfl) (i := 2) rfl (rfl)) rfl ?_
    refine WX.pure 3 #[true, true, true, true, false, false, false, false, false] rfl (by kernel_rfl) (fun _ _ => Y.move (.pl rfl)) rfl ?_
    refine WX.take 4 #[true, true, true, true, true, false, false, false, false] (fun w hw => hw.pick [0, 1, 2, 3, 4] rfl) rfl (by kernel_rfl) (Y.loadBA (ds := (encEvent v2)) Try.underlying36 rfl cells36 (.pl rfl) (i := 0) rfl rfl subW) rfl ?_
    obtain ⟨x15, hx15, hF⟩ := bnd hF
    refine WX.pure 5 #[true, true, true, true, true, true, false, false, false] rfl (by kernel_rfl) (fun _ _ => Y.okEl (xs := a12) Try.underlying23 cells36 hok7 (.pl rfl) rfl (.pl rfl) (ix_lt (hx15))) rfl ?_
    refine WX.one 6 #[true, true, true, true, true, true, true, false, false] (fun w hw => hw.pick [0, 1, 2, 3, 4] rfl) rfl (by kernel_rfl) (WO.storeSA (enc := encEvent) (a' := v2) (idx := at1) cells36 (.pl rfl) (.pl rfl) lenEvent rfl (oneEvent _) (i := 5) rfl (ix_lt (hx15)) rfl ?_)
    obtain ⟨x16, hx16, hF⟩ := bnd hF
    refine WX.take 7 #[true, true, true, true, true, true, true, true, false] (fun w hw => hw.pick [0, 1, 2, 3, 4] rfl) rfl (by kernel_rfl) (Y.rowEl Try.underlying88 cells4 (i := 3) rfl (.pl rfl) rfl (.pl rfl) (ix_lt (hx16))) rfl ?_
    refine WX.stop #[true, true, true, true, true, true, true, true, true] (fun w hw => hw.pick [0, 1, 2, 3, 4] rfl) rfl (by kernel_rfl) (WO.storeS (enc := eB) (a := x16) (a' := true) (idx := at1) (j := 0) cells4 (.pl rfl) (.pl rfl) rfl (fun _ => rfl) (i := 3) rfl (ix_get (hx16)) rfl (by decide) rfl ?_)
    refine WA.done (by kernel_rfl) ?_
    refine KK.next hK6 (.nil) ?_
    -- region 4: history.go:133
    refine W.seqR fun Q8 hQ8 => ?_
    refine WL.q (Y.assign (.pl rfl)) rfl ?_
    refine WL.next hQ8 (.cons (i := 7) rfl (.nil)) ?_
    obtain rfl := Option.some.inj hF
    refine W.retV (fn := Try.f41) (vs := [.bool true]) Try.results41 ⟨.tmp rfl, trivial⟩ (fun _ _ h => h) (fun w hw => ?_)
    exact hR _ _ ⟨(), trivial, rfl, (St.cong (L := ([cBx b3 3 [.int .i64 a4], cBx b5 88 [.slice A6 (a8).length c7], cR eB 1 A6 c7 4 (a8.set at1.toNat true), cBx b9 23 [.slice A10 (a12).length c11], cR encEvent 4 A10 c11 36 (a12.set at1.toNat v2)] ++ T)) (hw.pickK 6 [1, 2, 3, 4, 5] rfl) (by simp only [List.length_set, List.nil_append, List.cons_append]))⟩

def history_Events_L29 (N : Nat) (l1 : (List Call)) : (Int × Int) → Option ((Int × Int) ⊕ Int)
  | (n8, v9) =>
    cond (decide (v9 < ((l1).length : Int)))
      (bd (ix l1 v9) fun (x10 : Call) =>
      cond (!(decide (x10.to_ = (-1))))
        (ck (ok64 (n8 + 1)) <|
        ck (ok64 (v9 + 1)) <|
        some (.inl ((n8 + 1), (v9 + 1))))
        (ck (ok64 (v9 + 1)) <|
        some (.inl (n8, (v9 + 1)))))
      (some (.inr n8))

def history_Events_L55 (N : Nat) (x37 : Call) : (List Int) → Option ((List Int) ⊕ (List Int))
  | types44 =>
    cond (decide (((types44).length : Int) ≤ x37.thing))
      (ck (limB 8 ((types44).length + (([1] : List Int)).length)) <|
      some (.inl (types44 ++ ([1] : List Int))))
      (some (.inr types44))

def history_Events_L51 (N : Nat) (l1 : (List Call)) (n7 : Int) : ((List Int) × (List Event) × (List Bool) × Int) → Option (((List Int) × (List Event) × (List Bool) × Int) ⊕ (((List Int) × (List Event)) ⊕ ((List Event) × Int)))
  | (types28, out29, put30, v31) =>
    cond (decide (v31 < ((l1).length : Int)))
      (bd (α := (((List Int) × (List Event) × (List Bool)) ⊕ ((List Event) × Int))) (bd (ix l1 v31) fun (x37 : Call) =>
        cond ((decide (x37.thing < 0)) || (decide (4 ≤ x37.thing)))
          (some (.inr ([], 3)))
          (bd (α := (List Int)) (iter (history_Events_L55 N x37) N types28) <|
          fun (types41 : (List Int)) => 
            bd (history_typeOf N x37.kind) fun (r49 : Int) =>
            bd (ix types41 x37.thing) fun (x50 : Int) =>
            bd (history_Events_1 N x37.from_ (Event.mk x37.who x37.thing x37.kind x37.arg) n7 put30 out29) fun (r51 : ((List Bool) × (List Event) × Bool)) =>
            bd (α := ((List Event) × (List Bool) × Bool)) (cond (r51.2.2 && (!(decide (x37.to_ = (-1)))))
                (bd (history_Events_1 N x37.to_ (Event.mk x37.who x37.thing 0 x37.res) n7 r51.1 r51.2.1) fun (r55 : ((List Bool) × (List Event) × Bool)) =>
                some (r55.2.1, r55.1, r55.2.2))
                (some (r51.2.1, r51.1, r51.2.2))) <|
            fun (out52, put53, ok54) => 
              cond (!ok54)
                (some (.inr ([], 3)))
                (some (.inl ((types41.set x37.thing.toNat (max r49 1)), out52, put53))))) <|
      Sum.elim (fun (types34, out35, put36) => 
        ck (ok64 (v31 + 1)) <|
        some (.inl (types34, out35, put36, (v31 + 1)))) (fun p => some (.inr (.inr p))))
      (some (.inr (.inl (types28, out29))))

def history_Events (N : Nat) (l1 : (List Call)) : Option ((List Event) × Int) :=
  cond (decide (200 < ((l1).length : Int)))
    (some ([], 2))
    (bd (α := Int) (iter (history_Events_L29 N l1) N (((l1).length : Int), 0)) <|
    fun (n7 : Int) => 
      ck (mkB 32 n7) <|
      ck (mkB 1 n7) <|
      bd (α := (((List Int) × (List Event)) ⊕ ((List Event) × Int))) (iter (history_Events_L51 N l1 n7) N (([1] : List Int), (List.replicate n7.toNat (Event.z : Event)), (List.replicate n7.toNat (false : Bool)), 0)) <|
      Sum.elim (fun (types24, out25) => 
        bd (history_Calls N types24 out25) fun (r57 : ((List Call) × Int × Int)) =>
        bd ((cond ((!(decide (r57.2.2 = 0))) == false) (slices_Equal_api_Call_api_Call N r57.1 l1) (some false))) fun (r60 : Bool) =>
        cond ((!(decide (r57.2.2 = 0))) || (!r60))
          (some ([], 3))
          (some (out25, 0))) (fun p => some p))

theorem history_Events_ok {N : Nat} {l1 : (List Call)} {res : ((List Event) × Int)} (hF : history_Events N l1 = some res) (w : World) {v5 : Value} (hs4 : SlIn encCall 7 w v5 l1) :
    Made Try.prog 20 [v5] w (fun g : (Option Addr × Nat) => .tuple #[.slice g.1 (res.1).length g.2, .int .i64 res.2]) (fun g => [cR encEvent 4 g.1 g.2 36 res.1]) (fun _ => True) := by
  obtain ⟨A2, c3, rfl, hcc3, hs4⟩ := hs4.form
  refine W.enter (n := 119) Try.func20 rfl rfl Sub.refl (by simp) (St.start w) fun R hR => ?_
  unfold history_Events at hF
  -- region 0: history.go:115
  refine W.seqR fun Q1 hQ1 => ?_
  refine WL.q (Y.assign (.pl rfl)) rfl ?_
  refine WL.q (Y.assign (.pl rfl)) rfl ?_
  refine WL.next hQ1 (.cons (i := 0) rfl (.nil)) ?_
  refine W.seq fun K2 hK2 => ?_
  -- region 1: history.go:116
  refine W.seqR fun Q3 hQ3 => ?_
  refine WL.q (Y.move (.pl rfl)) rfl ?_
  refine WL.q (Y.len Try.underlying24 (.pl rfl)) rfl ?_
  refine WL.q (Y.gtr (.pl rfl) (.pl rfl)) rfl ?_
  refine WL.next hQ3 (.cons (i := 0) rfl (.cons (i := 19) rfl (.nil))) ?_
  refine W.cond (.pl rfl) (fun hC4 => ?_) (fun hC4 => ?_)
  · replace hF := cpos hC4 hF
    -- region 2: history.go:117
    refine W.seqR fun Q5 hQ5 => ?_
    refine WL.q (Y.assign (.pl rfl)) rfl ?_
    refine WL.q (Y.assign (.pl rfl)) rfl ?_
    refine WL.next hQ5 (.cons (i := 2) rfl (.cons (i := 3) rfl (.nil))) ?_
    obtain rfl := Option.some.inj hF
    refine W.retV (fn := Try.f20) (vs := [.slice none 0 0, .int .i64 2]) Try.results20 ⟨.tmp rfl, ⟨.tmp rfl, trivial⟩⟩ (fun _ _ h => h) (fun w hw => ?_)
    exact hR _ _ ⟨(none, 0), trivial, rfl, ((St.nilR (hw.pick [] rfl) encEvent 4 36).pick [0] rfl)⟩
  · replace hF := cneg hC4 hF
    refine W.skip ?_
    refine W.go hK2 (.cons (i := 0) rfl (.nil)) ?_
    -- region 3: history.go:119
    refine W.seqR fun Q6 hQ6 => ?_
    refine WL.q (Y.move (.pl rfl)) rfl ?_
    refine WL.q (Y.len Try.underlying24 (.pl rfl)) rfl ?_
    refine WL.step (WO.alloc (cs := [.int .i64 0].toArray) zero3 rfl rfl fun b6 => ?_)
    refine WL.step (WO.storeB (cs' := [.int .i64 ((l1).length : Int)]) cells3 (.pl rfl) (.pl rfl) rfl (i := 0) rfl (ltl (m := 1) (by decide) rfl) (rfl) ?_)
    refine WL.next hQ6 (.cons (i := 0) rfl (.cons (i := 4) rfl (.nil))) ?_
    obtain ⟨o7, hF7, hF⟩ := bnd hF
    refine W.join1 (Em := fun (n7 : Int) => []) (M := fun n7 => [cBx b6 3 [.int .i64 n7]]) (I := fun n7 => n7 = o7) (.cons (i := 0) rfl (.cons (i := 4) rfl (.nil))) (fun K8 hK8 => ?_) ?_
    · -- up to
      -- region 4: history.go:120
      refine W.seqR fun Q9 hQ9 => ?_
      refine WL.q (Y.move (.pl rfl)) rfl ?_
      refine WL.q (Y.len Try.underlying24 (.pl rfl)) rfl ?_
      refine WL.q (Y.move (.pl rfl)) rfl ?_
      refine WL.next hQ9 (.cons (i := 0) rfl (.cons (i := 4) rfl (.cons (i := 22) rfl (.cons (i := 23) rfl (.cons (i := 24) rfl (.nil)))))) ?_
      refine W.block ?_
      refine W.loop2 (Em := fun (n8 : Int) (v9 : Int) => [(24, .int .i64 v9)]) (M := fun n8 v9 => [cBx b6 3 [.int .i64 n8]]) (I := fun n8 v9 k10 => iter (history_Events_L29 N l1) k10 (n8, v9) = some o7) ((l1).length : Int) 0 N (hF7) (.cons rfl (.nil)) (.cons (i := 0) rfl (.cons (i := 4) rfl (.cons (i := 22) rfl (.cons (i := 23) rfl (.nil))))) (fun w hw => hw.pick [0] rfl) (fun n8 v9 k10 hI K11 hK11 => ?_)
      obtain ⟨k10, t10, rfl, hF10, hN10⟩ := iter_step hI
      -- region 5: history.go:120
      refine W.seqR fun Q12 hQ12 => ?_
      refine WL.q (Y.lss (.pl rfl) (.pl rfl)) rfl ?_
      refine WL.next hQ12 (.cons (i := 0) rfl (.cons (i := 4) rfl (.cons (i := 22) rfl (.cons (i := 23) rfl (.cons (i := 24) rfl (.cons (i := 25) rfl (.nil))))))) ?_
      refine W.seq fun K13 hK13 => ?_
      refine W.cond (.pl rfl) (fun hC14 => ?_) (fun hC14 => ?_)
      · replace hF10 := cpos hC14 hF10
        refine W.skip ?_
        refine W.go hK13 (.cons (i := 0) rfl (.cons (i := 4) rfl (.cons (i := 22) rfl (.cons (i := 23) rfl (.cons (i := 24) rfl (.nil)))))) ?_
        refine W.seq fun K15 hK15 => ?_
        refine W.block ?_
        -- region 6: history.go:120
        refine W.seqR fun Q16 hQ16 => ?_
        obtain ⟨x10, hx10, hF10⟩ := bnd hF10
        refine WL.q (Y.slEl Try.underlying24 cells30 hs4 (.pl rfl) (.pl rfl) (ix_lt (hx10))) rfl ?_
        refine WL.q (Y.loadSA (enc := encCall) (ds := (encCall x10)) (j := 0) Try.underlying30 rfl cells30 hs4 (.pl rfl) (hx10) rfl rfl subW) rfl ?_
        refine WL.step (WO.alloc (cs := (encCall (Call.mk 0 0 0 0 0 0 0)).toArray) zero30 rfl rfl fun b11 => ?_)
        refine WL.step (WO.storeBA (ds := (encCall x10)) (cs' := (encCall x10)) cells30 (.pl rfl) (.pl rfl) rfl (oneCall _) (i := 0) rfl (lel (o := 0) (l := 7) (m := 7) (by decide) rfl rfl) (putW rfl) ?_)
        refine WL.next hQ16 (.cons (i := 0) rfl (.cons (i := 4) rfl (.cons (i := 6) rfl (.cons (i := 22) rfl (.cons (i := 23) rfl (.cons (i := 24) rfl (.nil))))))) ?_
        -- region 7: history.go:121
        refine W.seqR fun Q17 hQ17 => ?_
        refine WL.q (Y.fieldAddr0 (off := 6) (ft := 3) Try.underlying30 rfl cells3 (.pl rfl)) rfl ?_
        refine WL.q (Y.loadB (v := .int .i64 x10.to_) Try.underlying3 rfl (.pl rfl) (i := 0) rfl (rfl)) rfl ?_
        refine WL.q (Y.neq (.pl rfl) (.pl rfl)) rfl ?_
        refine WL.next hQ17 (.cons (i := 0) rfl (.cons (i := 4) rfl (.cons (i := 22) rfl (.cons (i := 23) rfl (.cons (i := 24) rfl (.cons (i := 30) rfl (.nil))))))) ?_
        refine W.cond (.pl rfl) (fun hC18 => ?_) (fun hC18 => ?_)
        · replace hF10 := cpos hC18 hF10
          -- region 8: history.go:122
          refine W.reg ?_
          refine WL.q (Y.loadB (v := .int .i64 n8) Try.underlying3 rfl (.pl rfl) (i := 1) rfl (rfl)) rfl ?_
          obtain ⟨hk12, hF10⟩ := ckh hF10
          refine WL.q (Y.add (.pl rfl) (.pl rfl) (ok64_lt (hk12))) rfl ?_
          refine WL.step (WO.storeB (cs' := [.int .i64 (n8 + 1)]) cells3 (.pl rfl) (.pl rfl) rfl (i := 1) rfl (ltl (m := 1) (by decide) rfl) (rfl) ?_)
          refine WL.nil ?_
          refine W.go hK15 (.cons (i := 0) rfl (.cons (i := 4) rfl (.cons (i := 22) rfl (.cons (i := 23) rfl (.cons (i := 24) rfl (.nil)))))) ?_
          -- region 9: history.go:120
          refine W.reg ?_
          obtain ⟨hk13, hF10⟩ := ckh hF10
          refine WL.q (Y.add (.pl rfl) (.pl rfl) (ok64_lt (hk13))) rfl ?_
          refine WL.q (Y.move (.pl rfl)) rfl ?_
          refine WL.nil ?_
          obtain rfl := Option.some.inj hF10
          exact W.again2 hK11 (n8 + 1) (v9 + 1) k10 hN10 (Nat.lt_succ_self _) (.cons rfl (.nil)) (.cons (i := 0) rfl (.cons (i := 4) rfl (.cons (i := 22) rfl (.cons (i := 23) rfl (.nil))))) (fun w hw => hw.pick [1] rfl)
        · replace hF10 := cneg hC18 hF10
          refine W.skip ?_
          refine W.go hK15 (.cons (i := 0) rfl (.cons (i := 4) rfl (.cons (i := 22) rfl (.cons (i := 23) rfl (.cons (i := 24) rfl (.nil)))))) ?_
          -- region 9: history.go:120
          refine W.reg ?_
          obtain ⟨hk14, hF10⟩ := ckh hF10
          refine WL.q (Y.add (.pl rfl) (.pl rfl) (ok64_lt (hk14))) rfl ?_
          refine WL.q (Y.move (.pl rfl)) rfl ?_
          refine WL.nil ?_
          obtain rfl := Option.some.inj hF10
          exact W.again2 hK11 n8 (v9 + 1) k10 hN10 (Nat.lt_succ_self _) (.cons rfl (.nil)) (.cons (i := 0) rfl (.cons (i := 4) rfl (.cons (i := 22) rfl (.cons (i := 23) rfl (.nil))))) (fun w hw => hw.pick [1] rfl)
      · replace hF10 := cneg hC14 hF10
        refine W.exit ?_
        obtain rfl := Option.some.inj hF10
        exact W.joinAt1 hK8 n8 (einr hN10) (.nil) (.cons (i := 0) rfl (.cons (i := 4) rfl (.nil))) (fun w hw => hw.pick [0] rfl)
    · -- behind
      rintro n7 rfl
      -- region 10: history.go:125
      refine W.seqR fun Q22 hQ22 => ?_
      refine WL.step (WO.bsliceC (enc := (eI .i64)) (ys := ([1] : List Int)) Try.underlying22 bz3 (.cons (.pl rfl) (.nil)) rfl (fun _ => rfl) rfl rfl (by decide) (by decide) rfl fun b15 => ?_)
      refine WL.q (Y.assign (.pl rfl)) rfl ?_
      refine WL.next hQ22 (.cons (i := 0) rfl (.cons (i := 4) rfl (.cons (i := 7) rfl (.nil)))) ?_
      -- region 11: history.go:126
      refine W.seqR fun Q23 hQ23 => ?_
      refine WL.q (Y.loadB (v := .int .i64 n7) Try.underlying3 rfl (.pl rfl) (i := 1) rfl (rfl)) rfl ?_
      obtain ⟨hk17, hF⟩ := ckh hF
      refine WL.step (WO.makeC (enc := encEvent) (z := Event.z) Try.underlying23 mka36 rfl (.pl rfl) (hk17) rfl fun b16 => ?_)
      refine WL.step (WO.alloc (cs := [.slice none 0 0].toArray) zero23 rfl rfl fun b18 => ?_)
      refine WL.step (WO.storeB (cs' := [.slice (some ⟨b16, 0, none⟩) ((List.replicate n7.toNat (Event.z : Event))).length n7.toNat]) cells23 (.pl rfl) (.pl rfl) rfl (i := 0) rfl (ltl (m := 1) (by decide) rfl) (rfl) ?_)
      refine WL.next hQ23 (.cons (i := 0) rfl (.cons (i := 4) rfl (.cons (i := 7) rfl (.cons (i := 8) rfl (.nil))))) ?_
      -- region 12: history.go:127
      refine W.seqR fun Q24 hQ24 => ?_
      refine WL.q (Y.loadB (v := .int .i64 n7) Try.underlying3 rfl (.pl rfl) (i := 3) rfl (rfl)) rfl ?_
      obtain ⟨hk20, hF⟩ := ckh hF
      refine WL.step (WO.makeC (enc := eB) (z := false) Try.underlying88 mka4 rfl (.pl rfl) (hk20) rfl fun b19 => ?_)
      refine WL.step (WO.alloc (cs := [.slice none 0 0].toArray) zero88 rfl rfl fun b21 => ?_)
      refine WL.step (WO.storeB (cs' := [.slice (some ⟨b19, 0, none⟩) ((List.replicate n7.toNat (false : Bool))).length n7.toNat]) cells88 (.pl rfl) (.pl rfl) rfl (i := 0) rfl (ltl (m := 1) (by decide) rfl) (rfl) ?_)
      refine WL.next hQ24 (.cons (i := 0) rfl (.cons (i := 4) rfl (.cons (i := 7) rfl (.cons (i := 8) rfl (.cons (i := 9) rfl (.nil)))))) ?_
      -- region 13: history.go:128
      refine W.seqR fun Q25 hQ25 => ?_
      refine WL.q (Y.fnC (.cons (.pl rfl) (.cons (.pl rfl) (.cons (.pl rfl) (.nil))))) rfl ?_
      refine WL.q (Y.assign (.pl rfl)) rfl ?_
      refine WL.next hQ25 (.cons (i := 0) rfl (.cons (i := 7) rfl (.cons (i := 8) rfl (.cons (i := 10) rfl (.nil))))) ?_
      obtain ⟨o26, hF26, hF⟩ := bnd hF
      refine W.join4 (Em := fun (types24 : (List Int)) (out25 : (List Event)) (A22 : Option Addr) (c23 : Nat) => [(7, .slice A22 (types24).length c23)]) (M := fun types24 out25 A22 c23 => [cR (eI .i64) 1 A22 c23 3 types24, cBx b18 23 [.slice (some ⟨b16, 0, none⟩) (out25).length n7.toNat], cR encEvent 4 (some ⟨b16, 0, none⟩) n7.toNat 36 out25]) (I := fun types24 out25 A22 c23 => (.inl (types24, out25)) = o26) (.cons (i := 0) rfl (.cons (i := 8) rfl (.nil))) (fun K27 hK27 => ?_) ?_
      · -- up to
        -- region 14: history.go:135
        refine W.seqR fun Q28 hQ28 => ?_
        refine WL.q (Y.move (.pl rfl)) rfl ?_
        refine WL.q (Y.len Try.underlying24 (.pl rfl)) rfl ?_
        refine WL.q (Y.move (.pl rfl)) rfl ?_
        refine WL.next hQ28 (.cons (i := 0) rfl (.cons (i := 7) rfl (.cons (i := 8) rfl (.cons (i := 10) rfl (.cons (i := 40) rfl (.cons (i := 41) rfl (.cons (i := 42) rfl (.nil)))))))) ?_
        refine W.block ?_
        refine W.loop6 (Em := fun (types28 : (List Int)) (out29 : (List Event)) (put30 : (List Bool)) (v31 : Int) (A26 : Option Addr) (c27 : Nat) => [(7, .slice A26 (types28).length c27), (42, .int .i64 v31)]) (M := fun types28 out29 put30 v31 A26 c27 => [cR (eI .i64) 1 A26 c27 3 types28, cBx b18 23 [.slice (some ⟨b16, 0, none⟩) (out29).length n7.toNat], cR encEvent 4 (some ⟨b16, 0, none⟩) n7.toNat 36 out29, cBx b6 3 [.int .i64 n7], cBx b21 88 [.slice (some ⟨b19, 0, none⟩) (put30).length n7.toNat], cR eB 1 (some ⟨b19, 0, none⟩) n7.toNat 4 put30]) (I := fun types28 out29 put30 v31 A26 c27 k29 => iter (history_Events_L51 N l1 n7) k29 (types28, out29, put30, v31) = some o26) ([1] : List Int) (List.replicate n7.toNat (Event.z : Event)) (List.replicate n7.toNat (false : Bool)) 0 (some ⟨b15, 0, none⟩) ((([1] : List Int)).length) N (hF26) (.cons rfl (.cons rfl (.nil))) (.cons (i := 0) rfl (.cons (i := 8) rfl (.cons (i := 10) rfl (.cons (i := 40) rfl (.cons (i := 41) rfl (.nil)))))) (fun w hw => hw.pick [4, 2, 3, 5, 0, 1] rfl) (fun types28 out29 put30 v31 A26 c27 k29 hI K30 hK30 => ?_)
        obtain ⟨k29, t29, rfl, hF29, hN29⟩ := iter_step hI
        -- region 15: history.go:135
        refine W.seqR fun Q31 hQ31 => ?_
        refine WL.q (Y.lss (.pl rfl) (.pl rfl)) rfl ?_
        refine WL.next hQ31 (.cons (i := 0) rfl (.cons (i := 7) rfl (.cons (i := 8) rfl (.cons (i := 10) rfl (.cons (i := 40) rfl (.cons (i := 41) rfl (.cons (i := 42) rfl (.cons (i := 43) rfl (.nil))))))))) ?_
        refine W.seq fun K32 hK32 => ?_
        refine W.cond (.pl rfl) (fun hC33 => ?_) (fun hC33 => ?_)
        · replace hF29 := cpos hC33 hF29
          refine W.skip ?_
          refine W.go hK32 (.cons (i := 0) rfl (.cons (i := 7) rfl (.cons (i := 8) rfl (.cons (i := 10) rfl (.cons (i := 40) rfl (.cons (i := 41) rfl (.cons (i := 42) rfl (.nil)))))))) ?_
          obtain ⟨o34, hF34, hF29⟩ := bnd hF29
          refine W.join5 (Em := fun (types34 : (List Int)) (out35 : (List Event)) (put36 : (List Bool)) (A32 : Option Addr) (c33 : Nat) => [(7, .slice A32 (types34).length c33)]) (M := fun types34 out35 put36 A32 c33 => [cR (eI .i64) 1 A32 c33 3 types34, cBx b18 23 [.slice (some ⟨b16, 0, none⟩) (out35).length n7.toNat], cR encEvent 4 (some ⟨b16, 0, none⟩) n7.toNat 36 out35, cBx b6 3 [.int .i64 n7], cBx b21 88 [.slice (some ⟨b19, 0, none⟩) (put36).length n7.toNat], cR eB 1 (some ⟨b19, 0, none⟩) n7.toNat 4 put36]) (I := fun types34 out35 put36 A32 c33 => (.inl (types34, out35, put36)) = o34) (.cons (i := 0) rfl (.cons (i := 8) rfl (.cons (i := 10) rfl (.cons (i := 40) rfl (.cons (i := 41) rfl (.cons (i := 42) rfl (.nil))))))) (fun K35 hK35 => ?_) ?_
          · -- up to
            refine W.block ?_
            -- region 16: history.go:135
            refine W.seqR fun Q36 hQ36 => ?_
            obtain ⟨x37, hx37, hF34⟩ := bnd hF34
            refine WL.q (Y.slEl Try.underlying24 cells30 hs4 (.pl rfl) (.pl rfl) (ix_lt (hx37))) rfl ?_
            refine WL.q (Y.loadSA (enc := encCall) (ds := (encCall x37)) (j := 0) Try.underlying30 rfl cells30 hs4 (.pl rfl) (hx37) rfl rfl subW) rfl ?_
            refine WL.step (WO.alloc (cs := (encCall (Call.mk 0 0 0 0 0 0 0)).toArray) zero30 rfl rfl fun b38 => ?_)
            refine WL.step (WO.storeBA (ds := (encCall x37)) (cs' := (encCall x37)) cells30 (.pl rfl) (.pl rfl) rfl (oneCall _) (i := 0) rfl (lel (o := 0) (l := 7) (m := 7) (by decide) rfl rfl) (putW rfl) ?_)
            refine WL.next hQ36 (.cons (i := 0) rfl (.cons (i := 7) rfl (.cons (i := 8) rfl (.cons (i := 10) rfl (.cons (i := 12) rfl (.cons (i := 40) rfl (.cons (i := 41) rfl (.cons (i := 42) rfl (.nil))))))))) ?_
            refine W.seq fun K37 hK37 => ?_
            -- region 17: history.go:136
            refine W.seqR fun Q38 hQ38 => ?_
            refine WL.q (Y.fieldAddr0 (off := 1) (ft := 3) Try.underlying30 rfl cells3 (.pl rfl)) rfl ?_
            refine WL.q (Y.loadB (v := .int .i64 x37.thing) Try.underlying3 rfl (.pl rfl) (i := 0) rfl (rfl)) rfl ?_
            refine WL.q (Y.lss (.pl rfl) (.pl rfl)) rfl ?_
            refine WL.q (Y.move (.pl rfl)) rfl ?_
            refine WL.g (.pl rfl rfl rfl) (fun hg => Y.fieldAddr0 (off := 1) (ft := 3) Try.underlying30 rfl cells3 (.pl rfl)) rfl ?_
            refine WL.g (.pl rfl rfl rfl) (fun hg => Y.loadB (v := .int .i64 x37.thing) Try.underlying3 rfl (.gd (hg) rfl) (i := 0) rfl (rfl)) rfl ?_
            refine WL.g (.pl rfl rfl rfl) (fun hg => Y.geq (.gd (hg) rfl) (.pl rfl)) rfl ?_
            refine WL.q (Y.or (.pl rfl) (fun h2 => .gd (eqf h2) rfl)) rfl ?_
            refine WL.next hQ38 (.cons (i := 0) rfl (.cons (i := 7) rfl (.cons (i := 8) rfl (.cons (i := 10) rfl (.cons (i := 12) rfl (.cons (i := 40) rfl (.cons (i := 41) rfl (.cons (i := 42) rfl (.cons (i := 53) rfl (.nil)))))))))) ?_
            refine W.cond (.pl rfl) (fun hC39 => ?_) (fun hC39 => ?_)
            · replace hF34 := cpos hC39 hF34
              -- region 18: history.go:137
              refine W.seqR fun Q40 hQ40 => ?_
              refine WL.q (Y.assign (.pl rfl)) rfl ?_
              refine WL.q (Y.assign (.pl rfl)) rfl ?_
              refine WL.next hQ40 (.cons (i := 2) rfl (.cons (i := 3) rfl (.nil))) ?_
              obtain rfl := Option.some.inj hF34
              obtain rfl := Option.some.inj hF29
              obtain rfl := einr hN29
              obtain rfl := Option.some.inj hF
              refine W.retV (fn := Try.f20) (vs := [.slice none 0 0, .int .i64 3]) Try.results20 ⟨.tmp rfl, ⟨.tmp rfl, trivial⟩⟩ (fun _ _ h => h) (fun w hw => ?_)
              exact hR _ _ ⟨(none, 0), trivial, rfl, ((St.nilR (hw.pick [] rfl) encEvent 4 36).pick [0] rfl)⟩
            · replace hF34 := cneg hC39 hF34
              refine W.skip ?_
              refine W.go hK37 (.cons (i := 0) rfl (.cons (i := 7) rfl (.cons (i := 8) rfl (.cons (i := 10) rfl (.cons (i := 12) rfl (.cons (i := 40) rfl (.cons (i := 41) rfl (.cons (i := 42) rfl (.nil))))))))) ?_
              obtain ⟨o41, hF41, hF34⟩ := bnd hF34
              refine W.join3 (Em := fun (types41 : (List Int)) (A39 : Option Addr) (c40 : Nat) => [(7, .slice A39 (types41).length c40)]) (M := fun types41 A39 c40 => [cR (eI .i64) 1 A39 c40 3 types41, cBx b18 23 [.slice (some ⟨b16, 0, none⟩) (out29).length n7.toNat], cR encEvent 4 (some ⟨b16, 0, none⟩) n7.toNat 36 out29, cBx b6 3 [.int .i64 n7], cBx b21 88 [.slice (some ⟨b19, 0, none⟩) (put30).length n7.toNat], cR eB 1 (some ⟨b19, 0, none⟩) n7.toNat 4 put30, cBx b38 30 (encCall x37)]) (I := fun types41 A39 c40 => types41 = o41) (.cons (i := 0) rfl (.cons (i := 8) rfl (.cons (i := 10) rfl (.cons (i := 12) rfl (.cons (i := 40) rfl (.cons (i := 41) rfl (.cons (i := 42) rfl (.nil)))))))) (fun K42 hK42 => ?_) ?_
              · -- up to
                refine W.block ?_
                refine W.loop3 (Em := fun (types44 : (List Int)) (A42 : Option Addr) (c43 : Nat) => [(7, .slice A42 (types44).length c43)]) (M := fun types44 A42 c43 => [cR (eI .i64) 1 A42 c43 3 types44, cBx b18 23 [.slice (some ⟨b16, 0, none⟩) (out29).length n7.toNat], cR encEvent 4 (some ⟨b16, 0, none⟩) n7.toNat 36 out29, cBx b6 3 [.int .i64 n7], cBx b21 88 [.slice (some ⟨b19, 0, none⟩) (put30).length n7.toNat], cR eB 1 (some ⟨b19, 0, none⟩) n7.toNat 4 put30, cBx b38 30 (encCall x37)]) (I := fun types44 A42 c43 k43 => iter (history_Events_L55 N x37) k43 types44 = some o41) types28 A26 c27 N (hF41) (.cons rfl (.nil)) (.cons (i := 0) rfl (.cons (i := 8) rfl (.cons (i := 10) rfl (.cons (i := 12) rfl (.cons (i := 40) rfl (.cons (i := 41) rfl (.cons (i := 42) rfl (.nil)))))))) (fun w hw => hw.pick [1, 2, 3, 4, 5, 6, 0] rfl) (fun types44 A42 c43 k43 hI K44 hK44 => ?_)
                obtain ⟨k43, t43, rfl, hF43, hN43⟩ := iter_step hI
                refine W.seq fun K45 hK45 => ?_
                -- region 19: history.go:139
                refine W.seqR fun Q46 hQ46 => ?_
                refine WL.q (Y.move (.pl rfl)) rfl ?_
                refine WL.q (Y.len Try.underlying22 (.pl rfl)) rfl ?_
                refine WL.q (Y.fieldAddr0 (off := 1) (ft := 3) Try.underlying30 rfl cells3 (.pl rfl)) rfl ?_
                refine WL.q (Y.loadB (v := .int .i64 x37.thing) Try.underlying3 rfl (.pl rfl) (i := 6) rfl (rfl)) rfl ?_
                refine WL.q (Y.leq (.pl rfl) (.pl rfl)) rfl ?_
                refine WL.next hQ46 (.cons (i := 0) rfl (.cons (i := 7) rfl (.cons (i := 8) rfl (.cons (i := 10) rfl (.cons (i := 12) rfl (.cons (i := 40) rfl (.cons (i := 41) rfl (.cons (i := 42) rfl (.cons (i := 58) rfl (.nil)))))))))) ?_
                refine W.cond (.pl rfl) (fun hC47 => ?_) (fun hC47 => ?_)
                · replace hF43 := cpos hC47 hF43
                  refine W.skip ?_
                  refine W.go hK45 (.cons (i := 0) rfl (.cons (i := 7) rfl (.cons (i := 8) rfl (.cons (i := 10) rfl (.cons (i := 12) rfl (.cons (i := 40) rfl (.cons (i := 41) rfl (.cons (i := 42) rfl (.nil))))))))) ?_
                  refine W.block ?_
                  -- region 20: history.go:140
                  refine W.reg ?_
                  refine WL.q (Y.move (.pl rfl)) rfl ?_
                  refine WL.step (WO.bsliceC (enc := (eI .i64)) (ys := ([1] : List Int)) Try.underlying22 bz3 (.cons (.pl rfl) (.nil)) rfl (fun _ => rfl) rfl rfl (by decide) (by decide) rfl fun b45 => ?_)
                  obtain ⟨hk48, hF43⟩ := ckh hF43
                  refine WL.step (WO.appendC (enc := (eI .i64)) Try.underlying22 ap3 (fun _ => rfl) oneI (.pl rfl) rfl (.pl rfl) (i := 1) rfl (m2 := 0) rfl (hk48) rfl fun A46 c47 => ?_)
                  refine WL.q (Y.assign (.pl rfl)) rfl ?_
                  refine WL.nil ?_
                  obtain rfl := Option.some.inj hF43
                  exact W.again3 hK44 (types44 ++ ([1] : List Int)) A46 c47 k43 hN43 (Nat.lt_succ_self _) (.cons rfl (.nil)) (.cons (i := 0) rfl (.cons (i := 8) rfl (.cons (i := 10) rfl (.cons (i := 12) rfl (.cons (i := 40) rfl (.cons (i := 41) rfl (.cons (i := 42) rfl (.nil)))))))) (fun w hw => hw.pick [1, 2, 3, 4, 5, 6, 7] rfl)
                · replace hF43 := cneg hC47 hF43
                  refine W.exit ?_
                  obtain rfl := Option.some.inj hF43
                  exact W.joinAt3 hK42 types44 A42 c43 (einr hN43) (.cons rfl (.nil)) (.cons (i := 0) rfl (.cons (i := 8) rfl (.cons (i := 10) rfl (.cons (i := 12) rfl (.cons (i := 40) rfl (.cons (i := 41) rfl (.cons (i := 42) rfl (.nil)))))))) (fun w hw => hw.pick [0, 1, 2, 3, 4, 5, 6] rfl)
              · -- behind
                rintro types41 A39 c40 rfl
                -- region 21: history.go:142
                refine W.seqX 8 (by kernel_rfl) fun K49 hK49 => ?_
                refine WX.pure 0 #[true, false, false, false, false, false, false, false, false] rfl (by kernel_rfl) (fun _ _ => Y.move (.pl rfl)) rfl ?_
                refine WX.pure 1 #[true, true, false, false, false, false, false, false, false] rfl (by kernel_rfl) (fun _ _ => Y.fieldAddr0 (off := 1) (ft := 3) Try.underlying30 rfl cells3 (.pl rfl)) rfl ?_
                refine WX.take 2 #[true, true, true, false, false, false, false, false, false] (fun w hw => St.tail [] hw) rfl (by kernel_rfl) (Y.loadB (v := .int .i64 x37.thing) Try.underlying3 rfl (.pl rfl) (i := 6) rfl (rfl)) rfl ?_
                refine WX.pure 3 #[true, true, true, true, false, false, false, false, false] rfl (by kernel_rfl) (fun _ _ => Y.fieldAddr0 (off := 2) (ft := 3) Try.underlying30 rfl cells3 (.pl rfl)) rfl ?_
                refine WX.take 4 #[true, true, true, true, true, false, false, false, false] (fun w hw => St.tail [] hw) rfl (by kernel_rfl) (Y.loadB (v := .int .i64 x37.kind) Try.underlying3 rfl (.pl rfl) (i := 6) rfl (rfl)) rfl ?_
                obtain ⟨r49, hr49, hF34⟩ := bnd hF34
                refine WX.one 5 #[true, true, true, true, true, true, false, false, false] (fun w hw => St.tail [] hw) rfl (by kernel_rfl) (WO.callP isGo42 (.cons (.pl rfl) (.nil)) rfl (fun w hw => history_typeOf_ok (hr49) w ) ?_)
                refine WX.take 6 #[true, true, true, true, true, true, true, false, false] (fun w hw => St.tail [] hw) rfl (by kernel_rfl) (Y.max (.pl rfl) (.pl rfl)) rfl ?_
                obtain ⟨x50, hx50, hF34⟩ := bnd hF34
                refine WX.take 7 #[true, true, true, true, true, true, true, true, false] (fun w hw => St.tail [] hw) rfl (by kernel_rfl) (Y.rowEl Try.underlying22 cells3 (i := 0) rfl (.pl rfl) rfl (.pl rfl) (ix_lt (hx50))) rfl ?_
                refine WX.stop #[true, true, true, true, true, true, true, true, true] (fun w hw => St.tail [] hw) rfl (by kernel_rfl) (WO.storeS (enc := (eI .i64)) (a := x50) (a' := (max r49 1)) (idx := x37.thing) (j := 0) cells3 (.pl rfl) (.pl rfl) rfl (fun _ => rfl) (i := 0) rfl (ix_get (hx50)) rfl (by decide) rfl ?_)
                refine WA.done (by kernel_rfl) ?_
                refine KK.next hK49 (.cons (i := 0) rfl (.cons (i := 7) rfl (.cons (i := 8) rfl (.cons (i := 10) rfl (.cons (i := 12) rfl (.cons (i := 40) rfl (.cons (i := 41) rfl (.cons (i := 42) rfl (.nil))))))))) ?_
                -- region 22: history.go:143
                refine W.seqR fun Q50 hQ50 => ?_
                refine WL.q (Y.move (.pl rfl)) rfl ?_
                refine WL.q (Y.fieldAddr0 (off := 5) (ft := 3) Try.underlying30 rfl cells3 (.pl rfl)) rfl ?_
                refine WL.q (Y.loadB (v := .int .i64 x37.from_) Try.underlying3 rfl (.pl rfl) (i := 6) rfl (rfl)) rfl ?_
                refine WL.q (Y.fieldAddr0 (off := 0) (ft := 3) Try.underlying30 rfl cells3 (.pl rfl)) rfl ?_
                refine WL.q (Y.loadB (v := .int .i64 x37.who) Try.underlying3 rfl (.pl rfl) (i := 6) rfl (rfl)) rfl ?_
                refine WL.q (Y.fieldAddr0 (off := 1) (ft := 3) Try.underlying30 rfl cells3 (.pl rfl)) rfl ?_
                refine WL.q (Y.loadB (v := .int .i64 x37.thing) Try.underlying3 rfl (.pl rfl) (i := 6) rfl (rfl)) rfl ?_
                refine WL.q (Y.fieldAddr0 (off := 2) (ft := 3) Try.underlying30 rfl cells3 (.pl rfl)) rfl ?_
                refine WL.q (Y.loadB (v := .int .i64 x37.kind) Try.underlying3 rfl (.pl rfl) (i := 6) rfl (rfl)) rfl ?_
                refine WL.q (Y.fieldAddr0 (off := 3) (ft := 3) Try.underlying30 rfl cells3 (.pl rfl)) rfl ?_
                refine WL.q (Y.loadB (v := .int .i64 x37.arg) Try.underlying3 rfl (.pl rfl) (i := 6) rfl (rfl)) rfl ?_
                refine WL.q (Y.build (cs := (encEvent (Event.mk x37.who x37.thing x37.kind x37.arg)).toArray) shape36 (.cons (.pl rfl) (.cons (.pl rfl) (.cons (.pl rfl) (.cons (.pl rfl) (.nil))))) (one_parts ⟨rfl, ⟨rfl, ⟨rfl, ⟨rfl, trivial⟩⟩⟩⟩) rfl) rfl ?_
                obtain ⟨r51, hr51, hF34⟩ := bnd hF34
                refine WL.step (WO.callG (γ := Unit) (first := []) (cap := [.pointer (some ⟨b6, 0, none⟩), .pointer (some ⟨b21, 0, none⟩), .pointer (some ⟨b18, 0, none⟩)]) (fun g => .bool r51.2.2) (fun g => [cBx b6 3 [.int .i64 n7], cBx b21 88 [.slice (some ⟨b19, 0, none⟩) (r51.1).length n7.toNat], cR eB 1 (some ⟨b19, 0, none⟩) n7.toNat 4 r51.1, cBx b18 23 [.slice (some ⟨b16, 0, none⟩) (r51.2.1).length n7.toNat], cR encEvent 4 (some ⟨b16, 0, none⟩) n7.toNat 36 r51.2.1, cR (eI .i64) 1 A39 c40 3 (types41.set x37.thing.toNat (max r49 1)), cBx b38 30 (encCall x37)]) (fun _ => True) isGo41 (.pl rfl) (.cons (.pl rfl) (.cons (.pl rfl) (.nil))) rfl (fun w hw => history_Events_1_ok (T := [cR (eI .i64) 1 A39 c40 3 (types41.set x37.thing.toNat (max r49 1)), cBx b38 30 (encCall x37)]) (hr51) (hw.pick [3, 4, 5, 1, 2, 0, 6] rfl) ) ?_)
                rintro _ -
                refine WL.q (Y.assign (.pl rfl)) rfl ?_
                refine WL.next hQ50 (.cons (i := 0) rfl (.cons (i := 7) rfl (.cons (i := 8) rfl (.cons (i := 10) rfl (.cons (i := 12) rfl (.cons (i := 13) rfl (.cons (i := 40) rfl (.cons (i := 41) rfl (.cons (i := 42) rfl (.nil)))))))))) ?_
                obtain ⟨o51, hF51, hF34⟩ := bnd hF34
                refine W.join3 (Em := fun (out52 : (List Event)) (put53 : (List Bool)) (ok54 : Bool) => [(7, .slice A39 ((types41.set x37.thing.toNat (max r49 1))).length c40), (13, .bool ok54)]) (M := fun out52 put53 ok54 => [cR (eI .i64) 1 A39 c40 3 (types41.set x37.thing.toNat (max r49 1)), cBx b18 23 [.slice (some ⟨b16, 0, none⟩) (out52).length n7.toNat], cR encEvent 4 (some ⟨b16, 0, none⟩) n7.toNat 36 out52, cBx b6 3 [.int .i64 n7], cBx b21 88 [.slice (some ⟨b19, 0, none⟩) (put53).length n7.toNat], cR eB 1 (some ⟨b19, 0, none⟩) n7.toNat 4 put53]) (I := fun out52 put53 ok54 => (out52, put53, ok54) = o51) (.cons (i := 0) rfl (.cons (i := 8) rfl (.cons (i := 10) rfl (.cons (i := 40) rfl (.cons (i := 41) rfl (.cons (i := 42) rfl (.nil))))))) (fun K52 hK52 => ?_) ?_
                · -- up to
                  -- region 23: history.go:144
                  refine W.seqR fun Q53 hQ53 => ?_
                  refine WL.q (Y.move (.pl rfl)) rfl ?_
                  refine WL.q (Y.move (.pl rfl)) rfl ?_
                  refine WL.g (.pl rfl rfl rfl) (fun hg => Y.fieldAddr0 (off := 6) (ft := 3) Try.underlying30 rfl cells3 (.pl rfl)) rfl ?_
                  refine WL.g (.pl rfl rfl rfl) (fun hg => Y.loadB (v := .int .i64 x37.to_) Try.underlying3 rfl (.gd (hg) rfl) (i := 6) rfl (rfl)) rfl ?_
                  refine WL.g (.pl rfl rfl rfl) (fun hg => Y.neq (.gd (hg) rfl) (.pl rfl)) rfl ?_
                  refine WL.q (Y.and (.pl rfl) (fun h2 => .gd (eqt h2) rfl)) rfl ?_
                  refine WL.next hQ53 (.cons (i := 0) rfl (.cons (i := 7) rfl (.cons (i := 8) rfl (.cons (i := 10) rfl (.cons (i := 12) rfl (.cons (i := 13) rfl (.cons (i := 40) rfl (.cons (i := 41) rfl (.cons (i := 42) rfl (.cons (i := 88) rfl (.nil))))))))))) ?_
                  refine W.cond (.pl rfl) (fun hC54 => ?_) (fun hC54 => ?_)
                  · replace hF51 := cpos hC54 hF51
                    -- region 24: history.go:145
                    refine W.reg ?_
                    refine WL.q (Y.move (.pl rfl)) rfl ?_
                    refine WL.q (Y.fieldAddr0 (off := 6) (ft := 3) Try.underlying30 rfl cells3 (.pl rfl)) rfl ?_
                    refine WL.q (Y.loadB (v := .int .i64 x37.to_) Try.underlying3 rfl (.pl rfl) (i := 6) rfl (rfl)) rfl ?_
                    refine WL.q (Y.fieldAddr0 (off := 0) (ft := 3) Try.underlying30 rfl cells3 (.pl rfl)) rfl ?_
                    refine WL.q (Y.loadB (v := .int .i64 x37.who) Try.underlying3 rfl (.pl rfl) (i := 6) rfl (rfl)) rfl ?_
                    refine WL.q (Y.fieldAddr0 (off := 1) (ft := 3) Try.underlying30 rfl cells3 (.pl rfl)) rfl ?_
                    refine WL.q (Y.loadB (v := .int .i64 x37.thing) Try.underlying3 rfl (.pl rfl) (i := 6) rfl (rfl)) rfl ?_
                    refine WL.q (Y.fieldAddr0 (off := 4) (ft := 3) Try.underlying30 rfl cells3 (.pl rfl)) rfl ?_
                    refine WL.q (Y.loadB (v := .int .i64 x37.res) Try.underlying3 rfl (.pl rfl) (i := 6) rfl (rfl)) rfl ?_
                    refine WL.q (Y.build (cs := (encEvent (Event.mk x37.who x37.thing 0 x37.res)).toArray) shape36 (.cons (.pl rfl) (.cons (.pl rfl) (.cons (.pl rfl) (.cons (.pl rfl) (.nil))))) (one_parts ⟨rfl, ⟨rfl, ⟨rfl, ⟨rfl, trivial⟩⟩⟩⟩) rfl) rfl ?_
                    obtain ⟨r55, hr55, hF51⟩ := bnd hF51
                    refine WL.step (WO.callG (γ := Unit) (first := []) (cap := [.pointer (some ⟨b6, 0, none⟩), .pointer (some ⟨b21, 0, none⟩), .pointer (some ⟨b18, 0, none⟩)]) (fun g => .bool r55.2.2) (fun g => [cBx b6 3 [.int .i64 n7], cBx b21 88 [.slice (some ⟨b19, 0, none⟩) (r55.1).length n7.toNat], cR eB 1 (some ⟨b19, 0, none⟩) n7.toNat 4 r55.1, cBx b18 23 [.slice (some ⟨b16, 0, none⟩) (r55.2.1).length n7.toNat], cR encEvent 4 (some ⟨b16, 0, none⟩) n7.toNat 36 r55.2.1, cR (eI .i64) 1 A39 c40 3 (types41.set x37.thing.toNat (max r49 1)), cBx b38 30 (encCall x37)]) (fun _ => True) isGo41 (.pl rfl) (.cons (.pl rfl) (.cons (.pl rfl) (.nil))) rfl (fun w hw => history_Events_1_ok (T := [cR (eI .i64) 1 A39 c40 3 (types41.set x37.thing.toNat (max r49 1)), cBx b38 30 (encCall x37)]) (hr55) (hw.pick [0, 1, 2, 3, 4, 5, 6] rfl) ) ?_)
                    rintro _ -
                    refine WL.q (Y.assign (.pl rfl)) rfl ?_
                    refine WL.nil ?_
                    exact W.joinAt3 hK52 r55.2.1 r55.1 r55.2.2 (Option.some.inj hF51) (.cons (eqSl (by simp)) (.cons rfl (.nil))) (.cons (i := 0) rfl (.cons (i := 8) rfl (.cons (i := 10) rfl (.cons (i := 40) rfl (.cons (i := 41) rfl (.cons (i := 42) rfl (.nil))))))) (fun w hw => hw.pick [5, 3, 4, 0, 1, 2] rfl)
                  · replace hF51 := cneg hC54 hF51
                    refine W.skip ?_
                    exact W.joinAt3 hK52 r51.2.1 r51.1 r51.2.2 (Option.some.inj hF51) (.cons (eqSl (by simp)) (.cons rfl (.nil))) (.cons (i := 0) rfl (.cons (i := 8) rfl (.cons (i := 10) rfl (.cons (i := 40) rfl (.cons (i := 41) rfl (.cons (i := 42) rfl (.nil))))))) (fun w hw => hw.pick [5, 3, 4, 0, 1, 2] rfl)
                · -- behind
                  rintro out52 put53 ok54 rfl
                  -- region 25: history.go:147
                  refine W.seqR fun Q56 hQ56 => ?_
                  refine WL.q (Y.move (.pl rfl)) rfl ?_
                  refine WL.q (Y.not (.pl rfl)) rfl ?_
                  refine WL.next hQ56 (.cons (i := 0) rfl (.cons (i := 7) rfl (.cons (i := 8) rfl (.cons (i := 10) rfl (.cons (i := 40) rfl (.cons (i := 41) rfl (.cons (i := 42) rfl (.cons (i := 101) rfl (.nil))))))))) ?_
                  refine W.cond (.pl rfl) (fun hC57 => ?_) (fun hC57 => ?_)
                  · replace hF34 := cpos hC57 hF34
                    -- region 26: history.go:148
                    refine W.seqR fun Q58 hQ58 => ?_
                    refine WL.q (Y.assign (.pl rfl)) rfl ?_
                    refine WL.q (Y.assign (.pl rfl)) rfl ?_
                    refine WL.next hQ58 (.cons (i := 2) rfl (.cons (i := 3) rfl (.nil))) ?_
                    obtain rfl := Option.some.inj hF34
                    obtain rfl := Option.some.inj hF29
                    obtain rfl := einr hN29
                    obtain rfl := Option.some.inj hF
                    refine W.retV (fn := Try.f20) (vs := [.slice none 0 0, .int .i64 3]) Try.results20 ⟨.tmp rfl, ⟨.tmp rfl, trivial⟩⟩ (fun _ _ h => h) (fun w hw => ?_)
                    exact hR _ _ ⟨(none, 0), trivial, rfl, ((St.nilR (hw.pick [] rfl) encEvent 4 36).pick [0] rfl)⟩
                  · replace hF34 := cneg hC57 hF34
                    refine W.skip ?_
                    exact W.joinAt5 hK35 (types41.set x37.thing.toNat (max r49 1)) out52 put53 A39 c40 (Option.some.inj hF34) (.cons rfl (.nil)) (.cons (i := 0) rfl (.cons (i := 8) rfl (.cons (i := 10) rfl (.cons (i := 40) rfl (.cons (i := 41) rfl (.cons (i := 42) rfl (.nil))))))) (fun w hw => hw.pick [0, 1, 2, 3, 4, 5] rfl)
          · -- behind
            rintro types34 out35 put36 A32 c33 rfl
            -- region 27: history.go:135
            refine W.reg ?_
            obtain ⟨hk56, hF29⟩ := ckh hF29
            refine WL.q (Y.add (.pl rfl) (.pl rfl) (ok64_lt (hk56))) rfl ?_
            refine WL.q (Y.move (.pl rfl)) rfl ?_
            refine WL.nil ?_
            obtain rfl := Option.some.inj hF29
            exact W.again6 hK30 types34 out35 put36 (v31 + 1) A32 c33 k29 hN29 (Nat.lt_succ_self _) (.cons rfl (.cons rfl (.nil))) (.cons (i := 0) rfl (.cons (i := 8) rfl (.cons (i := 10) rfl (.cons (i := 40) rfl (.cons (i := 41) rfl (.nil)))))) (fun w hw => hw.pick [0, 1, 2, 3, 4, 5] rfl)
        · replace hF29 := cneg hC33 hF29
          refine W.exit ?_
          obtain rfl := Option.some.inj hF29
          exact W.joinAt4 hK27 types28 out29 A26 c27 (einr hN29) (.cons rfl (.nil)) (.cons (i := 0) rfl (.cons (i := 8) rfl (.nil))) (fun w hw => hw.pick [0, 1, 2] rfl)
      · -- behind
        rintro types24 out25 A22 c23 rfl
        refine W.seq fun K60 hK60 => ?_
        -- region 28: history.go:151
        refine W.seqR fun Q61 hQ61 => ?_
        refine WL.q (Y.move (.pl rfl)) rfl ?_
        refine WL.q (Y.loadB (v := .slice (some ⟨b16, 0, none⟩) (out25).length n7.toNat) Try.underlying23 rfl (.pl rfl) (i := 1) rfl (rfl)) rfl ?_
        obtain ⟨r57, hr57, hF⟩ := bnd hF
        refine WL.step (WO.callM isGo15 (.cons (.pl rfl) (.cons (.pl rfl) (.nil))) rfl (fun w hw => history_Calls_ok (hr57) w (SlIn.ofRow (fun _ => rfl) hw (i := 0) rfl) (SlIn.ofRow lenEvent hw (i := 2) rfl)) ?_)
        rintro ⟨A58, c59⟩ -
        refine WL.q (Y.move (.pl rfl)) rfl ?_
        refine WL.q (Y.extract (.pl rfl) rfl) rfl ?_
        refine WL.q (Y.extract (.pl rfl) rfl) rfl ?_
        refine WL.q (Y.extract (.pl rfl) rfl) rfl ?_
        refine WL.q (Y.assign (.pl rfl)) rfl ?_
        refine WL.q (Y.assign (.pl rfl)) rfl ?_
        refine WL.q (Y.assign (.pl rfl)) rfl ?_
        refine WL.next hQ61 (.cons (i := 0) rfl (.cons (i := 8) rfl (.cons (i := 14) rfl (.cons (i := 16) rfl (.nil))))) ?_
        -- region 29: history.go:151
        refine W.seqR fun Q62 hQ62 => ?_
        refine WL.q (Y.move (.pl rfl)) rfl ?_
        refine WL.q (Y.neq (.pl rfl) (.pl rfl)) rfl ?_
        refine WL.q (Y.move (.pl rfl)) rfl ?_
        refine WL.g (.pl rfl rfl rfl) (fun hg => Y.move (.pl rfl)) rfl ?_
        refine WL.g (.pl rfl rfl rfl) (fun hg => Y.move (.pl rfl)) rfl ?_
        obtain ⟨r60, hr60, hF⟩ := bnd hF
        refine WL.gP (.pl rfl rfl rfl) isGo23 (fun hg => (.cons (.gd (hg) rfl) (.cons (.gd (hg) rfl) (.nil)))) rfl (fun hg w hw => slices_Equal_api_Call_api_Call_ok (gpos hg hr60) w (SlIn.ofRow lenCall hw (i := 0) rfl) (hs4.mono hw)) ?_
        refine WL.g (.pl rfl rfl rfl) (fun hg => Y.not (.gd (hg) rfl)) rfl ?_
        refine WL.q (Y.or (.pl rfl) (fun h2 => .gd (eqf h2) rfl)) rfl ?_
        refine WL.next hQ62 (.cons (i := 8) rfl (.cons (i := 117) rfl (.nil))) ?_
        refine W.cond (.pl rfl) (fun hC63 => ?_) (fun hC63 => ?_)
        · replace hF := cpos hC63 hF
          -- region 30: history.go:152
          refine W.seqR fun Q64 hQ64 => ?_
          refine WL.q (Y.assign (.pl rfl)) rfl ?_
          refine WL.q (Y.assign (.pl rfl)) rfl ?_
          refine WL.next hQ64 (.cons (i := 2) rfl (.cons (i := 3) rfl (.nil))) ?_
          obtain rfl := Option.some.inj hF
          refine W.retV (fn := Try.f20) (vs := [.slice none 0 0, .int .i64 3]) Try.results20 ⟨.tmp rfl, ⟨.tmp rfl, trivial⟩⟩ (fun _ _ h => h) (fun w hw => ?_)
          exact hR _ _ ⟨(none, 0), trivial, rfl, ((St.nilR (hw.pick [] rfl) encEvent 4 36).pick [0] rfl)⟩
        · replace hF := cneg hC63 hF
          refine W.skip ?_
          refine W.go hK60 (.cons (i := 8) rfl (.nil)) ?_
          -- region 31: history.go:154
          refine W.seqR fun Q65 hQ65 => ?_
          refine WL.q (Y.loadB (v := .slice (some ⟨b16, 0, none⟩) (out25).length n7.toNat) Try.underlying23 rfl (.pl rfl) (i := 2) rfl (rfl)) rfl ?_
          refine WL.q (Y.assign (.pl rfl)) rfl ?_
          refine WL.q (Y.assign (.pl rfl)) rfl ?_
          refine WL.next hQ65 (.cons (i := 2) rfl (.cons (i := 3) rfl (.nil))) ?_
          obtain rfl := Option.some.inj hF
          refine W.retV (fn := Try.f20) (vs := [.slice (some ⟨b16, 0, none⟩) (out25).length n7.toNat, .int .i64 0]) Try.results20 ⟨.tmp rfl, ⟨.tmp rfl, trivial⟩⟩ (fun _ _ h => h) (fun w hw => ?_)
          exact hR _ _ ⟨((some ⟨b16, 0, none⟩), n7.toNat), trivial, rfl, (hw.pick [3] rfl)⟩

def slices_Equal_api_Event_api_Event_L3 (N : Nat) (s11 : (List Event)) (s26 : (List Event)) : Int → Option (Int ⊕ (Unit ⊕ Bool))
  | v11 =>
    cond (decide (v11 < ((s11).length : Int)))
      (bd (ix s11 v11) fun (x12 : Event) =>
      bd (ix s26 v11) fun (x13 : Event) =>
      cond (!(decide (x12 = x13)))
        (some (.inr (.inr false)))
        (ck (ok64 (v11 + 1)) <|
        some (.inl (v11 + 1))))
      (some (.inr (.inl ())))

def slices_Equal_api_Event_api_Event (N : Nat) (s11 : (List Event)) (s26 : (List Event)) : Option Bool :=
  cond (!(decide (((s11).length : Int) = ((s26).length : Int))))
    (some false)
    (bd (α := (Unit ⊕ Bool)) (iter (slices_Equal_api_Event_api_Event_L3 N s11 s26) N 0) <|
    Sum.elim (fun _ => 
      some true) (fun p => some p))

theorem slices_Equal_api_Event_api_Event_ok {N : Nat} {s11 : (List Event)} {s26 : (List Event)} {res : Bool} (hF : slices_Equal_api_Event_api_Event N s11 s26 = some res) (w : World) {v5 : Value} (hs4 : SlIn encEvent 4 w v5 s11) {v10 : Value} (hs9 : SlIn encEvent 4 w v10 s26) :
    Pure Try.prog 21 [v5, v10] w (.bool res) := by
  obtain ⟨A2, c3, rfl, hcc3, hs4⟩ := hs4.form
  obtain ⟨A7, c8, rfl, hcc8, hs9⟩ := hs9.form
  refine W.enter (n := 26) Try.func21 rfl rfl Sub.refl (by simp) (St.start w) fun R hR => ?_
  unfold slices_Equal_api_Event_api_Event at hF
  -- region 0: slices.go:20
  refine W.seqR fun Q1 hQ1 => ?_
  refine WL.q (Y.assign (.pl rfl)) rfl ?_
  refine WL.next hQ1 (.cons (i := 0) rfl (.cons (i := 1) rfl (.nil))) ?_
  refine W.seq fun K2 hK2 => ?_
  -- region 1: slices.go:21
  refine W.seqR fun Q3 hQ3 => ?_
  refine WL.q (Y.move (.pl rfl)) rfl ?_
  refine WL.q (Y.len Try.underlying23 (.pl rfl)) rfl ?_
  refine WL.q (Y.move (.pl rfl)) rfl ?_
  refine WL.q (Y.len Try.underlying23 (.pl rfl)) rfl ?_
  refine WL.q (Y.neq (.pl rfl) (.pl rfl)) rfl ?_
  refine WL.next hQ3 (.cons (i := 0) rfl (.cons (i := 1) rfl (.cons (i := 10) rfl (.nil)))) ?_
  refine W.cond (.pl rfl) (fun hC4 => ?_) (fun hC4 => ?_)
  · replace hF := cpos hC4 hF
    -- region 2: slices.go:22
    refine W.seqR fun Q5 hQ5 => ?_
    refine WL.q (Y.assign (.pl rfl)) rfl ?_
    refine WL.next hQ5 (.cons (i := 4) rfl (.nil)) ?_
    obtain rfl := Option.some.inj hF
    refine W.retV (fn := Try.f21) (vs := [.bool false]) Try.results21 ⟨.tmp rfl, trivial⟩ (fun _ _ h => h) (fun w hw => ?_)
    exact hR _ _ ⟨rfl, (hw.pick [] rfl)⟩
  · replace hF := cneg hC4 hF
    refine W.skip ?_
    refine W.go hK2 (.cons (i := 0) rfl (.cons (i := 1) rfl (.nil))) ?_
    obtain ⟨o6, hF6, hF⟩ := bnd hF
    refine W.join0 (Em := []) (M := []) (I := (.inl ()) = o6) (.nil) (fun K7 hK7 => ?_) ?_
    · -- up to
      -- region 3: slices.go:24
      refine W.seqR fun Q8 hQ8 => ?_
      refine WL.q (Y.move (.pl rfl)) rfl ?_
      refine WL.q (Y.len Try.underlying23 (.pl rfl)) rfl ?_
      refine WL.q (Y.move (.pl rfl)) rfl ?_
      refine WL.next hQ8 (.cons (i := 0) rfl (.cons (i := 1) rfl (.cons (i := 12) rfl (.cons (i := 13) rfl (.nil))))) ?_
      refine W.block ?_
      refine W.loop1 (Em := fun (v11 : Int) => [(13, .int .i64 v11)]) (M := fun v11 => []) (I := fun v11 k9 => iter (slices_Equal_api_Event_api_Event_L3 N s11 s26) k9 v11 = some o6) 0 N (hF6) (.cons rfl (.nil)) (.cons (i := 0) rfl (.cons (i := 1) rfl (.cons (i := 12) rfl (.nil)))) (fun w hw => hw.pick [] rfl) (fun v11 k9 hI K10 hK10 => ?_)
      obtain ⟨k9, t9, rfl, hF9, hN9⟩ := iter_step hI
      -- region 4: slices.go:24
      refine W.seqR fun Q11 hQ11 => ?_
      refine WL.q (Y.lss (.pl rfl) (.pl rfl)) rfl ?_
      refine WL.next hQ11 (.cons (i := 0) rfl (.cons (i := 1) rfl (.cons (i := 12) rfl (.cons (i := 13) rfl (.cons (i := 14) rfl (.nil)))))) ?_
      refine W.seq fun K12 hK12 => ?_
      refine W.cond (.pl rfl) (fun hC13 => ?_) (fun hC13 => ?_)
      · replace hF9 := cpos hC13 hF9
        refine W.skip ?_
        refine W.go hK12 (.cons (i := 0) rfl (.cons (i := 1) rfl (.cons (i := 12) rfl (.cons (i := 13) rfl (.nil))))) ?_
        refine W.seq fun K14 hK14 => ?_
        refine W.block ?_
        -- region 5: slices.go:24
        refine W.seqR fun Q15 hQ15 => ?_
        refine WL.q (Y.move (.pl rfl)) rfl ?_
        refine WL.q (Y.assign (.pl rfl)) rfl ?_
        refine WL.next hQ15 (.cons (i := 0) rfl (.cons (i := 1) rfl (.cons (i := 5) rfl (.cons (i := 12) rfl (.cons (i := 13) rfl (.nil)))))) ?_
        -- region 6: slices.go:25
        refine W.seqD (by kernel_rfl) (by kernel_rfl) fun R16 hR16 => ?_
        refine WD.q (Y.move (.pl rfl)) rfl ?_
        refine WD.q (Y.move (.pl rfl)) rfl ?_
        obtain ⟨x12, hx12, hF9⟩ := bnd hF9
        refine WD.q (Y.slEl Try.underlying23 cells36 hs4 (.pl rfl) (.pl rfl) (ix_lt (hx12))) rfl ?_
        refine WD.q (Y.loadSA (enc := encEvent) (ds := (encEvent x12)) (j := 0) Try.underlying36 rfl cells36 hs4 (.pl rfl) (hx12) rfl rfl subW) rfl ?_
        refine WD.q (Y.move (.pl rfl)) rfl ?_
        refine WD.q (Y.move (.pl rfl)) rfl ?_
        obtain ⟨x13, hx13, hF9⟩ := bnd hF9
        refine WD.q (Y.slEl Try.underlying23 cells36 hs9 (.pl rfl) (.pl rfl) (ix_lt (hx13))) rfl ?_
        refine WD.q (Y.loadSA (enc := encEvent) (ds := (encEvent x13)) (j := 0) Try.underlying36 rfl cells36 hs9 (.pl rfl) (hx13) rfl rfl subW) rfl ?_
        refine WD.q (Y.neqS eqs36 (.pl rfl) (.pl rfl) (eqEvent x12 x13)) rfl ?_
        refine WD.next hR16 (.cons (i := 0) rfl (.cons (i := 1) rfl (.cons (i := 12) rfl (.cons (i := 13) rfl (.cons (i := 24) rfl (.nil)))))) ?_
        refine W.cond (.pl rfl) (fun hC17 => ?_) (fun hC17 => ?_)
        · replace hF9 := cpos hC17 hF9
          -- region 7: slices.go:26
          refine W.seqR fun Q18 hQ18 => ?_
          refine WL.q (Y.assign (.pl rfl)) rfl ?_
          refine WL.next hQ18 (.cons (i := 4) rfl (.nil)) ?_
          obtain rfl := Option.some.inj hF9
          obtain rfl := einr hN9
          obtain rfl := Option.some.inj hF
          refine W.retV (fn := Try.f21) (vs := [.bool false]) Try.results21 ⟨.tmp rfl, trivial⟩ (fun _ _ h => h) (fun w hw => ?_)
          exact hR _ _ ⟨rfl, (hw.pick [] rfl)⟩
        · replace hF9 := cneg hC17 hF9
          refine W.skip ?_
          refine W.go hK14 (.cons (i := 0) rfl (.cons (i := 1) rfl (.cons (i := 12) rfl (.cons (i := 13) rfl (.nil))))) ?_
          -- region 8: slices.go:24
          refine W.reg ?_
          obtain ⟨hk14, hF9⟩ := ckh hF9
          refine WL.q (Y.add (.pl rfl) (.pl rfl) (ok64_lt (hk14))) rfl ?_
          refine WL.q (Y.move (.pl rfl)) rfl ?_
          refine WL.nil ?_
          obtain rfl := Option.some.inj hF9
          exact W.again1 hK10 (v11 + 1) k9 hN9 (Nat.lt_succ_self _) (.cons rfl (.nil)) (.cons (i := 0) rfl (.cons (i := 1) rfl (.cons (i := 12) rfl (.nil)))) (fun w hw => hw.pick [] rfl)
      · replace hF9 := cneg hC13 hF9
        refine W.exit ?_
        obtain rfl := Option.some.inj hF9
        exact W.joinAt0 hK7  (einr hN9) (.nil) (.nil) (fun w hw => hw.pick [] rfl)
    · -- behind
      rintro  rfl
      -- region 9: slices.go:29
      refine W.seqR fun Q20 hQ20 => ?_
      refine WL.q (Y.assign (.pl rfl)) rfl ?_
      refine WL.next hQ20 (.cons (i := 4) rfl (.nil)) ?_
      obtain rfl := Option.some.inj hF
      refine W.retV (fn := Try.f21) (vs := [.bool true]) Try.results21 ⟨.tmp rfl, trivial⟩ (fun _ _ h => h) (fun w hw => ?_)
      exact hR _ _ ⟨rfl, (hw.pick [] rfl)⟩

def alibkeep_HistoryBack_L27 (N : Nat) (x33 : Call) : ((List Int) × Int) → Option (((List Int) × Int) ⊕ (List Int))
  | (t35, typ36) =>
    cond (decide (typ36 ≤ 5))
      (bd ((cond (((decide (0 ≤ x33.thing)) && (decide (x33.thing < 4))) == true) (history_Fits N typ36 x33.kind) (some false))) fun (r37 : Bool) =>
      cond (((decide (0 ≤ x33.thing)) && (decide (x33.thing < 4))) && r37)
        (bd (ix t35 x33.thing) fun (x38 : Int) =>
        ck (ok64 (typ36 + 1)) <|
        some (.inl ((t35.set x33.thing.toNat typ36), (typ36 + 1))))
        (ck (ok64 (typ36 + 1)) <|
        some (.inl (t35, (typ36 + 1)))))
      (some (.inr t35))

def alibkeep_HistoryBack_L25 (N : Nat) (calls11 : (List Call)) : ((List Int) × Int) → Option (((List Int) × Int) ⊕ (List Int))
  | (t30, v31) =>
    cond (decide (v31 < ((calls11).length : Int)))
      (bd (α := (List Int)) (bd (ix calls11 v31) fun (x33 : Call) =>
        iter (alibkeep_HistoryBack_L27 N x33) N (t30, 1)) <|
      fun (t32 : (List Int)) => 
        ck (ok64 (v31 + 1)) <|
        some (.inl (t32, (v31 + 1))))
      (some (.inr t30))

def alibkeep_HistoryBack (N : Nat) (types1 : (List Int)) (l6 : (List Event)) (calls11 : (List Call)) : Option Bool :=
  bd (history_Calls N types1 l6) fun (r16 : ((List Call) × Int × Int)) =>
  bd (α := (Unit ⊕ Bool)) (cond (decide (r16.2.2 = 0))
      (bd (history_Events N r16.1) fun (r19 : ((List Event) × Int)) =>
      bd ((cond ((!(decide (r19.2 = 0))) == false) (slices_Equal_api_Event_api_Event N r19.1 l6) (some false))) fun (r22 : Bool) =>
      cond (((!(decide (r19.2 = 0))) || (!r22)) || (!(decide (r16.2.1 = 0))))
        (some (.inr false))
        (some (.inl ())))
      (some (.inl ()))) <|
  Sum.elim (fun _ => 
    bd (history_Events N calls11) fun (r23 : ((List Event) × Int)) =>
    bd (alibkeep_historyLives N) fun (r26 : Bool) =>
    cond ((!r26) || (!(decide (r23.2 = 0))))
      (bd (alibkeep_historyLives N) fun (r27 : Bool) =>
      some (r27 && (decide (((r23.1).length : Int) = 0))))
      (bd (α := (List Int)) (iter (alibkeep_HistoryBack_L25 N calls11) N (([1, 1, 1, 1] : List Int), 0)) <|
      fun (t29 : (List Int)) => 
        bd (history_Calls N t29 r23.1) fun (r42 : ((List Call) × Int × Int)) =>
        bd ((cond ((decide (r42.2.2 = 0)) == true) (slices_Equal_api_Call_api_Call N r42.1 calls11) (some false))) fun (r45 : Bool) =>
        some ((decide (r42.2.2 = 0)) && r45))) (fun p => some p)

theorem alibkeep_HistoryBack_ok {N : Nat} {types1 : (List Int)} {l6 : (List Event)} {calls11 : (List Call)} {res : Bool} (hF : alibkeep_HistoryBack N types1 l6 calls11 = some res) (w : World) {v5 : Value} (hs4 : SlIn (eI .i64) 1 w v5 types1) {v10 : Value} (hs9 : SlIn encEvent 4 w v10 l6) {v15 : Value} (hs14 : SlIn encCall 7 w v15 calls11) :
    Pure Try.prog 5 [v5, v10, v15] w (.bool res) := by
  obtain ⟨A2, c3, rfl, hcc3, hs4⟩ := hs4.form
  obtain ⟨A7, c8, rfl, hcc8, hs9⟩ := hs9.form
  obtain ⟨A12, c13, rfl, hcc13, hs14⟩ := hs14.form
  refine W.enter (n := 109) Try.func5 rfl rfl Sub.refl (by simp) (St.start w) fun R hR => ?_
  unfold alibkeep_HistoryBack at hF
  -- region 0: history.go:25
  refine W.seqR fun Q1 hQ1 => ?_
  refine WL.q (Y.assign (.pl rfl)) rfl ?_
  refine WL.next hQ1 (.cons (i := 0) rfl (.cons (i := 1) rfl (.cons (i := 2) rfl (.nil)))) ?_
  -- region 1: history.go:26
  refine W.seqR fun Q2 hQ2 => ?_
  refine WL.q (Y.move (.pl rfl)) rfl ?_
  refine WL.q (Y.move (.pl rfl)) rfl ?_
  obtain ⟨r16, hr16, hF⟩ := bnd hF
  refine WL.step (WO.callM isGo15 (.cons (.pl rfl) (.cons (.pl rfl) (.nil))) rfl (fun w hw => history_Calls_ok (hr16) w (hs4.mono hw) (hs9.mono hw)) ?_)
  rintro ⟨A17, c18⟩ -
  refine WL.q (Y.move (.pl rfl)) rfl ?_
  refine WL.q (Y.extract (.pl rfl) rfl) rfl ?_
  refine WL.q (Y.extract (.pl rfl) rfl) rfl ?_
  refine WL.q (Y.extract (.pl rfl) rfl) rfl ?_
  refine WL.q (Y.assign (.pl rfl)) rfl ?_
  refine WL.q (Y.assign (.pl rfl)) rfl ?_
  refine WL.q (Y.assign (.pl rfl)) rfl ?_
  refine WL.next hQ2 (.cons (i := 1) rfl (.cons (i := 2) rfl (.cons (i := 7) rfl (.cons (i := 8) rfl (.cons (i := 9) rfl (.nil)))))) ?_
  obtain ⟨o3, hF3, hF⟩ := bnd hF
  refine W.join0 (Em := []) (M := []) (I := (.inl ()) = o3) (.cons (i := 2) rfl (.nil)) (fun K4 hK4 => ?_) ?_
  · -- up to
    -- region 2: history.go:27
    refine W.seqR fun Q5 hQ5 => ?_
    refine WL.q (Y.move (.pl rfl)) rfl ?_
    refine WL.q (Y.eql (.pl rfl) (.pl rfl)) rfl ?_
    refine WL.next hQ5 (.cons (i := 1) rfl (.cons (i := 2) rfl (.cons (i := 7) rfl (.cons (i := 8) rfl (.cons (i := 29) rfl (.nil)))))) ?_
    refine W.cond (.pl rfl) (fun hC6 => ?_) (fun hC6 => ?_)
    · replace hF3 := cpos hC6 hF3
      -- region 3: history.go:28
      refine W.seqR fun Q7 hQ7 => ?_
      refine WL.q (Y.move (.pl rfl)) rfl ?_
      obtain ⟨r19, hr19, hF3⟩ := bnd hF3
      refine WL.step (WO.callM isGo20 (.cons (.pl rfl) (.nil)) rfl (fun w hw => history_Events_ok (hr19) w (SlIn.ofRow lenCall hw (i := 0) rfl)) ?_)
      rintro ⟨A20, c21⟩ -
      refine WL.q (Y.move (.pl rfl)) rfl ?_
      refine WL.q (Y.extract (.pl rfl) rfl) rfl ?_
      refine WL.q (Y.extract (.pl rfl) rfl) rfl ?_
      refine WL.q (Y.assign (.pl rfl)) rfl ?_
      refine WL.q (Y.assign (.pl rfl)) rfl ?_
      refine WL.next hQ7 (.cons (i := 1) rfl (.cons (i := 2) rfl (.cons (i := 8) rfl (.cons (i := 10) rfl (.cons (i := 11) rfl (.nil)))))) ?_
      -- region 4: history.go:28
      refine W.seqR fun Q8 hQ8 => ?_
      refine WL.q (Y.move (.pl rfl)) rfl ?_
      refine WL.q (Y.neq (.pl rfl) (.pl rfl)) rfl ?_
      refine WL.q (Y.move (.pl rfl)) rfl ?_
      refine WL.g (.pl rfl rfl rfl) (fun hg => Y.move (.pl rfl)) rfl ?_
      refine WL.g (.pl rfl rfl rfl) (fun hg => Y.move (.pl rfl)) rfl ?_
      obtain ⟨r22, hr22, hF3⟩ := bnd hF3
      refine WL.gP (.pl rfl rfl rfl) isGo21 (fun hg => (.cons (.gd (hg) rfl) (.cons (.gd (hg) rfl) (.nil)))) rfl (fun hg w hw => slices_Equal_api_Event_api_Event_ok (gpos hg hr22) w (SlIn.ofRow lenEvent hw (i := 0) rfl) (hs9.mono hw)) ?_
      refine WL.g (.pl rfl rfl rfl) (fun hg => Y.not (.gd (hg) rfl)) rfl ?_
      refine WL.q (Y.or (.pl rfl) (fun h2 => .gd (eqf h2) rfl)) rfl ?_
      refine WL.q (Y.move (.pl rfl)) rfl ?_
      refine WL.g (.pl rfl rfl rfl) (fun hg => Y.move (.pl rfl)) rfl ?_
      refine WL.g (.pl rfl rfl rfl) (fun hg => Y.neq (.gd (hg) rfl) (.pl rfl)) rfl ?_
      refine WL.q (Y.or (.pl rfl) (fun h2 => .gd (eqf h2) rfl)) rfl ?_
      refine WL.next hQ8 (.cons (i := 2) rfl (.cons (i := 46) rfl (.nil))) ?_
      refine W.cond (.pl rfl) (fun hC9 => ?_) (fun hC9 => ?_)
      · replace hF3 := cpos hC9 hF3
        -- region 5: history.go:29
        refine W.seqR fun Q10 hQ10 => ?_
        refine WL.q (Y.assign (.pl rfl)) rfl ?_
        refine WL.next hQ10 (.cons (i := 6) rfl (.nil)) ?_
        obtain rfl := Option.some.inj hF3
        obtain rfl := Option.some.inj hF
        refine W.retV (fn := Try.f5) (vs := [.bool false]) Try.results5 ⟨.tmp rfl, trivial⟩ (fun _ _ h => h) (fun w hw => ?_)
        exact hR _ _ ⟨rfl, (hw.pick [] rfl)⟩
      · replace hF3 := cneg hC9 hF3
        refine W.skip ?_
        exact W.joinAt0 hK4  (Option.some.inj hF3) (.nil) (.cons (i := 2) rfl (.nil)) (fun w hw => hw.pick [] rfl)
    · replace hF3 := cneg hC6 hF3
      refine W.skip ?_
      exact W.joinAt0 hK4  (Option.some.inj hF3) (.nil) (.cons (i := 2) rfl (.nil)) (fun w hw => hw.pick [] rfl)
  · -- behind
    rintro  rfl
    -- region 6: history.go:32
    refine W.seqR fun Q11 hQ11 => ?_
    refine WL.q (Y.move (.pl rfl)) rfl ?_
    obtain ⟨r23, hr23, hF⟩ := bnd hF
    refine WL.step (WO.callM isGo20 (.cons (.pl rfl) (.nil)) rfl (fun w hw => history_Events_ok (hr23) w (hs14.mono hw)) ?_)
    rintro ⟨A24, c25⟩ -
    refine WL.q (Y.move (.pl rfl)) rfl ?_
    refine WL.q (Y.extract (.pl rfl) rfl) rfl ?_
    refine WL.q (Y.extract (.pl rfl) rfl) rfl ?_
    refine WL.q (Y.assign (.pl rfl)) rfl ?_
    refine WL.q (Y.assign (.pl rfl)) rfl ?_
    refine WL.next hQ11 (.cons (i := 2) rfl (.cons (i := 12) rfl (.cons (i := 13) rfl (.nil)))) ?_
    refine W.seq fun K12 hK12 => ?_
    -- region 7: history.go:33
    refine W.seqR fun Q13 hQ13 => ?_
    obtain ⟨r26, hr26, hF⟩ := bnd hF
    refine WL.step (WO.callP isGo16 (.nil) rfl (fun w hw => alibkeep_historyLives_ok (hr26) w ) ?_)
    refine WL.q (Y.not (.pl rfl)) rfl ?_
    refine WL.q (Y.move (.pl rfl)) rfl ?_
    refine WL.g (.pl rfl rfl rfl) (fun hg => Y.move (.pl rfl)) rfl ?_
    refine WL.g (.pl rfl rfl rfl) (fun hg => Y.neq (.gd (hg) rfl) (.pl rfl)) rfl ?_
    refine WL.q (Y.or (.pl rfl) (fun h2 => .gd (eqf h2) rfl)) rfl ?_
    refine WL.next hQ13 (.cons (i := 2) rfl (.cons (i := 12) rfl (.cons (i := 57) rfl (.nil)))) ?_
    refine W.cond (.pl rfl) (fun hC14 => ?_) (fun hC14 => ?_)
    · replace hF := cpos hC14 hF
      -- region 8: history.go:34
      refine W.seqR fun Q15 hQ15 => ?_
      obtain ⟨r27, hr27, hF⟩ := bnd hF
      refine WL.step (WO.callP isGo16 (.nil) rfl (fun w hw => alibkeep_historyLives_ok (hr27) w ) ?_)
      refine WL.q (Y.move (.pl rfl)) rfl ?_
      refine WL.g (.pl rfl rfl rfl) (fun hg => Y.move (.pl rfl)) rfl ?_
      refine WL.g (.pl rfl rfl rfl) (fun hg => Y.len Try.underlying23 (.gd (hg) rfl)) rfl ?_
      refine WL.g (.pl rfl rfl rfl) (fun hg => Y.eql (.gd (hg) rfl) (.pl rfl)) rfl ?_
      refine WL.q (Y.and (.pl rfl) (fun h2 => .gd (eqt h2) rfl)) rfl ?_
      refine WL.q (Y.assign (.pl rfl)) rfl ?_
      refine WL.next hQ15 (.cons (i := 6) rfl (.nil)) ?_
      obtain rfl := Option.some.inj hF
      refine W.retV (fn := Try.f5) (vs := [.bool (r27 && (decide (((r23.1).length : Int) = 0)))]) Try.results5 ⟨.tmp rfl, trivial⟩ (fun _ _ h => h) (fun w hw => ?_)
      exact hR _ _ ⟨rfl, (hw.pick [] rfl)⟩
    · replace hF := cneg hC14 hF
      refine W.skip ?_
      refine W.go hK12 (.cons (i := 2) rfl (.cons (i := 12) rfl (.nil))) ?_
      -- region 9: history.go:36
      refine W.seqR fun Q16 hQ16 => ?_
      refine WL.step (WO.bsliceC (enc := (eI .i64)) (ys := ([1, 1, 1, 1] : List Int)) Try.underlying22 bz3 (.cons (.pl rfl) (.cons (.pl rfl) (.cons (.pl rfl) (.cons (.pl rfl) (.nil))))) rfl (fun _ => rfl) rfl rfl (by decide) (by decide) rfl fun b28 => ?_)
      refine WL.q (Y.assign (.pl rfl)) rfl ?_
      refine WL.next hQ16 (.cons (i := 2) rfl (.cons (i := 12) rfl (.cons (i := 14) rfl (.nil)))) ?_
      obtain ⟨o17, hF17, hF⟩ := bnd hF
      refine W.join1 (Em := fun (t29 : (List Int)) => [(14, .slice (some ⟨b28, 0, none⟩) (t29).length (([1, 1, 1, 1] : List Int)).length)]) (M := fun t29 => [cR encEvent 4 A24 c25 36 r23.1, cR (eI .i64) 1 (some ⟨b28, 0, none⟩) (([1, 1, 1, 1] : List Int)).length 3 t29]) (I := fun t29 => t29 = o17) (.cons (i := 2) rfl (.cons (i := 12) rfl (.nil))) (fun K18 hK18 => ?_) ?_
      · -- up to
        -- region 10: history.go:37
        refine W.seqR fun Q19 hQ19 => ?_
        refine WL.q (Y.move (.pl rfl)) rfl ?_
        refine WL.q (Y.len Try.underlying24 (.pl rfl)) rfl ?_
        refine WL.q (Y.move (.pl rfl)) rfl ?_
        refine WL.next hQ19 (.cons (i := 2) rfl (.cons (i := 12) rfl (.cons (i := 14) rfl (.cons (i := 65) rfl (.cons (i := 66) rfl (.cons (i := 67) rfl (.nil))))))) ?_
        refine W.block ?_
        refine W.loop2 (Em := fun (t30 : (List Int)) (v31 : Int) => [(14, .slice (some ⟨b28, 0, none⟩) (t30).length (([1, 1, 1, 1] : List Int)).length), (67, .int .i64 v31)]) (M := fun t30 v31 => [cR encEvent 4 A24 c25 36 r23.1, cR (eI .i64) 1 (some ⟨b28, 0, none⟩) (([1, 1, 1, 1] : List Int)).length 3 t30]) (I := fun t30 v31 k20 => iter (alibkeep_HistoryBack_L25 N calls11) k20 (t30, v31) = some o17) ([1, 1, 1, 1] : List Int) 0 N (hF17) (.cons rfl (.cons rfl (.nil))) (.cons (i := 2) rfl (.cons (i := 12) rfl (.cons (i := 65) rfl (.cons (i := 66) rfl (.nil))))) (fun w hw => hw.pick [1, 0] rfl) (fun t30 v31 k20 hI K21 hK21 => ?_)
        obtain ⟨k20, t20, rfl, hF20, hN20⟩ := iter_step hI
        -- region 11: history.go:37
        refine W.seqR fun Q22 hQ22 => ?_
        refine WL.q (Y.lss (.pl rfl) (.pl rfl)) rfl ?_
        refine WL.next hQ22 (.cons (i := 2) rfl (.cons (i := 12) rfl (.cons (i := 14) rfl (.cons (i := 65) rfl (.cons (i := 66) rfl (.cons (i := 67) rfl (.cons (i := 68) rfl (.nil)))))))) ?_
        refine W.seq fun K23 hK23 => ?_
        refine W.cond (.pl rfl) (fun hC24 => ?_) (fun hC24 => ?_)
        · replace hF20 := cpos hC24 hF20
          refine W.skip ?_
          refine W.go hK23 (.cons (i := 2) rfl (.cons (i := 12) rfl (.cons (i := 14) rfl (.cons (i := 65) rfl (.cons (i := 66) rfl (.cons (i := 67) rfl (.nil))))))) ?_
          obtain ⟨o25, hF25, hF20⟩ := bnd hF20
          refine W.join1 (Em := fun (t32 : (List Int)) => [(14, .slice (some ⟨b28, 0, none⟩) (t32).length (([1, 1, 1, 1] : List Int)).length)]) (M := fun t32 => [cR encEvent 4 A24 c25 36 r23.1, cR (eI .i64) 1 (some ⟨b28, 0, none⟩) (([1, 1, 1, 1] : List Int)).length 3 t32]) (I := fun t32 => t32 = o25) (.cons (i := 2) rfl (.cons (i := 12) rfl (.cons (i := 65) rfl (.cons (i := 66) rfl (.cons (i := 67) rfl (.nil)))))) (fun K26 hK26 => ?_) ?_
          · -- up to
            refine W.block ?_
            -- region 12: history.go:37
            refine W.seqR fun Q27 hQ27 => ?_
            obtain ⟨x33, hx33, hF25⟩ := bnd hF25
            refine WL.q (Y.slEl Try.underlying24 cells30 hs14 (.pl rfl) (.pl rfl) (ix_lt (hx33))) rfl ?_
            refine WL.q (Y.loadSA (enc := encCall) (ds := (encCall x33)) (j := 0) Try.underlying30 rfl cells30 hs14 (.pl rfl) (hx33) rfl rfl subW) rfl ?_
            refine WL.step (WO.alloc (cs := (encCall (Call.mk 0 0 0 0 0 0 0)).toArray) zero30 rfl rfl fun b34 => ?_)
            refine WL.step (WO.storeBA (ds := (encCall x33)) (cs' := (encCall x33)) cells30 (.pl rfl) (.pl rfl) rfl (oneCall _) (i := 0) rfl (lel (o := 0) (l := 7) (m := 7) (by decide) rfl rfl) (putW rfl) ?_)
            refine WL.next hQ27 (.cons (i := 2) rfl (.cons (i := 12) rfl (.cons (i := 14) rfl (.cons (i := 16) rfl (.cons (i := 65) rfl (.cons (i := 66) rfl (.cons (i := 67) rfl (.nil)))))))) ?_
            -- region 13: history.go:38
            refine W.seqR fun Q28 hQ28 => ?_
            refine WL.q (Y.assign (.pl rfl)) rfl ?_
            refine WL.next hQ28 (.cons (i := 2) rfl (.cons (i := 12) rfl (.cons (i := 14) rfl (.cons (i := 16) rfl (.cons (i := 17) rfl (.cons (i := 65) rfl (.cons (i := 66) rfl (.cons (i := 67) rfl (.nil))))))))) ?_
            refine W.block ?_
            refine W.loop2 (Em := fun (t35 : (List Int)) (typ36 : Int) => [(14, .slice (some ⟨b28, 0, none⟩) (t35).length (([1, 1, 1, 1] : List Int)).length), (17, .int .i64 typ36)]) (M := fun t35 typ36 => [cR encEvent 4 A24 c25 36 r23.1, cR (eI .i64) 1 (some ⟨b28, 0, none⟩) (([1, 1, 1, 1] : List Int)).length 3 t35, cBx b34 30 (encCall x33)]) (I := fun t35 typ36 k29 => iter (alibkeep_HistoryBack_L27 N x33) k29 (t35, typ36) = some o25) t30 1 N (hF25) (.cons rfl (.cons rfl (.nil))) (.cons (i := 2) rfl (.cons (i := 12) rfl (.cons (i := 16) rfl (.cons (i := 65) rfl (.cons (i := 66) rfl (.cons (i := 67) rfl (.nil))))))) (fun w hw => hw.pick [1, 2, 0] rfl) (fun t35 typ36 k29 hI K30 hK30 => ?_)
            obtain ⟨k29, t29, rfl, hF29, hN29⟩ := iter_step hI
            refine W.seq fun K31 hK31 => ?_
            -- region 14: history.go:38
            refine W.seqR fun Q32 hQ32 => ?_
            refine WL.q (Y.move (.pl rfl)) rfl ?_
            refine WL.q (Y.leq (.pl rfl) (.pl rfl)) rfl ?_
            refine WL.next hQ32 (.cons (i := 2) rfl (.cons (i := 12) rfl (.cons (i := 14) rfl (.cons (i := 16) rfl (.cons (i := 17) rfl (.cons (i := 65) rfl (.cons (i := 66) rfl (.cons (i := 67) rfl (.cons (i := 72) rfl (.nil)))))))))) ?_
            refine W.cond (.pl rfl) (fun hC33 => ?_) (fun hC33 => ?_)
            · replace hF29 := cpos hC33 hF29
              refine W.skip ?_
              refine W.go hK31 (.cons (i := 2) rfl (.cons (i := 12) rfl (.cons (i := 14) rfl (.cons (i := 16) rfl (.cons (i := 17) rfl (.cons (i := 65) rfl (.cons (i := 66) rfl (.cons (i := 67) rfl (.nil))))))))) ?_
              refine W.seq fun K34 hK34 => ?_
              refine W.block ?_
              -- region 16: history.go:39
              refine W.seqR fun Q35 hQ35 => ?_
              refine WL.q (Y.fieldAddr0 (off := 1) (ft := 3) Try.underlying30 rfl cells3 (.pl rfl)) rfl ?_
              refine WL.q (Y.loadB (v := .int .i64 x33.thing) Try.underlying3 rfl (.pl rfl) (i := 2) rfl (rfl)) rfl ?_
              refine WL.q (Y.geq (.pl rfl) (.pl rfl)) rfl ?_
              refine WL.q (Y.move (.pl rfl)) rfl ?_
              refine WL.g (.pl rfl rfl rfl) (fun hg => Y.fieldAddr0 (off := 1) (ft := 3) Try.underlying30 rfl cells3 (.pl rfl)) rfl ?_
              refine WL.g (.pl rfl rfl rfl) (fun hg => Y.loadB (v := .int .i64 x33.thing) Try.underlying3 rfl (.gd (hg) rfl) (i := 2) rfl (rfl)) rfl ?_
              refine WL.g (.pl rfl rfl rfl) (fun hg => Y.lss (.gd (hg) rfl) (.pl rfl)) rfl ?_
              refine WL.q (Y.and (.pl rfl) (fun h2 => .gd (eqt h2) rfl)) rfl ?_
              refine WL.q (Y.move (.pl rfl)) rfl ?_
              refine WL.g (.pl rfl rfl rfl) (fun hg => Y.move (.pl rfl)) rfl ?_
              refine WL.g (.pl rfl rfl rfl) (fun hg => Y.fieldAddr0 (off := 2) (ft := 3) Try.underlying30 rfl cells3 (.pl rfl)) rfl ?_
              refine WL.g (.pl rfl rfl rfl) (fun hg => Y.loadB (v := .int .i64 x33.kind) Try.underlying3 rfl (.gd (hg) rfl) (i := 2) rfl (rfl)) rfl ?_
              obtain ⟨r37, hr37, hF29⟩ := bnd hF29
              refine WL.gP (.pl rfl rfl rfl) isGo22 (fun hg => (.cons (.gd (hg) rfl) (.cons (.gd (hg) rfl) (.nil)))) rfl (fun hg w hw => history_Fits_ok (gpos hg hr37) w ) ?_
              refine WL.q (Y.and (.pl rfl) (fun h2 => .gd (eqt h2) rfl)) rfl ?_
              refine WL.next hQ35 (.cons (i := 2) rfl (.cons (i := 12) rfl (.cons (i := 14) rfl (.cons (i := 16) rfl (.cons (i := 17) rfl (.cons (i := 65) rfl (.cons (i := 66) rfl (.cons (i := 67) rfl (.cons (i := 88) rfl (.nil)))))))))) ?_
              refine W.cond (.pl rfl) (fun hC36 => ?_) (fun hC36 => ?_)
              · replace hF29 := cpos hC36 hF29
                -- region 17: history.go:40
                refine W.reg ?_
                refine WL.q (Y.move (.pl rfl)) rfl ?_
                refine WL.q (Y.fieldAddr0 (off := 1) (ft := 3) Try.underlying30 rfl cells3 (.pl rfl)) rfl ?_
                refine WL.q (Y.loadB (v := .int .i64 x33.thing) Try.underlying3 rfl (.pl rfl) (i := 2) rfl (rfl)) rfl ?_
                refine WL.q (Y.move (.pl rfl)) rfl ?_
                obtain ⟨x38, hx38, hF29⟩ := bnd hF29
                refine WL.q (Y.litEl (xs := t35) Try.underlying22 cells3 (.pl rfl) rfl (.pl rfl) (ix_lt (hx38))) rfl ?_
                refine WL.step (WO.storeS (enc := (eI .i64)) (a := x38) (a' := typ36) (idx := x33.thing) (j := 0) cells3 (.pl rfl) (.pl rfl) rfl (fun _ => rfl) (i := 1) rfl (ix_get (hx38)) rfl (by decide) rfl ?_)
                refine WL.nil ?_
                refine W.go hK34 (.cons (i := 2) rfl (.cons (i := 12) rfl (.cons (i := 14) rfl (.cons (i := 16) rfl (.cons (i := 17) rfl (.cons (i := 65) rfl (.cons (i := 66) rfl (.cons (i := 67) rfl (.nil))))))))) ?_
                -- region 15: history.go:38
                refine W.reg ?_
                refine WL.q (Y.move (.pl rfl)) rfl ?_
                obtain ⟨hk39, hF29⟩ := ckh hF29
                refine WL.q (Y.add (.pl rfl) (.pl rfl) (ok64_lt (hk39))) rfl ?_
                refine WL.q (Y.assign (.pl rfl)) rfl ?_
                refine WL.nil ?_
                obtain rfl := Option.some.inj hF29
                exact W.again2 hK30 (t35.set x33.thing.toNat typ36) (typ36 + 1) k29 hN29 (Nat.lt_succ_self _) (.cons (eqSl (by simp)) (.cons rfl (.nil))) (.cons (i := 2) rfl (.cons (i := 12) rfl (.cons (i := 16) rfl (.cons (i := 65) rfl (.cons (i := 66) rfl (.cons (i := 67) rfl (.nil))))))) (fun w hw => hw.pick [0, 1, 2] rfl)
              · replace hF29 := cneg hC36 hF29
                refine W.skip ?_
                refine W.go hK34 (.cons (i := 2) rfl (.cons (i := 12) rfl (.cons (i := 14) rfl (.cons (i := 16) rfl (.cons (i := 17) rfl (.cons (i := 65) rfl (.cons (i := 66) rfl (.cons (i := 67) rfl (.nil))))))))) ?_
                -- region 15: history.go:38
                refine W.reg ?_
                refine WL.q (Y.move (.pl rfl)) rfl ?_
                obtain ⟨hk40, hF29⟩ := ckh hF29
                refine WL.q (Y.add (.pl rfl) (.pl rfl) (ok64_lt (hk40))) rfl ?_
                refine WL.q (Y.assign (.pl rfl)) rfl ?_
                refine WL.nil ?_
                obtain rfl := Option.some.inj hF29
                exact W.again2 hK30 t35 (typ36 + 1) k29 hN29 (Nat.lt_succ_self _) (.cons rfl (.cons rfl (.nil))) (.cons (i := 2) rfl (.cons (i := 12) rfl (.cons (i := 16) rfl (.cons (i := 65) rfl (.cons (i := 66) rfl (.cons (i := 67) rfl (.nil))))))) (fun w hw => hw.pick [0, 1, 2] rfl)
            · replace hF29 := cneg hC33 hF29
              refine W.exit ?_
              obtain rfl := Option.some.inj hF29
              exact W.joinAt1 hK26 t35 (einr hN29) (.cons rfl (.nil)) (.cons (i := 2) rfl (.cons (i := 12) rfl (.cons (i := 65) rfl (.cons (i := 66) rfl (.cons (i := 67) rfl (.nil)))))) (fun w hw => hw.pick [0, 1] rfl)
          · -- behind
            rintro t32 rfl
            -- region 18: history.go:37
            refine W.reg ?_
            obtain ⟨hk41, hF20⟩ := ckh hF20
            refine WL.q (Y.add (.pl rfl) (.pl rfl) (ok64_lt (hk41))) rfl ?_
            refine WL.q (Y.move (.pl rfl)) rfl ?_
            refine WL.nil ?_
            obtain rfl := Option.some.inj hF20
            exact W.again2 hK21 t32 (v31 + 1) k20 hN20 (Nat.lt_succ_self _) (.cons rfl (.cons rfl (.nil))) (.cons (i := 2) rfl (.cons (i := 12) rfl (.cons (i := 65) rfl (.cons (i := 66) rfl (.nil))))) (fun w hw => hw.pick [0, 1] rfl)
        · replace hF20 := cneg hC24 hF20
          refine W.exit ?_
          obtain rfl := Option.some.inj hF20
          exact W.joinAt1 hK18 t30 (einr hN20) (.cons rfl (.nil)) (.cons (i := 2) rfl (.cons (i := 12) rfl (.nil))) (fun w hw => hw.pick [0, 1] rfl)
      · -- behind
        rintro t29 rfl
        -- region 19: history.go:44
        refine W.seqR fun Q41 hQ41 => ?_
        refine WL.q (Y.move (.pl rfl)) rfl ?_
        refine WL.q (Y.move (.pl rfl)) rfl ?_
        obtain ⟨r42, hr42, hF⟩ := bnd hF
        refine WL.step (WO.callM isGo15 (.cons (.pl rfl) (.cons (.pl rfl) (.nil))) rfl (fun w hw => history_Calls_ok (hr42) w (SlIn.ofRow (fun _ => rfl) hw (i := 1) rfl) (SlIn.ofRow lenEvent hw (i := 0) rfl)) ?_)
        rintro ⟨A43, c44⟩ -
        refine WL.q (Y.move (.pl rfl)) rfl ?_
        refine WL.q (Y.extract (.pl rfl) rfl) rfl ?_
        refine WL.q (Y.extract (.pl rfl) rfl) rfl ?_
        refine WL.q (Y.extract (.pl rfl) rfl) rfl ?_
        refine WL.q (Y.assign (.pl rfl)) rfl ?_
        refine WL.q (Y.assign (.pl rfl)) rfl ?_
        refine WL.q (Y.assign (.pl rfl)) rfl ?_
        refine WL.next hQ41 (.cons (i := 2) rfl (.cons (i := 18) rfl (.cons (i := 20) rfl (.nil)))) ?_
        -- region 20: history.go:45
        refine W.seqR fun Q42 hQ42 => ?_
        refine WL.q (Y.move (.pl rfl)) rfl ?_
        refine WL.q (Y.eql (.pl rfl) (.pl rfl)) rfl ?_
        refine WL.q (Y.move (.pl rfl)) rfl ?_
        refine WL.g (.pl rfl rfl rfl) (fun hg => Y.move (.pl rfl)) rfl ?_
        refine WL.g (.pl rfl rfl rfl) (fun hg => Y.move (.pl rfl)) rfl ?_
        obtain ⟨r45, hr45, hF⟩ := bnd hF
        refine WL.gP (.pl rfl rfl rfl) isGo23 (fun hg => (.cons (.gd (hg) rfl) (.cons (.gd (hg) rfl) (.nil)))) rfl (fun hg w hw => slices_Equal_api_Call_api_Call_ok (gpos hg hr45) w (SlIn.ofRow lenCall hw (i := 0) rfl) (hs14.mono hw)) ?_
        refine WL.q (Y.and (.pl rfl) (fun h2 => .gd (eqt h2) rfl)) rfl ?_
        refine WL.q (Y.assign (.pl rfl)) rfl ?_
        refine WL.next hQ42 (.cons (i := 6) rfl (.nil)) ?_
        obtain rfl := Option.some.inj hF
        refine W.retV (fn := Try.f5) (vs := [.bool ((decide (r42.2.2 = 0)) && r45)]) Try.results5 ⟨.tmp rfl, trivial⟩ (fun _ _ h => h) (fun w hw => ?_)
        exact hR _ _ ⟨rfl, (hw.pick [] rfl)⟩

end Go.Proofs.Ytooaoekfnmakhaa
