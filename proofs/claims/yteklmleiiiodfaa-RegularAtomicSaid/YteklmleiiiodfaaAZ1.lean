/- Zones: what their code computes, and the walks. -/
import Derived.Test.YteklmleiiiodfaaAR1
import Derived.Test.YteklmleiiiodfaaSortN
set_option linter.unusedVariables false
set_option linter.unusedSimpArgs false
set_option linter.unusedSectionVars false
set_option maxRecDepth 100000
namespace Go.Proofs.Yteklmleiiiodfaa
open Go.RowKit
structure Bad where
  kind : Int
  a : Int
  b : Int
deriving DecidableEq
def Bad.z : Bad := ⟨0, 0, 0⟩
def encBad (x : Bad) : List Value := (Value.int .i64 x.kind :: (Value.int .i64 x.a :: (Value.int .i64 x.b :: [])))
theorem lenBad (x : Bad) : (encBad x).length = 3 := rfl
theorem eqBad (x y : Bad) : eqCells [true, true, true] (encBad x) (encBad y) = some (decide (x = y)) := by
  cases x; cases y; simp [encBad, eqCells, Bad.mk.injEq, Bool.beq_eq_decide_eq]
theorem oneBad : ∀ x, ∀ v ∈ encBad x, v.oneCell' = true := fun x => (one_cons rfl (one_cons rfl (one_cons rfl one_nil)))
structure Zone where
  value : Int
  first : Int
  last : Int
  forward : Bool
deriving DecidableEq
def Zone.z : Zone := ⟨0, 0, 0, false⟩
def encZone (x : Zone) : List Value := (Value.int .i64 x.value :: (Value.int .i64 x.first :: (Value.int .i64 x.last :: (Value.bool x.forward :: []))))
theorem lenZone (x : Zone) : (encZone x).length = 4 := rfl
theorem eqZone (x y : Zone) : eqCells [true, true, true, false] (encZone x) (encZone y) = some (decide (x = y)) := by
  cases x; cases y; simp [encZone, eqCells, Zone.mk.injEq, Bool.beq_eq_decide_eq]
theorem oneZone : ∀ x, ∀ v ∈ encZone x, v.oneCell' = true := fun x => (one_cons rfl (one_cons rfl (one_cons rfl (one_cons rfl one_nil))))
structure ZonesCluster where
  value : Int
  write : Int
  from_ : Int
  reads : List Int
  zone : Zone
  counts : Bool
deriving DecidableEq
def ZonesCluster.z : ZonesCluster := ⟨0, 0, 0, [], Zone.z, false⟩
def encNZonesCluster (h : Hd) (x : ZonesCluster) : List Value := (Value.int .i64 x.value :: (Value.int .i64 x.write :: (Value.int .i64 x.from_ :: (Value.slice h.1 x.reads.length h.2 :: (encZone x.zone ++ (Value.bool x.counts :: []))))))
def innNZonesCluster (h : Hd) (x : ZonesCluster) : List Chunk := [cR (eI .i64) 1 h.1 h.2 3 x.reads]
theorem lenNZonesCluster (h : Hd) (x : ZonesCluster) : (encNZonesCluster h x).length = 9 := rfl
theorem oneNZonesCluster (h : Hd) (x : ZonesCluster) : ∀ v ∈ encNZonesCluster h x, v.oneCell' = true := (one_cons rfl (one_cons rfl (one_cons rfl (one_cons rfl (one_app (oneZone _) (one_cons rfl one_nil))))))
theorem nilNZonesCluster : ∀ c ∈ innNZonesCluster ((none, 0) : Hd) ZonesCluster.z, c.own = [] ∧ ∀ f, c.ok f := by
  intro c hc
  simp only [innNZonesCluster, List.mem_cons, List.not_mem_nil, or_false] at hc
  subst hc
  exact ⟨rfl, fun f => ⟨by simp [ZonesCluster.z], .inl ⟨rfl, rfl, rfl⟩⟩⟩
theorem cells69 : Try.prog.cellsOf 69 = 2 + 1 := by kernel_rfl
theorem cells225 : Try.prog.cellsOf 225 = 3 + 1 := by kernel_rfl
theorem cells227 : Try.prog.cellsOf 227 = 8 + 1 := by kernel_rfl
theorem isGo81 : IsGo Try.prog 81 := ⟨_, Try.func81, by kernel_rfl, rfl⟩
theorem isGo82 : IsGo Try.prog 82 := ⟨_, Try.func82, by kernel_rfl, rfl⟩
theorem isGo83 : IsGo Try.prog 83 := ⟨_, Try.func83, by kernel_rfl, rfl⟩
theorem isGo84 : IsGo Try.prog 84 := ⟨_, Try.func84, by kernel_rfl, rfl⟩
theorem isGo85 : IsGo Try.prog 85 := ⟨_, Try.func85, by kernel_rfl, rfl⟩
theorem isGo115 : IsGo Try.prog 115 := ⟨_, Try.func115, by kernel_rfl, rfl⟩
theorem isGo118 : IsGo Try.prog 118 := ⟨_, Try.func118, by kernel_rfl, rfl⟩
theorem isGo119 : IsGo Try.prog 119 := ⟨_, Try.func119, by kernel_rfl, rfl⟩
theorem isGo120 : IsGo Try.prog 120 := ⟨_, Try.func120, by kernel_rfl, rfl⟩
theorem zero69 : ∃ i, Try.prog.info? 69 = some i ∧ i.zero = some (Value.agg #[(Value.int .i64 0), (Value.int .i64 0), (Value.int .i64 0)]) := ⟨_, rfl, by kernel_rfl⟩
theorem zero225 : ∃ i, Try.prog.info? 225 = some i ∧ i.zero = some (Value.agg #[(Value.int .i64 0), (Value.int .i64 0), (Value.int .i64 0), (Value.bool false)]) := ⟨_, rfl, by kernel_rfl⟩
theorem zero227 : ∃ i, Try.prog.info? 227 = some i ∧ i.zero = some (Value.agg #[(Value.int .i64 0), (Value.int .i64 0), (Value.int .i64 0), (Value.slice none 0 0), (Value.int .i64 0), (Value.int .i64 0), (Value.int .i64 0), (Value.bool false), (Value.bool false)]) := ⟨_, rfl, by kernel_rfl⟩
theorem bz225 : ∃ i, Try.prog.info? 225 = some i ∧ i.zero = some (Value.agg #[(Value.int .i64 0), (Value.int .i64 0), (Value.int .i64 0), (Value.bool false)]) ∧ i.size = 4 := ⟨_, rfl, by kernel_rfl, by kernel_rfl⟩
theorem bz227 : ∃ i, Try.prog.info? 227 = some i ∧ i.zero = some (Value.agg #[(Value.int .i64 0), (Value.int .i64 0), (Value.int .i64 0), (Value.slice none 0 0), (Value.int .i64 0), (Value.int .i64 0), (Value.int .i64 0), (Value.bool false), (Value.bool false)]) ∧ i.size = 9 := ⟨_, rfl, by kernel_rfl, by kernel_rfl⟩
theorem ap3 : ∃ i z, Try.prog.info? 3 = some i ∧ i.zero = some z ∧ i.size = 1 ∧ i.bytes = 8 ∧ z.cells.size = 1 ∧ 0 < 1 := ⟨_, (Value.int .i64 0), rfl, by kernel_rfl, by kernel_rfl, by kernel_rfl, by kernel_rfl, by decide⟩
theorem ap225 : ∃ i z, Try.prog.info? 225 = some i ∧ i.zero = some z ∧ i.size = 4 ∧ i.bytes = 32 ∧ z.cells.size = 4 ∧ 0 < 4 := ⟨_, (Value.agg #[(Value.int .i64 0), (Value.int .i64 0), (Value.int .i64 0), (Value.bool false)]), rfl, by kernel_rfl, by kernel_rfl, by kernel_rfl, by kernel_rfl, by decide⟩
theorem ap227 : ∃ i z, Try.prog.info? 227 = some i ∧ i.zero = some z ∧ i.size = 9 ∧ i.bytes = 88 ∧ z.cells.size = 9 ∧ 0 < 9 := ⟨_, (Value.agg #[(Value.int .i64 0), (Value.int .i64 0), (Value.int .i64 0), (Value.slice none 0 0), (Value.int .i64 0), (Value.int .i64 0), (Value.int .i64 0), (Value.bool false), (Value.bool false)]), rfl, by kernel_rfl, by kernel_rfl, by kernel_rfl, by kernel_rfl, by decide⟩
theorem shape69 : Shape Try.prog 69 [(0, 1), (1, 1), (2, 1)] #[(Value.int .i64 0), (Value.int .i64 0), (Value.int .i64 0)] := ⟨_, _, Value.agg #[(Value.int .i64 0), (Value.int .i64 0), (Value.int .i64 0)], Try.underlying69, rfl, by kernel_rfl, rfl, by kernel_rfl, by decide⟩
theorem shape225 : Shape Try.prog 225 [(0, 1), (1, 1), (2, 1), (3, 1)] #[(Value.int .i64 0), (Value.int .i64 0), (Value.int .i64 0), (Value.bool false)] := ⟨_, _, Value.agg #[(Value.int .i64 0), (Value.int .i64 0), (Value.int .i64 0), (Value.bool false)], Try.underlying225, rfl, by kernel_rfl, rfl, by kernel_rfl, by decide⟩
theorem shape227 : Shape Try.prog 227 [(0, 1), (1, 1), (2, 1), (3, 1), (4, 4), (8, 1)] #[(Value.int .i64 0), (Value.int .i64 0), (Value.int .i64 0), (Value.slice none 0 0), (Value.int .i64 0), (Value.int .i64 0), (Value.int .i64 0), (Value.bool false), (Value.bool false)] := ⟨_, _, Value.agg #[(Value.int .i64 0), (Value.int .i64 0), (Value.int .i64 0), (Value.slice none 0 0), (Value.int .i64 0), (Value.int .i64 0), (Value.int .i64 0), (Value.bool false), (Value.bool false)], Try.underlying227, rfl, by kernel_rfl, rfl, by kernel_rfl, by decide⟩
def zones_calls_L3 (N : Nat) (r7 : ((List Call) × Int × Int)) : ((List (Int × Bool)) × Int) → Option (((List (Int × Bool)) × Int) ⊕ (Unit ⊕ ((List Call) × Int)))
  | (seen11, v12) =>
    cond (decide (v12 < ((r7.1).length : Int)))
      (bd (ix r7.1 v12) fun (x13 : Call) =>
      cond (decide (x13.kind = 1))
        (cond ((mget seen11 x13.arg).getD false)
          (some (.inr (.inr ([], 6))))
          (ck (ok64 (v12 + 1)) <|
          some (.inl ((mput seen11 x13.arg true), (v12 + 1)))))
        (ck (ok64 (v12 + 1)) <|
        some (.inl (seen11, (v12 + 1)))))
      (some (.inr (.inl ())))

def zones_calls (N : Nat) (l1 : (List Event)) : Option ((List Call) × Int) :=
  bd (history_Calls N ([1] : List Int) l1) fun (r7 : ((List Call) × Int × Int)) =>
  cond (!(decide (r7.2.2 = 0)))
    (some ([], r7.2.2))
    (bd (α := (Unit ⊕ ((List Call) × Int))) (iter (zones_calls_L3 N r7) N (([] : List (Int × Bool)), 0)) <|
    Sum.elim (fun _ => 
      some (r7.1, 0)) (fun p => some p))

theorem zones_calls_ok {N : Nat} {l1 : (List Event)} {res : ((List Call) × Int)} (hF : zones_calls N l1 = some res) (w : World) {v5 : Value} (hs4 : SlIn encEvent 4 w v5 l1) :
    Made Try.prog 81 [v5] w (fun g : (Option Addr × Nat) => .tuple #[.slice g.1 (res.1).length g.2, .int .i64 res.2]) (fun g => [cR encCall 7 g.1 g.2 51 res.1]) (fun g => True) := by
  obtain ⟨A2, c3, rfl, hcc3, hs4⟩ := hs4.form
  refine W.enter (n := 39) Try.func81 rfl rfl Sub.refl (by simp) (St.start w) fun R hR => ?_
  unfold zones_calls at hF
  refine W.seqR fun Q1 hQ1 => ?_
  refine WL.q (Y.assign (.pl rfl)) rfl ?_
  refine WL.q (Y.assign (.pl rfl)) rfl ?_
  refine WL.next hQ1 (.cons (i := 0) rfl (.nil)) ?_
  refine W.seqR fun Q2 hQ2 => ?_
  refine WL.step (WO.bsliceC (enc := (eI .i64)) (ys := ([1] : List Int)) Try.underlying47 bz3 (.cons (.pl rfl) (.nil)) rfl (fun _ => rfl) rfl rfl (by decide) (by decide) rfl fun b6 => ?_)
  refine WL.q (Y.move (.pl rfl)) rfl ?_
  obtain ⟨r7, hr7, hF⟩ := bnd hF
  refine WL.step (WO.callM isGo27 (.cons (.pl rfl) (.cons (.pl rfl) (.nil))) rfl (fun wz hw => history_Calls_ok (hr7) wz (SlIn.ofRow (fun _ => rfl) hw (i := 0) rfl) (hs4.mono hw)) ?_)
  rintro ⟨A8, c9⟩ -
  refine WL.q (Y.move (.pl rfl)) rfl ?_
  refine WL.q (Y.extract (.pl rfl) rfl) rfl ?_
  refine WL.q (Y.extract (.pl rfl) rfl) rfl ?_
  refine WL.q (Y.extract (.pl rfl) rfl) rfl ?_
  refine WL.q (Y.assign (.pl rfl)) rfl ?_
  refine WL.q (Y.assign (.pl rfl)) rfl ?_
  refine WL.q (Y.assign (.pl rfl)) rfl ?_
  refine WL.next hQ2 (.cons (i := 4) rfl (.cons (i := 6) rfl (.nil))) ?_
  refine W.seq fun K3 hK3 => ?_
  refine W.seqR fun Q4 hQ4 => ?_
  refine WL.q (Y.move (.pl rfl)) rfl ?_
  refine WL.q (Y.neq (.pl rfl) (.pl rfl)) rfl ?_
  refine WL.next hQ4 (.cons (i := 4) rfl (.cons (i := 6) rfl (.cons (i := 18) rfl (.nil)))) ?_
  refine W.cond (.pl rfl) (fun hC5 => ?_) (fun hC5 => ?_)
  · replace hF := cpos hC5 hF
    refine W.seqR fun Q6 hQ6 => ?_
    refine WL.q (Y.move (.pl rfl)) rfl ?_
    refine WL.q (Y.assign (.pl rfl)) rfl ?_
    refine WL.q (Y.assign (.pl rfl)) rfl ?_
    refine WL.next hQ6 (.cons (i := 2) rfl (.cons (i := 3) rfl (.nil))) ?_
    obtain rfl := Option.some.inj hF
    refine W.retV (fn := Try.f81) (vs := [.slice none 0 0, .int .i64 r7.2.2]) Try.results81 ⟨.tmp rfl, ⟨.tmp rfl, trivial⟩⟩ (fun _ _ h => h) (fun wz hw => ?_)
    exact hR _ _ ⟨(none, 0), trivial, rfl, ((St.nilR (hw.pick [] rfl) encCall 7 51).pick [0] rfl)⟩
  · replace hF := cneg hC5 hF
    refine W.skip ?_
    refine W.go hK3 (.cons (i := 4) rfl (.nil)) ?_
    refine W.seqR fun Q7 hQ7 => ?_
    refine WL.step (WO.mmake Value.bool rfl fun b10 => ?_)
    refine WL.q (Y.assign (.pl rfl)) rfl ?_
    refine WL.next hQ7 (.cons (i := 4) rfl (.cons (i := 7) rfl (.nil))) ?_
    obtain ⟨o8, hF8, hF⟩ := bnd hF
    refine W.join0 (Em := []) (M := [cR encCall 7 A8 c9 51 r7.1]) (I := (.inl ()) = o8) (.cons (i := 4) rfl (.nil)) (fun K9 hK9 => ?_) ?_
    · -- up to
      refine W.seqR fun Q10 hQ10 => ?_
      refine WL.q (Y.move (.pl rfl)) rfl ?_
      refine WL.q (Y.len Try.underlying44 (.pl rfl)) rfl ?_
      refine WL.q (Y.move (.pl rfl)) rfl ?_
      refine WL.next hQ10 (.cons (i := 4) rfl (.cons (i := 7) rfl (.cons (i := 21) rfl (.cons (i := 22) rfl (.cons (i := 23) rfl (.nil)))))) ?_
      refine W.block ?_
      refine W.loop2 (Em := fun (seen11 : (List (Int × Bool))) (v12 : Int) => [(23, .int .i64 v12)]) (M := fun seen11 v12 => [cR encCall 7 A8 c9 51 r7.1, cM Value.bool (some b10) seen11]) (I := fun seen11 v12 k11 => iter (zones_calls_L3 N r7) k11 (seen11, v12) = some o8) ([] : List (Int × Bool)) 0 N (hF8) (.cons rfl (.nil)) (.cons (i := 4) rfl (.cons (i := 7) rfl (.cons (i := 21) rfl (.cons (i := 22) rfl (.nil))))) (fun wz hw => hw.pick [1, 0] rfl) (fun seen11 v12 k11 hI K12 hK12 => ?_)
      obtain ⟨k11, t11, rfl, hF11, hN11⟩ := iter_step hI
      refine W.seqR fun Q13 hQ13 => ?_
      refine WL.q (Y.lss (.pl rfl) (.pl rfl)) rfl ?_
      refine WL.next hQ13 (.cons (i := 4) rfl (.cons (i := 7) rfl (.cons (i := 21) rfl (.cons (i := 22) rfl (.cons (i := 23) rfl (.cons (i := 24) rfl (.nil))))))) ?_
      refine W.seq fun K14 hK14 => ?_
      refine W.cond (.pl rfl) (fun hC15 => ?_) (fun hC15 => ?_)
      · replace hF11 := cpos hC15 hF11
        refine W.skip ?_
        refine W.go hK14 (.cons (i := 4) rfl (.cons (i := 7) rfl (.cons (i := 21) rfl (.cons (i := 22) rfl (.cons (i := 23) rfl (.nil)))))) ?_
        refine W.seq fun K16 hK16 => ?_
        refine W.block ?_
        refine W.seqR fun Q17 hQ17 => ?_
        obtain ⟨x13, hx13, hF11⟩ := bnd hF11
        refine WL.q (Y.rowEl Try.underlying44 cells51 (i := 0) rfl (.pl rfl) rfl (.pl rfl) (ix_lt (hx13))) rfl ?_
        refine WL.q (Y.loadRA (enc := encCall) (ds := (encCall x13)) (a := x13) (idx := v12) (j := 0) Try.underlying51 rfl cells51 lenCall (i := 0) rfl (.pl rfl) (ix_get (hx13)) rfl rfl subW) rfl ?_
        refine WL.step (WO.alloc (cs := (encCall (Call.mk 0 0 0 0 0 0 0)).toArray) zero51 rfl rfl fun b14 => ?_)
        refine WL.step (WO.storeBA (ds := (encCall x13)) (cs' := (encCall x13)) cells51 (.pl rfl) (.pl rfl) rfl (oneCall _) (i := 0) rfl (lel (o := 0) (l := 7) (m := 7) (by decide) rfl rfl) (putW rfl) ?_)
        refine WL.next hQ17 (.cons (i := 4) rfl (.cons (i := 7) rfl (.cons (i := 9) rfl (.cons (i := 21) rfl (.cons (i := 22) rfl (.cons (i := 23) rfl (.nil))))))) ?_
        refine W.seqR fun Q18 hQ18 => ?_
        refine WL.q (Y.fieldAddr0 (off := 2) (ft := 3) Try.underlying51 rfl cells3 (.pl rfl)) rfl ?_
        refine WL.q (Y.loadB (v := .int .i64 x13.kind) Try.underlying3 rfl (.pl rfl) (i := 0) rfl (rfl)) rfl ?_
        refine WL.q (Y.eql (.pl rfl) (.pl rfl)) rfl ?_
        refine WL.next hQ18 (.cons (i := 4) rfl (.cons (i := 7) rfl (.cons (i := 9) rfl (.cons (i := 21) rfl (.cons (i := 22) rfl (.cons (i := 23) rfl (.cons (i := 29) rfl (.nil)))))))) ?_
        refine W.cond (.pl rfl) (fun hC19 => ?_) (fun hC19 => ?_)
        · replace hF11 := cpos hC19 hF11
          refine W.seq fun K20 hK20 => ?_
          refine W.seqR fun Q21 hQ21 => ?_
          refine WL.q (Y.move (.pl rfl)) rfl ?_
          refine WL.q (Y.fieldAddr0 (off := 3) (ft := 3) Try.underlying51 rfl cells3 (.pl rfl)) rfl ?_
          refine WL.q (Y.loadB (v := .int .i64 x13.arg) Try.underlying3 rfl (.pl rfl) (i := 0) rfl (rfl)) rfl ?_
          refine WL.q (Y.mget (f := Value.bool) (dv := false) Try.underlying189 Try.underlying3 zero4 (.pl rfl) (.pl rfl) (i := 2) rfl) rfl ?_
          refine WL.next hQ21 (.cons (i := 4) rfl (.cons (i := 7) rfl (.cons (i := 9) rfl (.cons (i := 21) rfl (.cons (i := 22) rfl (.cons (i := 23) rfl (.cons (i := 33) rfl (.nil)))))))) ?_
          refine W.cond (.pl rfl) (fun hC22 => ?_) (fun hC22 => ?_)
          · replace hF11 := cpos hC22 hF11
            refine W.seqR fun Q23 hQ23 => ?_
            refine WL.q (Y.assign (.pl rfl)) rfl ?_
            refine WL.q (Y.assign (.pl rfl)) rfl ?_
            refine WL.next hQ23 (.cons (i := 2) rfl (.cons (i := 3) rfl (.nil))) ?_
            obtain rfl := Option.some.inj hF11
            obtain rfl := einr hN11
            obtain rfl := Option.some.inj hF
            refine W.retV (fn := Try.f81) (vs := [.slice none 0 0, .int .i64 6]) Try.results81 ⟨.tmp rfl, ⟨.tmp rfl, trivial⟩⟩ (fun _ _ h => h) (fun wz hw => ?_)
            exact hR _ _ ⟨(none, 0), trivial, rfl, ((St.nilR (hw.pick [] rfl) encCall 7 51).pick [0] rfl)⟩
          · replace hF11 := cneg hC22 hF11
            refine W.skip ?_
            refine W.go hK20 (.cons (i := 4) rfl (.cons (i := 7) rfl (.cons (i := 9) rfl (.cons (i := 21) rfl (.cons (i := 22) rfl (.cons (i := 23) rfl (.nil))))))) ?_
            refine W.reg ?_
            refine WL.q (Y.move (.pl rfl)) rfl ?_
            refine WL.q (Y.fieldAddr0 (off := 3) (ft := 3) Try.underlying51 rfl cells3 (.pl rfl)) rfl ?_
            refine WL.q (Y.loadB (v := .int .i64 x13.arg) Try.underlying3 rfl (.pl rfl) (i := 0) rfl (rfl)) rfl ?_
            refine WL.step (WO.mset (f := Value.bool) (a := true) Try.underlying189 Try.underlying3 (.pl rfl) (.pl rfl) (.pl rfl) (i := 2) rfl ?_)
            refine WL.nil ?_
            refine W.go hK16 (.cons (i := 4) rfl (.cons (i := 7) rfl (.cons (i := 21) rfl (.cons (i := 22) rfl (.cons (i := 23) rfl (.nil)))))) ?_
            refine W.reg ?_
            obtain ⟨hk15, hF11⟩ := ckh hF11
            refine WL.q (Y.add (.pl rfl) (.pl rfl) (ok64_lt (hk15))) rfl ?_
            refine WL.q (Y.move (.pl rfl)) rfl ?_
            refine WL.nil ?_
            obtain rfl := Option.some.inj hF11
            exact W.again2 hK12 (mput seen11 x13.arg true) (v12 + 1) k11 hN11 (Nat.lt_succ_self _) (.cons rfl (.nil)) (.cons (i := 4) rfl (.cons (i := 7) rfl (.cons (i := 21) rfl (.cons (i := 22) rfl (.nil))))) (fun wz hw => hw.pick [1, 2] rfl)
        · replace hF11 := cneg hC19 hF11
          refine W.skip ?_
          refine W.go hK16 (.cons (i := 4) rfl (.cons (i := 7) rfl (.cons (i := 21) rfl (.cons (i := 22) rfl (.cons (i := 23) rfl (.nil)))))) ?_
          refine W.reg ?_
          obtain ⟨hk16, hF11⟩ := ckh hF11
          refine WL.q (Y.add (.pl rfl) (.pl rfl) (ok64_lt (hk16))) rfl ?_
          refine WL.q (Y.move (.pl rfl)) rfl ?_
          refine WL.nil ?_
          obtain rfl := Option.some.inj hF11
          exact W.again2 hK12 seen11 (v12 + 1) k11 hN11 (Nat.lt_succ_self _) (.cons rfl (.nil)) (.cons (i := 4) rfl (.cons (i := 7) rfl (.cons (i := 21) rfl (.cons (i := 22) rfl (.nil))))) (fun wz hw => hw.pick [1, 2] rfl)
      · replace hF11 := cneg hC15 hF11
        refine W.exit ?_
        obtain rfl := Option.some.inj hF11
        exact W.joinAt0 hK9  (einr hN11) (.nil) (.cons (i := 4) rfl (.nil)) (fun wz hw => hw.pick [0] rfl)
    · -- behind
      rintro  rfl
      refine W.seqR fun Q27 hQ27 => ?_
      refine WL.q (Y.move (.pl rfl)) rfl ?_
      refine WL.q (Y.assign (.pl rfl)) rfl ?_
      refine WL.q (Y.assign (.pl rfl)) rfl ?_
      refine WL.next hQ27 (.cons (i := 2) rfl (.cons (i := 3) rfl (.nil))) ?_
      obtain rfl := Option.some.inj hF
      refine W.retV (fn := Try.f81) (vs := [.slice A8 (r7.1).length c9, .int .i64 0]) Try.results81 ⟨.tmp rfl, ⟨.tmp rfl, trivial⟩⟩ (fun _ _ h => h) (fun wz hw => ?_)
      exact hR _ _ ⟨(A8, c9), trivial, rfl, (hw.pick [0] rfl)⟩

def ren115 : Go.Shelf.Ren := ⟨fun x => match x with | 6 => 115 | 14 => 141 | 15 => 137 | 20 => 155 | 21 => 156 | 22 => 157 | 23 => 158 | 24 => 159 | 25 => 160 | 26 => 161 | 27 => 162 | 28 => 153 | 29 => 154 | 46 => 168 | 47 => 164 | 48 => 165 | 49 => 169 | 50 => 170 | 57 => 172 | n => n, fun x => match x with | 0 => 0 | 3 => 3 | 4 => 4 | 5 => 5 | 9 => 9 | 22 => 162 | 24 => 227 | 25 => 231 | 39 => 179 | 45 => 260 | 46 => 261 | 50 => 265 | 53 => 268 | 55 => 270 | 66 => 277 | 70 => 281 | 76 => 285 | 77 => 286 | n => n, fun x => x⟩
theorem lays115 : SlLaysF0.n6 Try.prog ren115 where
  mixed := by kernel_rfl
  f6 := ⟨Try.f115.name, by kernel_rfl, Try.func115.trans (congrArg some (by kernel_rfl))⟩
  f14 := ⟨Try.f141.name, by kernel_rfl, Try.func141.trans (congrArg some (by kernel_rfl))⟩
  f15 := Try.func137.trans (congrArg some (by kernel_rfl))
  f20 := ⟨Try.f155.name, by kernel_rfl, Try.func155.trans (congrArg some (by kernel_rfl))⟩
  f21 := ⟨Try.f156.name, by kernel_rfl, Try.func156.trans (congrArg some (by kernel_rfl))⟩
  f22 := ⟨Try.f157.name, by kernel_rfl, Try.func157.trans (congrArg some (by kernel_rfl))⟩
  f23 := ⟨Try.f158.name, by kernel_rfl, Try.func158.trans (congrArg some (by kernel_rfl))⟩
  f24 := ⟨Try.f159.name, by kernel_rfl, Try.func159.trans (congrArg some (by kernel_rfl))⟩
  f25 := ⟨Try.f160.name, by kernel_rfl, Try.func160.trans (congrArg some (by kernel_rfl))⟩
  f26 := ⟨Try.f161.name, by kernel_rfl, Try.func161.trans (congrArg some (by kernel_rfl))⟩
  f27 := ⟨Try.f162.name, by kernel_rfl, Try.func162.trans (congrArg some (by kernel_rfl))⟩
  f28 := Try.func153.trans (congrArg some (by kernel_rfl))
  f29 := Try.func154.trans (congrArg some (by kernel_rfl))
  f46 := ⟨Try.f168.name, by kernel_rfl, Try.func168.trans (congrArg some (by kernel_rfl))⟩
  f47 := Try.func164.trans (congrArg some (by kernel_rfl))
  f48 := Try.func165.trans (congrArg some (by kernel_rfl))
  f49 := ⟨Try.f169.name, by kernel_rfl, Try.func169.trans (congrArg some (by kernel_rfl))⟩
  f50 := ⟨Try.f170.name, by kernel_rfl, Try.func170.trans (congrArg some (by kernel_rfl))⟩
  f57 := ⟨Try.f172.name, by kernel_rfl, Try.func172.trans (congrArg some (by kernel_rfl))⟩
  t0 := Try.underlying0
  a0 := Try.isAgg0
  z0 := Try.sizeOf0
  v0 := Try.zeroValue0
  t3 := Try.underlying3
  a3 := Try.isAgg3
  z3 := Try.sizeOf3
  v3 := Try.zeroValue3
  t4 := Try.underlying4
  a4 := Try.isAgg4
  z4 := Try.sizeOf4
  v4 := Try.zeroValue4
  t5 := Try.underlying5
  a5 := Try.isAgg5
  z5 := Try.sizeOf5
  v5 := Try.zeroValue5
  t9 := Try.underlying9
  a9 := Try.isAgg9
  z9 := Try.sizeOf9
  v9 := Try.zeroValue9
  t22 := Try.underlying162
  a22 := Try.isAgg162
  z22 := Try.sizeOf162
  v22 := Try.zeroValue162
  t25 := Try.underlying231
  a25 := Try.isAgg231
  z25 := Try.sizeOf231
  v25 := Try.zeroValue231
  t39 := Try.underlying179
  a39 := Try.isAgg179
  z39 := Try.sizeOf179
  v39 := Try.zeroValue179
  t45 := Try.underlying260
  a45 := Try.isAgg260
  z45 := Try.sizeOf260
  v45 := Try.zeroValue260
  t46 := Try.underlying261
  a46 := Try.isAgg261
  z46 := Try.sizeOf261
  v46 := Try.zeroValue261
  t50 := Try.underlying265
  a50 := Try.isAgg265
  z50 := Try.sizeOf265
  v50 := Try.zeroValue265
  t53 := Try.underlying268
  a53 := Try.isAgg268
  z53 := Try.sizeOf268
  v53 := Try.zeroValue268
  t55 := Try.underlying270
  a55 := Try.isAgg270
  z55 := Try.sizeOf270
  v55 := Try.zeroValue270
  t66 := Try.underlying277
  a66 := Try.isAgg277
  z66 := Try.sizeOf277
  v66 := Try.zeroValue277
  t70 := Try.underlying281
  a70 := Try.isAgg281
  z70 := Try.sizeOf281
  v70 := Try.zeroValue281
  t76 := Try.underlying285
  a76 := Try.isAgg285
  z76 := Try.sizeOf285
  v76 := Try.zeroValue285
  t77 := Try.underlying286
  a77 := Try.isAgg286
  z77 := Try.sizeOf286
  v77 := Try.zeroValue286
theorem cmpNaN (x : Int) (w : World) : Calls Try.prog 142 #[.int .i64 x] w fun e w' => e = .returned (.bool false) ∧ w' = w := by
  go_enter Try.func142, Try.ntmps142
  go_wp2
  go_ret
  exact ⟨by simp, rfl⟩
theorem cmpInt (x y : Int) (w : World) : Calls Try.prog 117 #[.int .i64 x, .int .i64 y] w fun e w' => e = .returned (.int .i64 (Go.Lib.compareInt x y)) ∧ w' = w := by
  go_enter Try.func117, Try.ntmps117
  go_wp2_with (go_at_call 142; refine (cmpNaN _ _).mono ?_; rintro e w' ⟨rfl, hw⟩; rw [hw])
  all_goals (go_ret; refine ⟨?_, rfl⟩; unfold Go.Lib.compareInt; (repeat' split) <;> first | rfl | (exfalso; omega))
theorem cmp_lt (x y : Int) : Go.Lib.compareInt x y < 0 ↔ x < y := by
  unfold Go.Lib.compareInt
  split
  · omega
  · split <;> omega
def sort115S : ZonesCluster → Bool := fun x => true
instance : Inhabited (SubT sort115S) := ⟨⟨ZonesCluster.z, rfl⟩⟩
abbrev sort115C : ZonesCluster → ZonesCluster → Int := fun a b => Go.Lib.compareInt a.value b.value
theorem sort115_swo : Go.Sort.SWO (ltOf fun a b : SubT sort115S => sort115C a.1 b.1) := by
  refine ⟨fun x => ?_, fun x y z h1 h2 => ?_, fun x y z h1 h2 => ?_⟩
  · exact decide_eq_false (by rw [cmp_lt]; omega)
  · have h1 : x.1.value < y.1.value := (cmp_lt _ _).1 (of_decide_eq_true h1)
    have h2 : y.1.value < z.1.value := (cmp_lt _ _).1 (of_decide_eq_true h2)
    exact decide_eq_true ((cmp_lt x.1.value z.1.value).2 (by omega))
  · have h1 : ¬ x.1.value < y.1.value := fun h => (of_decide_eq_false h1) ((cmp_lt _ _).2 h)
    have h2 : ¬ y.1.value < z.1.value := fun h => (of_decide_eq_false h2) ((cmp_lt _ _).2 h)
    exact decide_eq_false (fun h => by have h : x.1.value < z.1.value := (cmp_lt _ _).1 h; omega)
theorem sort115_cmp (h h' : Hd) (x y : ZonesCluster) (hx : sort115S x = true) (hy : sort115S y = true) (W : World) : Calls Try.prog 116 #[.agg (encNZonesCluster h x).toArray, .agg (encNZonesCluster h' y).toArray] W fun e w' => e = .returned (.int .i64 (sort115C x y)) ∧ ∃ q os', w' = Go.Sort.grow (W.drewN q) os' := by
  obtain ⟨a1, a2, a3, a4, ⟨a5, a6, a7, a8⟩, a9⟩ := x
  obtain ⟨b1, b2, b3, b4, ⟨b5, b6, b7, b8⟩, b9⟩ := y
  have hcon := fun W' => cmpInt a1 b1 W'
  show Calls Try.prog 116 #[.agg #[.int .i64 a1, .int .i64 a2, .int .i64 a3, .slice h.1 a4.length h.2, .int .i64 a5, .int .i64 a6, .int .i64 a7, .bool a8, .bool a9], .agg #[.int .i64 b1, .int .i64 b2, .int .i64 b3, .slice h'.1 b4.length h'.2, .int .i64 b5, .int .i64 b6, .int .i64 b7, .bool b8, .bool b9]] W fun e w' => e = .returned (.int .i64 (Go.Lib.compareInt a1 b1)) ∧ ∃ q os', w' = Go.Sort.grow (W.drewN q) os'
  generalize Go.Lib.compareInt a1 b1 = r at hcon ⊢
  go_enter Try.func116, Try.ntmps116
  go_wp2_with (go_at_call 117; refine (hcon _).mono ?_; rintro e w' ⟨rfl, rfl⟩)
  go_ret
  exact ⟨rfl, 0, _, by rw [Go.Sort.alloc_eq_grow, Go.Sort.alloc_eq_grow, Go.Sort.grow_grow]; rfl⟩
def sort115 (N : Nat) (xs : List ZonesCluster) : Option (List ZonesCluster) := sortNO sort115S sort115C xs
theorem sort115_ok {N : Nat} {sI1 : (List ZonesCluster)} {AI4 : Option Addr} {cI5 : Nat} {hI6 : List Hd} {res : (List ZonesCluster)} (hF : sort115 N sI1 = some res) {w0 w : World} {T : List Chunk} (hw : St w0.heap.size w0 ([cN encNZonesCluster innNZonesCluster 9 AI4 cI5 227 hI6 sI1] ++ T) w) :
    Calls Try.prog 115 (List.toArray [.slice AI4 (sI1).length cI5, .func (.func 116) #[] #[]]) w (fun e w' => ∃ g : List Hd, ((res).length = (sI1).length) ∧ e = .returned (.tuple #[]) ∧ St w0.heap.size w0 ([cN encNZonesCluster innNZonesCluster 9 AI4 cI5 227 g res] ++ T) w') :=
  sortN_calls lays115 Try.isAgg227 Try.sizeOf227 lenNZonesCluster oneNZonesCluster sort115_swo (enters_of Try.func116 (by kernel_rfl) rfl) sort115_cmp hF hw

def zones_clusters_L29 (N : Nat) (c1 : (List Call)) : ((List ZonesCluster) × Int) → Option (((List ZonesCluster) × Int) ⊕ (List ZonesCluster))
  | (out13, v15) =>
    cond (decide (v15 < ((c1).length : Int)))
      (bd (ix c1 v15) fun (x16 : Call) =>
      cond (!(decide (x16.kind = 1)))
        (ck (ok64 (v15 + 1)) <|
        some (.inl (out13, (v15 + 1))))
        (cond (decide (x16.to_ = (-1)))
          (ck (limB 88 ((out13).length + (([(ZonesCluster.mk x16.arg v15 x16.from_ [] (Zone.mk x16.arg 200 x16.from_ false) (!(decide (x16.to_ = (-1)))))] : List ZonesCluster)).length)) <|
          ck (ok64 (v15 + 1)) <|
          some (.inl ((out13 ++ ([(ZonesCluster.mk x16.arg v15 x16.from_ [] (Zone.mk x16.arg 200 x16.from_ false) (!(decide (x16.to_ = (-1)))))] : List ZonesCluster)), (v15 + 1))))
          (ck (limB 88 ((out13).length + (([(ZonesCluster.mk x16.arg v15 x16.from_ [] (Zone.mk x16.arg x16.to_ x16.from_ false) (!(decide (x16.to_ = (-1)))))] : List ZonesCluster)).length)) <|
          ck (ok64 (v15 + 1)) <|
          some (.inl ((out13 ++ ([(ZonesCluster.mk x16.arg v15 x16.from_ [] (Zone.mk x16.arg x16.to_ x16.from_ false) (!(decide (x16.to_ = (-1)))))] : List ZonesCluster)), (v15 + 1))))))
      (some (.inr out13))

def zones_clusters_L55 (N : Nat) (c1 : (List Call)) (v34 : Int) : ((List ZonesCluster) × Int) → Option (((List ZonesCluster) × Int) ⊕ (List ZonesCluster))
  | (out40, v42) =>
    cond (decide (v42 < ((c1).length : Int)))
      (bd (ix c1 v42) fun (x43 : Call) =>
      bd ((cond (((decide (x43.kind = 2)) && (!(decide (x43.to_ = (-1))))) == true) (ix out40 v34) (some ZonesCluster.z))) fun (x45 : ZonesCluster) =>
      cond (((decide (x43.kind = 2)) && (!(decide (x43.to_ = (-1))))) && (decide (x43.res = x45.value)))
        (bd (ix out40 v34) fun (x46 : ZonesCluster) =>
        ck (limB 8 ((x46.reads).length + (([v42] : List Int)).length)) <|
        bd (ix out40 v34) fun (x51 : ZonesCluster) =>
        bd (ix (out40.set v34.toNat (ZonesCluster.mk x51.value x51.write x51.from_ (x46.reads ++ ([v42] : List Int)) x51.zone x51.counts)) v34) fun (x52 : ZonesCluster) =>
        bd (ix ((out40.set v34.toNat (ZonesCluster.mk x51.value x51.write x51.from_ (x46.reads ++ ([v42] : List Int)) x51.zone x51.counts)).set v34.toNat (ZonesCluster.mk x51.value x51.write x51.from_ (x46.reads ++ ([v42] : List Int)) x51.zone true)) v34) fun (x53 : ZonesCluster) =>
        bd (ix ((out40.set v34.toNat (ZonesCluster.mk x51.value x51.write x51.from_ (x46.reads ++ ([v42] : List Int)) x51.zone x51.counts)).set v34.toNat (ZonesCluster.mk x51.value x51.write x51.from_ (x46.reads ++ ([v42] : List Int)) x51.zone true)) v34) fun (x54 : ZonesCluster) =>
        bd (ix ((out40.set v34.toNat (ZonesCluster.mk x51.value x51.write x51.from_ (x46.reads ++ ([v42] : List Int)) x51.zone x51.counts)).set v34.toNat (ZonesCluster.mk x51.value x51.write x51.from_ (x46.reads ++ ([v42] : List Int)) x51.zone true)) v34) fun (x55 : ZonesCluster) =>
        bd (ix (((out40.set v34.toNat (ZonesCluster.mk x51.value x51.write x51.from_ (x46.reads ++ ([v42] : List Int)) x51.zone x51.counts)).set v34.toNat (ZonesCluster.mk x51.value x51.write x51.from_ (x46.reads ++ ([v42] : List Int)) x51.zone true)).set v34.toNat (ZonesCluster.mk x51.value x51.write x51.from_ (x46.reads ++ ([v42] : List Int)) (Zone.mk x51.zone.value (min x51.zone.first x43.to_) x51.zone.last x51.zone.forward) true)) v34) fun (x56 : ZonesCluster) =>
        ck (ok64 (v42 + 1)) <|
        some (.inl (((((out40.set v34.toNat (ZonesCluster.mk x51.value x51.write x51.from_ (x46.reads ++ ([v42] : List Int)) x51.zone x51.counts)).set v34.toNat (ZonesCluster.mk x51.value x51.write x51.from_ (x46.reads ++ ([v42] : List Int)) x51.zone true)).set v34.toNat (ZonesCluster.mk x51.value x51.write x51.from_ (x46.reads ++ ([v42] : List Int)) (Zone.mk x51.zone.value (min x51.zone.first x43.to_) x51.zone.last x51.zone.forward) true)).set v34.toNat (ZonesCluster.mk x51.value x51.write x51.from_ (x46.reads ++ ([v42] : List Int)) (Zone.mk x51.zone.value (min x51.zone.first x43.to_) (max x51.zone.last x43.from_) x51.zone.forward) true)), (v42 + 1))))
        (ck (ok64 (v42 + 1)) <|
        some (.inl (out40, (v42 + 1)))))
      (some (.inr out40))

def zones_clusters_L51 (N : Nat) (out9 : (List ZonesCluster)) (c1 : (List Call)) : ((List ZonesCluster) × Int) → Option (((List ZonesCluster) × Int) ⊕ (List ZonesCluster))
  | (out32, v34) =>
    cond (decide (v34 < ((out9).length : Int)))
      (bd (α := (List ZonesCluster)) (bd (ix out32 v34) fun (x37 : ZonesCluster) =>
        bd (α := (List ZonesCluster)) (iter (zones_clusters_L55 N c1 v34) N (out32, 0)) <|
        fun (out38 : (List ZonesCluster)) => 
          bd (ix out38 v34) fun (x60 : ZonesCluster) =>
          bd (ix out38 v34) fun (x61 : ZonesCluster) =>
          bd (ix out38 v34) fun (x62 : ZonesCluster) =>
          some (out38.set v34.toNat (ZonesCluster.mk x62.value x62.write x62.from_ x62.reads (Zone.mk x62.zone.value x62.zone.first x62.zone.last (decide (x60.zone.first < x61.zone.last))) x62.counts))) <|
      fun (out35 : (List ZonesCluster)) => 
        ck (ok64 (v34 + 1)) <|
        some (.inl (out35, (v34 + 1))))
      (some (.inr out32))

def zones_clusters (N : Nat) (c1 : (List Call)) : Option (List ZonesCluster) :=
  bd (α := (List ZonesCluster)) (iter (zones_clusters_L29 N c1) N (([(ZonesCluster.mk 0 (-1) (-1) [] (Zone.mk 0 (-1) (-1) false) false)] : List ZonesCluster), 0)) <|
  fun (out9 : (List ZonesCluster)) => 
    bd (α := (List ZonesCluster)) (iter (zones_clusters_L51 N out9 c1) N (out9, 0)) <|
    fun (out30 : (List ZonesCluster)) => 
      bd (sort115 N out30) fun (r64 : (List ZonesCluster)) =>
      some r64

theorem zones_clusters_ok {N : Nat} {c1 : (List Call)} {res : (List ZonesCluster)} (hF : zones_clusters N c1 = some res) (w : World) {v5 : Value} (hs4 : SlIn encCall 7 w v5 c1) :
    Made Try.prog 82 [v5] w (fun g : (Option Addr × Nat × List Hd) => .slice g.1 (res).length g.2.1) (fun g => [cN encNZonesCluster innNZonesCluster 9 g.1 g.2.1 227 g.2.2 res]) (fun g => True) := by
  obtain ⟨A2, c3, rfl, hcc3, hs4⟩ := hs4.form
  refine W.enter (n := 140) Try.func82 rfl rfl Sub.refl (by simp) (St.start w) fun R hR => ?_
  unfold zones_clusters at hF
  refine W.seqR fun Q1 hQ1 => ?_
  refine WL.q (Y.assign (.pl rfl)) rfl ?_
  refine WL.next hQ1 (.cons (i := 0) rfl (.nil)) ?_
  refine W.seqR fun Q2 hQ2 => ?_
  refine WL.q (Y.build (cs := (encZone (Zone.mk 0 (-1) (-1) false)).toArray) shape225 (.cons (.pl rfl) (.cons (.pl rfl) (.nil))) (one_parts ⟨rfl, ⟨rfl, trivial⟩⟩) rfl) rfl ?_
  refine WL.q (Y.buildF (cs := (Value.int .i64 0 :: (Value.int .i64 (-1) :: (Value.int .i64 (-1) :: (Value.slice none 0 0 :: ((encZone (Zone.mk 0 (-1) (-1) false)) ++ (Value.bool false :: [])))))).toArray) shape227 (.cons (.pl rfl) (.cons (.pl rfl) (.cons (.pl rfl) (.nil)))) (by kernel_rfl)) rfl ?_
  refine WL.step (WO.bsliceN (enc := encNZonesCluster) (inn := innNZonesCluster) (hs := ([((none, 0) : Hd)] : List Hd)) (xs := ([(ZonesCluster.mk 0 (-1) (-1) [] (Zone.mk 0 (-1) (-1) false) false)] : List ZonesCluster)) Try.underlying162 bz227 (.cons (.pl rfl) (.nil)) rfl rfl rfl rfl rfl lenNZonesCluster (by decide) (by decide) (.trans (.nilR (eI .i64) 1 3) (.pick [0] rfl)) rfl fun b6 => ?_)
  refine WL.q (Y.assign (.pl rfl)) rfl ?_
  refine WL.next hQ2 (.cons (i := 0) rfl (.cons (i := 3) rfl (.nil))) ?_
  obtain ⟨o3, hF3, hF⟩ := bnd hF
  refine W.join4 (Em := fun (out9 : (List ZonesCluster)) (A7 : Option Addr) (c8 : Nat) (hd10 : List Hd) => [(3, .slice A7 (out9).length c8)]) (M := fun out9 A7 c8 hd10 => [cN encNZonesCluster innNZonesCluster 9 A7 c8 227 hd10 out9]) (I := fun out9 A7 c8 hd10 => out9 = o3) (.cons (i := 0) rfl (.nil)) (fun K4 hK4 => ?_) ?_
  · -- up to
    refine W.seqR fun Q5 hQ5 => ?_
    refine WL.q (Y.move (.pl rfl)) rfl ?_
    refine WL.q (Y.len Try.underlying44 (.pl rfl)) rfl ?_
    refine WL.q (Y.move (.pl rfl)) rfl ?_
    refine WL.next hQ5 (.cons (i := 0) rfl (.cons (i := 3) rfl (.cons (i := 14) rfl (.cons (i := 15) rfl (.cons (i := 16) rfl (.nil)))))) ?_
    refine W.block ?_
    refine W.loop5 (Em := fun (out13 : (List ZonesCluster)) (v15 : Int) (A11 : Option Addr) (c12 : Nat) (hd14 : List Hd) => [(3, .slice A11 (out13).length c12), (16, .int .i64 v15)]) (M := fun out13 v15 A11 c12 hd14 => [cN encNZonesCluster innNZonesCluster 9 A11 c12 227 hd14 out13]) (I := fun out13 v15 A11 c12 hd14 k6 => iter (zones_clusters_L29 N c1) k6 (out13, v15) = some o3) ([(ZonesCluster.mk 0 (-1) (-1) [] (Zone.mk 0 (-1) (-1) false) false)] : List ZonesCluster) 0 (some ⟨b6, 0, none⟩) ((([(ZonesCluster.mk 0 (-1) (-1) [] (Zone.mk 0 (-1) (-1) false) false)] : List ZonesCluster)).length) ([((none, 0) : Hd)] : List Hd) N (hF3) (.cons rfl (.cons rfl (.nil))) (.cons (i := 0) rfl (.cons (i := 14) rfl (.cons (i := 15) rfl (.nil)))) (fun wz hw => hw.pick [0] rfl) (fun out13 v15 A11 c12 hd14 k6 hI K7 hK7 => ?_)
    obtain ⟨k6, t6, rfl, hF6, hN6⟩ := iter_step hI
    refine W.seqR fun Q8 hQ8 => ?_
    refine WL.q (Y.lss (.pl rfl) (.pl rfl)) rfl ?_
    refine WL.next hQ8 (.cons (i := 0) rfl (.cons (i := 3) rfl (.cons (i := 14) rfl (.cons (i := 15) rfl (.cons (i := 16) rfl (.cons (i := 17) rfl (.nil))))))) ?_
    refine W.seq fun K9 hK9 => ?_
    refine W.cond (.pl rfl) (fun hC10 => ?_) (fun hC10 => ?_)
    · replace hF6 := cpos hC10 hF6
      refine W.skip ?_
      refine W.go hK9 (.cons (i := 0) rfl (.cons (i := 3) rfl (.cons (i := 14) rfl (.cons (i := 15) rfl (.cons (i := 16) rfl (.nil)))))) ?_
      refine W.seq fun K11 hK11 => ?_
      refine W.block ?_
      refine W.seqR fun Q12 hQ12 => ?_
      refine WL.q (Y.move (.pl rfl)) rfl ?_
      obtain ⟨x16, hx16, hF6⟩ := bnd hF6
      refine WL.q (Y.slEl Try.underlying44 cells51 hs4 (.pl rfl) (.pl rfl) (ix_lt (hx16))) rfl ?_
      refine WL.q (Y.loadSA (enc := encCall) (ds := (encCall x16)) (j := 0) Try.underlying51 rfl cells51 hs4 (.pl rfl) (hx16) rfl rfl subW) rfl ?_
      refine WL.step (WO.alloc (cs := (encCall (Call.mk 0 0 0 0 0 0 0)).toArray) zero51 rfl rfl fun b17 => ?_)
      refine WL.q (Y.assign (.pl rfl)) rfl ?_
      refine WL.step (WO.storeBA (ds := (encCall x16)) (cs' := (encCall x16)) cells51 (.pl rfl) (.pl rfl) rfl (oneCall _) (i := 0) rfl (lel (o := 0) (l := 7) (m := 7) (by decide) rfl rfl) (putW rfl) ?_)
      refine WL.next hQ12 (.cons (i := 0) rfl (.cons (i := 3) rfl (.cons (i := 4) rfl (.cons (i := 5) rfl (.cons (i := 14) rfl (.cons (i := 15) rfl (.cons (i := 16) rfl (.nil)))))))) ?_
      refine W.seq fun K13 hK13 => ?_
      refine W.seqR fun Q14 hQ14 => ?_
      refine WL.q (Y.fieldAddr0 (off := 2) (ft := 3) Try.underlying51 rfl cells3 (.pl rfl)) rfl ?_
      refine WL.q (Y.loadB (v := .int .i64 x16.kind) Try.underlying3 rfl (.pl rfl) (i := 0) rfl (rfl)) rfl ?_
      refine WL.q (Y.neq (.pl rfl) (.pl rfl)) rfl ?_
      refine WL.next hQ14 (.cons (i := 0) rfl (.cons (i := 3) rfl (.cons (i := 4) rfl (.cons (i := 5) rfl (.cons (i := 14) rfl (.cons (i := 15) rfl (.cons (i := 16) rfl (.cons (i := 23) rfl (.nil))))))))) ?_
      refine W.cond (.pl rfl) (fun hC15 => ?_) (fun hC15 => ?_)
      · replace hF6 := cpos hC15 hF6
        refine W.exit ?_
        refine W.go hK11 (.cons (i := 0) rfl (.cons (i := 3) rfl (.cons (i := 14) rfl (.cons (i := 15) rfl (.cons (i := 16) rfl (.nil)))))) ?_
        refine W.reg ?_
        obtain ⟨hk18, hF6⟩ := ckh hF6
        refine WL.q (Y.add (.pl rfl) (.pl rfl) (ok64_lt (hk18))) rfl ?_
        refine WL.q (Y.move (.pl rfl)) rfl ?_
        refine WL.nil ?_
        obtain rfl := Option.some.inj hF6
        exact W.again5 hK7 out13 (v15 + 1) A11 c12 hd14 k6 hN6 (Nat.lt_succ_self _) (.cons rfl (.cons rfl (.nil))) (.cons (i := 0) rfl (.cons (i := 14) rfl (.cons (i := 15) rfl (.nil)))) (fun wz hw => hw.pick [1] rfl)
      · replace hF6 := cneg hC15 hF6
        refine W.skip ?_
        refine W.go hK13 (.cons (i := 0) rfl (.cons (i := 3) rfl (.cons (i := 4) rfl (.cons (i := 5) rfl (.cons (i := 14) rfl (.cons (i := 15) rfl (.cons (i := 16) rfl (.nil)))))))) ?_
        refine W.seqR fun Q17 hQ17 => ?_
        refine WL.q (Y.fieldAddr0 (off := 3) (ft := 3) Try.underlying51 rfl cells3 (.pl rfl)) rfl ?_
        refine WL.q (Y.loadB (v := .int .i64 x16.arg) Try.underlying3 rfl (.pl rfl) (i := 0) rfl (rfl)) rfl ?_
        refine WL.q (Y.move (.pl rfl)) rfl ?_
        refine WL.q (Y.fieldAddr0 (off := 5) (ft := 3) Try.underlying51 rfl cells3 (.pl rfl)) rfl ?_
        refine WL.q (Y.loadB (v := .int .i64 x16.from_) Try.underlying3 rfl (.pl rfl) (i := 0) rfl (rfl)) rfl ?_
        refine WL.q (Y.fieldAddr0 (off := 6) (ft := 3) Try.underlying51 rfl cells3 (.pl rfl)) rfl ?_
        refine WL.q (Y.loadB (v := .int .i64 x16.to_) Try.underlying3 rfl (.pl rfl) (i := 0) rfl (rfl)) rfl ?_
        refine WL.q (Y.neq (.pl rfl) (.pl rfl)) rfl ?_
        refine WL.q (Y.build (cs := (Value.int .i64 x16.arg :: (Value.int .i64 v15 :: (Value.int .i64 x16.from_ :: (Value.slice none 0 0 :: ((encZone (Zone.mk 0 0 0 false)) ++ (Value.bool (!(decide (x16.to_ = (-1)))) :: [])))))).toArray) shape227 (.cons (.pl rfl) (.cons (.pl rfl) (.cons (.pl rfl) (.cons (.pl rfl) (.nil))))) (one_parts ⟨rfl, ⟨rfl, ⟨rfl, ⟨rfl, trivial⟩⟩⟩⟩) rfl) rfl ?_
        refine WL.step (WO.alloc (cs := (Value.int .i64 0 :: (Value.int .i64 0 :: (Value.int .i64 0 :: (Value.slice none 0 0 :: ((encZone (Zone.mk 0 0 0 false)) ++ (Value.bool false :: [])))))).toArray) zero227 rfl rfl fun b19 => ?_)
        refine WL.step (WO.storeBA (ds := (Value.int .i64 x16.arg :: (Value.int .i64 v15 :: (Value.int .i64 x16.from_ :: (Value.slice none 0 0 :: ((encZone (Zone.mk 0 0 0 false)) ++ (Value.bool (!(decide (x16.to_ = (-1)))) :: []))))))) (cs' := (Value.int .i64 x16.arg :: (Value.int .i64 v15 :: (Value.int .i64 x16.from_ :: (Value.slice none 0 0 :: ((encZone (Zone.mk 0 0 0 false)) ++ (Value.bool (!(decide (x16.to_ = (-1)))) :: []))))))) cells227 (.pl rfl) (.pl rfl) rfl (one_cons rfl (one_cons rfl (one_cons rfl (one_cons rfl (one_app (oneZone _) (one_cons rfl one_nil)))))) (i := 0) rfl (lel (o := 0) (l := 9) (m := 9) (by decide) rfl rfl) (putW rfl) ?_)
        refine WL.next hQ17 (.cons (i := 0) rfl (.cons (i := 3) rfl (.cons (i := 5) rfl (.cons (i := 6) rfl (.cons (i := 14) rfl (.cons (i := 15) rfl (.cons (i := 16) rfl (.nil)))))))) ?_
        refine W.seqR fun Q18 hQ18 => ?_
        refine WL.q (Y.fieldAddr0 (off := 3) (ft := 3) Try.underlying51 rfl cells3 (.pl rfl)) rfl ?_
        refine WL.q (Y.loadB (v := .int .i64 x16.arg) Try.underlying3 rfl (.pl rfl) (i := 1) rfl (rfl)) rfl ?_
        refine WL.q (Y.fieldAddr0 (off := 6) (ft := 3) Try.underlying51 rfl cells3 (.pl rfl)) rfl ?_
        refine WL.q (Y.loadB (v := .int .i64 x16.to_) Try.underlying3 rfl (.pl rfl) (i := 1) rfl (rfl)) rfl ?_
        refine WL.q (Y.fieldAddr0 (off := 5) (ft := 3) Try.underlying51 rfl cells3 (.pl rfl)) rfl ?_
        refine WL.q (Y.loadB (v := .int .i64 x16.from_) Try.underlying3 rfl (.pl rfl) (i := 1) rfl (rfl)) rfl ?_
        refine WL.q (Y.build (cs := (encZone (Zone.mk x16.arg x16.to_ x16.from_ false)).toArray) shape225 (.cons (.pl rfl) (.cons (.pl rfl) (.cons (.pl rfl) (.nil)))) (one_parts ⟨rfl, ⟨rfl, ⟨rfl, trivial⟩⟩⟩) rfl) rfl ?_
        refine WL.q (Y.fieldAddr0 (off := 4) (ft := 225) Try.underlying227 rfl cells225 (.pl rfl)) rfl ?_
        refine WL.step (WO.storeBA (ds := (encZone (Zone.mk x16.arg x16.to_ x16.from_ false))) (cs' := (Value.int .i64 x16.arg :: (Value.int .i64 v15 :: (Value.int .i64 x16.from_ :: (Value.slice none 0 0 :: ((encZone (Zone.mk x16.arg x16.to_ x16.from_ false)) ++ (Value.bool (!(decide (x16.to_ = (-1)))) :: []))))))) cells225 (.pl rfl) (.pl rfl) rfl (oneZone _) (i := 0) rfl (lel (l := 4) (m := 9) (by decide) rfl rfl) (putAt_app (a := (Value.int .i64 x16.arg :: (Value.int .i64 v15 :: (Value.int .i64 x16.from_ :: (Value.slice none 0 0 :: []))))) (b := (encZone (Zone.mk 0 0 0 false))) (c := (Value.bool (!(decide (x16.to_ = (-1)))) :: [])) (ds := (encZone (Zone.mk x16.arg x16.to_ x16.from_ false))) rfl rfl) ?_)
        refine WL.next hQ18 (.cons (i := 0) rfl (.cons (i := 3) rfl (.cons (i := 5) rfl (.cons (i := 6) rfl (.cons (i := 14) rfl (.cons (i := 15) rfl (.cons (i := 16) rfl (.nil)))))))) ?_
        refine W.seq fun K19 hK19 => ?_
        refine W.seqR fun Q20 hQ20 => ?_
        refine WL.q (Y.fieldAddr0 (off := 6) (ft := 3) Try.underlying51 rfl cells3 (.pl rfl)) rfl ?_
        refine WL.q (Y.loadB (v := .int .i64 x16.to_) Try.underlying3 rfl (.pl rfl) (i := 1) rfl (rfl)) rfl ?_
        refine WL.q (Y.eql (.pl rfl) (.pl rfl)) rfl ?_
        refine WL.next hQ20 (.cons (i := 0) rfl (.cons (i := 3) rfl (.cons (i := 6) rfl (.cons (i := 14) rfl (.cons (i := 15) rfl (.cons (i := 16) rfl (.cons (i := 43) rfl (.nil)))))))) ?_
        refine W.cond (.pl rfl) (fun hC21 => ?_) (fun hC21 => ?_)
        · replace hF6 := cpos hC21 hF6
          refine W.reg ?_
          refine WL.q (Y.fieldAddr0 (off := 4) (ft := 225) Try.underlying227 rfl cells225 (.pl rfl)) rfl ?_
          refine WL.q (Y.fieldAddr (off := 1) (ft := 3) Try.underlying225 rfl cells3 (.pl rfl)) rfl ?_
          refine WL.step (WO.storeB (cs' := (Value.int .i64 x16.arg :: (Value.int .i64 v15 :: (Value.int .i64 x16.from_ :: (Value.slice none 0 0 :: ((encZone (Zone.mk x16.arg 200 x16.from_ false)) ++ (Value.bool (!(decide (x16.to_ = (-1)))) :: []))))))) cells3 (.pl rfl) (.pl rfl) rfl (i := 0) rfl (ltl (m := 9) (by decide) rfl) (rfl) ?_)
          refine WL.nil ?_
          refine W.go hK19 (.cons (i := 0) rfl (.cons (i := 3) rfl (.cons (i := 6) rfl (.cons (i := 14) rfl (.cons (i := 15) rfl (.cons (i := 16) rfl (.nil))))))) ?_
          refine W.reg ?_
          refine WL.q (Y.move (.pl rfl)) rfl ?_
          refine WL.q (Y.loadBA (ds := (Value.int .i64 x16.arg :: (Value.int .i64 v15 :: (Value.int .i64 x16.from_ :: (Value.slice none 0 0 :: ((encZone (Zone.mk x16.arg 200 x16.from_ false)) ++ (Value.bool (!(decide (x16.to_ = (-1)))) :: []))))))) Try.underlying227 rfl cells227 (.pl rfl) (i := 0) rfl rfl subW) rfl ?_
          refine WL.step (WO.bsliceN (enc := encNZonesCluster) (inn := innNZonesCluster) (hs := ([((none, 0) : Hd)] : List Hd)) (xs := ([(ZonesCluster.mk x16.arg v15 x16.from_ [] (Zone.mk x16.arg 200 x16.from_ false) (!(decide (x16.to_ = (-1)))))] : List ZonesCluster)) Try.underlying162 bz227 (.cons (.pl rfl) (.nil)) rfl rfl rfl rfl rfl lenNZonesCluster (by decide) (by decide) (.trans (.nilR (eI .i64) 1 3) (.pick [0, 1, 2, 3] rfl)) rfl fun b20 => ?_)
          obtain ⟨hk23, hF6⟩ := ckh hF6
          refine WL.step (WO.appendN (enc := encNZonesCluster) (inn := innNZonesCluster) (hs := hd14) Try.underlying162 ap227 lenNZonesCluster oneNZonesCluster (.pl rfl) rfl (.pl rfl) (i := 2) rfl (hk23) rfl fun A21 c22 => ?_)
          refine WL.q (Y.assign (.pl rfl)) rfl ?_
          refine WL.nil ?_
          refine W.go hK11 (.cons (i := 0) rfl (.cons (i := 3) rfl (.cons (i := 14) rfl (.cons (i := 15) rfl (.cons (i := 16) rfl (.nil)))))) ?_
          refine W.reg ?_
          obtain ⟨hk24, hF6⟩ := ckh hF6
          refine WL.q (Y.add (.pl rfl) (.pl rfl) (ok64_lt (hk24))) rfl ?_
          refine WL.q (Y.move (.pl rfl)) rfl ?_
          refine WL.nil ?_
          obtain rfl := Option.some.inj hF6
          exact W.again5 hK7 (out13 ++ ([(ZonesCluster.mk x16.arg v15 x16.from_ [] (Zone.mk x16.arg 200 x16.from_ false) (!(decide (x16.to_ = (-1)))))] : List ZonesCluster)) (v15 + 1) A21 c22 (hd14 ++ ([((none, 0) : Hd)] : List Hd)) k6 hN6 (Nat.lt_succ_self _) (.cons rfl (.cons rfl (.nil))) (.cons (i := 0) rfl (.cons (i := 14) rfl (.cons (i := 15) rfl (.nil)))) (fun wz hw => hw.pick [0] rfl)
        · replace hF6 := cneg hC21 hF6
          refine W.skip ?_
          refine W.go hK19 (.cons (i := 0) rfl (.cons (i := 3) rfl (.cons (i := 6) rfl (.cons (i := 14) rfl (.cons (i := 15) rfl (.cons (i := 16) rfl (.nil))))))) ?_
          refine W.reg ?_
          refine WL.q (Y.move (.pl rfl)) rfl ?_
          refine WL.q (Y.loadBA (ds := (Value.int .i64 x16.arg :: (Value.int .i64 v15 :: (Value.int .i64 x16.from_ :: (Value.slice none 0 0 :: ((encZone (Zone.mk x16.arg x16.to_ x16.from_ false)) ++ (Value.bool (!(decide (x16.to_ = (-1)))) :: []))))))) Try.underlying227 rfl cells227 (.pl rfl) (i := 0) rfl rfl subW) rfl ?_
          refine WL.step (WO.bsliceN (enc := encNZonesCluster) (inn := innNZonesCluster) (hs := ([((none, 0) : Hd)] : List Hd)) (xs := ([(ZonesCluster.mk x16.arg v15 x16.from_ [] (Zone.mk x16.arg x16.to_ x16.from_ false) (!(decide (x16.to_ = (-1)))))] : List ZonesCluster)) Try.underlying162 bz227 (.cons (.pl rfl) (.nil)) rfl rfl rfl rfl rfl lenNZonesCluster (by decide) (by decide) (.trans (.nilR (eI .i64) 1 3) (.pick [0, 1, 2, 3] rfl)) rfl fun b25 => ?_)
          obtain ⟨hk28, hF6⟩ := ckh hF6
          refine WL.step (WO.appendN (enc := encNZonesCluster) (inn := innNZonesCluster) (hs := hd14) Try.underlying162 ap227 lenNZonesCluster oneNZonesCluster (.pl rfl) rfl (.pl rfl) (i := 2) rfl (hk28) rfl fun A26 c27 => ?_)
          refine WL.q (Y.assign (.pl rfl)) rfl ?_
          refine WL.nil ?_
          refine W.go hK11 (.cons (i := 0) rfl (.cons (i := 3) rfl (.cons (i := 14) rfl (.cons (i := 15) rfl (.cons (i := 16) rfl (.nil)))))) ?_
          refine W.reg ?_
          obtain ⟨hk29, hF6⟩ := ckh hF6
          refine WL.q (Y.add (.pl rfl) (.pl rfl) (ok64_lt (hk29))) rfl ?_
          refine WL.q (Y.move (.pl rfl)) rfl ?_
          refine WL.nil ?_
          obtain rfl := Option.some.inj hF6
          exact W.again5 hK7 (out13 ++ ([(ZonesCluster.mk x16.arg v15 x16.from_ [] (Zone.mk x16.arg x16.to_ x16.from_ false) (!(decide (x16.to_ = (-1)))))] : List ZonesCluster)) (v15 + 1) A26 c27 (hd14 ++ ([((none, 0) : Hd)] : List Hd)) k6 hN6 (Nat.lt_succ_self _) (.cons rfl (.cons rfl (.nil))) (.cons (i := 0) rfl (.cons (i := 14) rfl (.cons (i := 15) rfl (.nil)))) (fun wz hw => hw.pick [0] rfl)
    · replace hF6 := cneg hC10 hF6
      refine W.exit ?_
      obtain rfl := Option.some.inj hF6
      exact W.joinAt4 hK4 out13 A11 c12 hd14 (einr hN6) (.cons rfl (.nil)) (.cons (i := 0) rfl (.nil)) (fun wz hw => hw.pick [0] rfl)
  · -- behind
    rintro out9 A7 c8 hd10 rfl
    obtain ⟨o27, hF27, hF⟩ := bnd hF
    refine W.join2 (Em := fun (out30 : (List ZonesCluster)) (hd31 : List Hd) => [(3, .slice A7 (out30).length c8)]) (M := fun out30 hd31 => [cN encNZonesCluster innNZonesCluster 9 A7 c8 227 hd31 out30]) (I := fun out30 hd31 => out30 = o27) (.nil) (fun K28 hK28 => ?_) ?_
    · -- up to
      refine W.seqR fun Q29 hQ29 => ?_
      refine WL.q (Y.move (.pl rfl)) rfl ?_
      refine WL.q (Y.len Try.underlying162 (.pl rfl)) rfl ?_
      refine WL.q (Y.move (.pl rfl)) rfl ?_
      refine WL.next hQ29 (.cons (i := 0) rfl (.cons (i := 3) rfl (.cons (i := 52) rfl (.cons (i := 53) rfl (.nil))))) ?_
      refine W.block ?_
      refine W.loop3 (Em := fun (out32 : (List ZonesCluster)) (v34 : Int) (hd33 : List Hd) => [(3, .slice A7 (out32).length c8), (53, .int .i64 v34)]) (M := fun out32 v34 hd33 => [cN encNZonesCluster innNZonesCluster 9 A7 c8 227 hd33 out32]) (I := fun out32 v34 hd33 k30 => iter (zones_clusters_L51 N out9 c1) k30 (out32, v34) = some o27) out9 0 hd10 N (hF27) (.cons rfl (.cons rfl (.nil))) (.cons (i := 0) rfl (.cons (i := 52) rfl (.nil))) (fun wz hw => hw.pick [0] rfl) (fun out32 v34 hd33 k30 hI K31 hK31 => ?_)
      obtain ⟨k30, t30, rfl, hF30, hN30⟩ := iter_step hI
      refine W.seqR fun Q32 hQ32 => ?_
      refine WL.q (Y.lss (.pl rfl) (.pl rfl)) rfl ?_
      refine WL.next hQ32 (.cons (i := 0) rfl (.cons (i := 3) rfl (.cons (i := 52) rfl (.cons (i := 53) rfl (.cons (i := 54) rfl (.nil)))))) ?_
      refine W.seq fun K33 hK33 => ?_
      refine W.cond (.pl rfl) (fun hC34 => ?_) (fun hC34 => ?_)
      · replace hF30 := cpos hC34 hF30
        refine W.skip ?_
        refine W.go hK33 (.cons (i := 0) rfl (.cons (i := 3) rfl (.cons (i := 52) rfl (.cons (i := 53) rfl (.nil))))) ?_
        obtain ⟨o35, hF35, hF30⟩ := bnd hF30
        refine W.join2 (Em := fun (out35 : (List ZonesCluster)) (hd36 : List Hd) => [(3, .slice A7 (out35).length c8)]) (M := fun out35 hd36 => [cN encNZonesCluster innNZonesCluster 9 A7 c8 227 hd36 out35]) (I := fun out35 hd36 => out35 = o35) (.cons (i := 0) rfl (.cons (i := 52) rfl (.cons (i := 53) rfl (.nil)))) (fun K36 hK36 => ?_) ?_
        · -- up to
          refine W.block ?_
          refine W.seqR fun Q37 hQ37 => ?_
          refine WL.q (Y.move (.pl rfl)) rfl ?_
          refine WL.q (Y.assign (.pl rfl)) rfl ?_
          refine WL.next hQ37 (.cons (i := 0) rfl (.cons (i := 3) rfl (.cons (i := 7) rfl (.cons (i := 52) rfl (.cons (i := 53) rfl (.nil)))))) ?_
          refine W.seqR fun Q38 hQ38 => ?_
          refine WL.q (Y.move (.pl rfl)) rfl ?_
          refine WL.q (Y.move (.pl rfl)) rfl ?_
          obtain ⟨x37, hx37, hF35⟩ := bnd hF35
          refine WL.q (Y.nEl Try.underlying162 cells227 (i := 0) rfl (.pl rfl) rfl (.pl rfl) (ix_lt (hx37))) rfl ?_
          refine WL.q (Y.assign (.pl rfl)) rfl ?_
          refine WL.next hQ38 (.cons (i := 0) rfl (.cons (i := 3) rfl (.cons (i := 8) rfl (.cons (i := 52) rfl (.cons (i := 53) rfl (.nil)))))) ?_
          obtain ⟨o39, hF39, hF35⟩ := bnd hF35
          refine W.join2 (Em := fun (out38 : (List ZonesCluster)) (hd39 : List Hd) => [(3, .slice A7 (out38).length c8)]) (M := fun out38 hd39 => [cN encNZonesCluster innNZonesCluster 9 A7 c8 227 hd39 out38]) (I := fun out38 hd39 => out38 = o39) (.cons (i := 0) rfl (.cons (i := 8) rfl (.cons (i := 52) rfl (.cons (i := 53) rfl (.nil))))) (fun K40 hK40 => ?_) ?_
          · -- up to
            refine W.seqR fun Q41 hQ41 => ?_
            refine WL.q (Y.move (.pl rfl)) rfl ?_
            refine WL.q (Y.len Try.underlying44 (.pl rfl)) rfl ?_
            refine WL.q (Y.move (.pl rfl)) rfl ?_
            refine WL.next hQ41 (.cons (i := 0) rfl (.cons (i := 3) rfl (.cons (i := 8) rfl (.cons (i := 52) rfl (.cons (i := 53) rfl (.cons (i := 59) rfl (.cons (i := 60) rfl (.cons (i := 61) rfl (.nil))))))))) ?_
            refine W.block ?_
            refine W.loop3 (Em := fun (out40 : (List ZonesCluster)) (v42 : Int) (hd41 : List Hd) => [(3, .slice A7 (out40).length c8), (61, .int .i64 v42)]) (M := fun out40 v42 hd41 => [cN encNZonesCluster innNZonesCluster 9 A7 c8 227 hd41 out40]) (I := fun out40 v42 hd41 k42 => iter (zones_clusters_L55 N c1 v34) k42 (out40, v42) = some o39) out32 0 hd33 N (hF39) (.cons rfl (.cons rfl (.nil))) (.cons (i := 0) rfl (.cons (i := 8) rfl (.cons (i := 52) rfl (.cons (i := 53) rfl (.cons (i := 59) rfl (.cons (i := 60) rfl (.nil))))))) (fun wz hw => hw.pick [0] rfl) (fun out40 v42 hd41 k42 hI K43 hK43 => ?_)
            obtain ⟨k42, t42, rfl, hF42, hN42⟩ := iter_step hI
            refine W.seqR fun Q44 hQ44 => ?_
            refine WL.q (Y.lss (.pl rfl) (.pl rfl)) rfl ?_
            refine WL.next hQ44 (.cons (i := 0) rfl (.cons (i := 3) rfl (.cons (i := 8) rfl (.cons (i := 52) rfl (.cons (i := 53) rfl (.cons (i := 59) rfl (.cons (i := 60) rfl (.cons (i := 61) rfl (.cons (i := 62) rfl (.nil)))))))))) ?_
            refine W.seq fun K45 hK45 => ?_
            refine W.cond (.pl rfl) (fun hC46 => ?_) (fun hC46 => ?_)
            · replace hF42 := cpos hC46 hF42
              refine W.skip ?_
              refine W.go hK45 (.cons (i := 0) rfl (.cons (i := 3) rfl (.cons (i := 8) rfl (.cons (i := 52) rfl (.cons (i := 53) rfl (.cons (i := 59) rfl (.cons (i := 60) rfl (.cons (i := 61) rfl (.nil))))))))) ?_
              refine W.seq fun K47 hK47 => ?_
              refine W.block ?_
              refine W.seqR fun Q48 hQ48 => ?_
              refine WL.q (Y.move (.pl rfl)) rfl ?_
              obtain ⟨x43, hx43, hF42⟩ := bnd hF42
              refine WL.q (Y.slEl Try.underlying44 cells51 hs4 (.pl rfl) (.pl rfl) (ix_lt (hx43))) rfl ?_
              refine WL.q (Y.loadSA (enc := encCall) (ds := (encCall x43)) (j := 0) Try.underlying51 rfl cells51 hs4 (.pl rfl) (hx43) rfl rfl subW) rfl ?_
              refine WL.step (WO.alloc (cs := (encCall (Call.mk 0 0 0 0 0 0 0)).toArray) zero51 rfl rfl fun b44 => ?_)
              refine WL.q (Y.assign (.pl rfl)) rfl ?_
              refine WL.step (WO.storeBA (ds := (encCall x43)) (cs' := (encCall x43)) cells51 (.pl rfl) (.pl rfl) rfl (oneCall _) (i := 0) rfl (lel (o := 0) (l := 7) (m := 7) (by decide) rfl rfl) (putW rfl) ?_)
              refine WL.next hQ48 (.cons (i := 0) rfl (.cons (i := 3) rfl (.cons (i := 8) rfl (.cons (i := 9) rfl (.cons (i := 10) rfl (.cons (i := 52) rfl (.cons (i := 53) rfl (.cons (i := 59) rfl (.cons (i := 60) rfl (.cons (i := 61) rfl (.nil))))))))))) ?_
              refine W.seqD (by kernel_rfl) (by kernel_rfl) fun R49 hR49 => ?_
              refine WD.q (Y.fieldAddr0 (off := 2) (ft := 3) Try.underlying51 rfl cells3 (.pl rfl)) rfl ?_
              refine WD.q (Y.loadB (v := .int .i64 x43.kind) Try.underlying3 rfl (.pl rfl) (i := 0) rfl (rfl)) rfl ?_
              refine WD.q (Y.eql (.pl rfl) (.pl rfl)) rfl ?_
              refine WD.q (Y.move (.pl rfl)) rfl ?_
              refine WD.g (.pl rfl rfl rfl) (fun hg => Y.fieldAddr0 (off := 6) (ft := 3) Try.underlying51 rfl cells3 (.pl rfl)) rfl ?_
              refine WD.g (.pl rfl rfl rfl) (fun hg => Y.loadB (v := .int .i64 x43.to_) Try.underlying3 rfl (.gd (hg) rfl) (i := 0) rfl (rfl)) rfl ?_
              refine WD.g (.pl rfl rfl rfl) (fun hg => Y.neq (.gd (hg) rfl) (.pl rfl)) rfl ?_
              refine WD.q (Y.and (.pl rfl) (fun h2 => .gd (eqt h2) rfl)) rfl ?_
              refine WD.q (Y.move (.pl rfl)) rfl ?_
              refine WD.g (.pl rfl rfl rfl) (fun hg => Y.fieldAddr0 (off := 4) (ft := 3) Try.underlying51 rfl cells3 (.pl rfl)) rfl ?_
              refine WD.g (.pl rfl rfl rfl) (fun hg => Y.loadB (v := .int .i64 x43.res) Try.underlying3 rfl (.gd (hg) rfl) (i := 0) rfl (rfl)) rfl ?_
              refine WD.g (.pl rfl rfl rfl) (fun hg => Y.move (.pl rfl)) rfl ?_
              refine WD.g (.pl rfl rfl rfl) (fun hg => Y.nilCheck (.gd (hg) rfl)) rfl ?_
              obtain ⟨x45, hx45, hF42⟩ := bnd hF42
              refine WD.g (.pl rfl rfl rfl) (fun hg => Y.nField (off := 0) (ft := 3) Try.underlying227 rfl cells3 (i' := 1) rfl (ix_lt (gpos hg hx45)) (.gd (hg) rfl)) rfl ?_
              refine WD.g (.pl rfl rfl rfl) (fun hg => Y.loadN (enc := encNZonesCluster) (h0 := ((none, 0) : Hd)) (v := .int .i64 x45.value) (a := (ZonesCluster.mk x45.value x45.write x45.from_ x45.reads x45.zone x45.counts)) (idx := v34) (j := 0) Try.underlying3 rfl lenNZonesCluster (i := 1) rfl (.gd (hg) rfl) (ix_get (gpos hg hx45)) rfl rfl) rfl ?_
              refine WD.g (.pl rfl rfl rfl) (fun hg => Y.eql (.gd (hg) rfl) (.gd (hg) rfl)) rfl ?_
              refine WD.q (Y.and (.pl rfl) (fun h2 => .gd (eqt h2) rfl)) rfl ?_
              refine WD.next hR49 (.cons (i := 0) rfl (.cons (i := 3) rfl (.cons (i := 8) rfl (.cons (i := 9) rfl (.cons (i := 10) rfl (.cons (i := 52) rfl (.cons (i := 53) rfl (.cons (i := 59) rfl (.cons (i := 60) rfl (.cons (i := 61) rfl (.cons (i := 82) rfl (.nil)))))))))))) ?_
              refine W.cond (.pl rfl) (fun hC50 => ?_) (fun hC50 => ?_)
              · replace hF42 := cpos hC50 hF42
                refine W.seqR fun Q51 hQ51 => ?_
                refine WL.q (Y.move (.pl rfl)) rfl ?_
                refine WL.q (Y.move (.pl rfl)) rfl ?_
                refine WL.q (Y.nilCheck (.pl rfl)) rfl ?_
                obtain ⟨x46, hx46, hF42⟩ := bnd hF42
                refine WL.q (Y.nField (off := 3) (ft := 47) Try.underlying227 rfl cells47 (i' := 1) rfl (ix_lt (hx46)) (.pl rfl)) rfl ?_
                refine WL.q (Y.loadN (enc := encNZonesCluster) (h0 := ((none, 0) : Hd)) (v := .slice (hd41.getD v34.toNat ((none, 0) : Hd)).1 (x46.reads).length (hd41.getD v34.toNat ((none, 0) : Hd)).2) (a := (ZonesCluster.mk x46.value x46.write x46.from_ x46.reads x46.zone x46.counts)) (idx := v34) (j := 3) Try.underlying47 rfl lenNZonesCluster (i := 1) rfl (.pl rfl) (ix_get (hx46)) rfl rfl) rfl ?_
                refine WL.q (Y.move (.pl rfl)) rfl ?_
                refine WL.step (WO.bsliceC (enc := (eI .i64)) (ys := ([v42] : List Int)) Try.underlying47 bz3 (.cons (.pl rfl) (.nil)) rfl (fun _ => rfl) rfl rfl (by decide) (by decide) rfl fun b47 => ?_)
                refine WL.ent (Ent.hole (h0 := ((none, 0) : Hd)) (i := 2) rfl (ix_get (hx46))) ?_
                obtain ⟨hk50, hF42⟩ := ckh hF42
                refine WL.step (WO.appendC (enc := (eI .i64)) Try.underlying47 ap3 (fun _ => rfl) oneI (.pl rfl) rfl (.pl rfl) (i := 0) rfl (m2 := 2) rfl (hk50) rfl fun A48 c49 => ?_)
                refine WL.q (Y.nilCheck (.pl rfl)) rfl ?_
                obtain ⟨x51, hx51, hF42⟩ := bnd hF42
                refine WL.q (Y.hField (off := 3) (ft := 47) Try.underlying227 rfl cells47 (i' := 1) rfl (ix_lt (hx51)) (.pl rfl)) rfl ?_
                refine WL.step (WO.storeH (enc := encNZonesCluster) (inn := innNZonesCluster) (h0 := ((none, 0) : Hd)) (h' := ((A48, c49) : Hd)) (a := x51) (a' := (ZonesCluster.mk x51.value x51.write x51.from_ (x46.reads ++ ([v42] : List Int)) x51.zone x51.counts)) (idx := v34) (j := 3) cells47 (.pl rfl) (.pl rfl) rfl lenNZonesCluster (i := 1) rfl (ix_get (hx51)) rfl (by decide) rfl (.pick [0, 1, 2] rfl) ?_)
                refine WL.next hQ51 (.cons (i := 0) rfl (.cons (i := 3) rfl (.cons (i := 8) rfl (.cons (i := 10) rfl (.cons (i := 52) rfl (.cons (i := 53) rfl (.cons (i := 59) rfl (.cons (i := 60) rfl (.cons (i := 61) rfl (.nil)))))))))) ?_
                refine W.seqR fun Q52 hQ52 => ?_
                refine WL.q (Y.move (.pl rfl)) rfl ?_
                refine WL.q (Y.nilCheck (.pl rfl)) rfl ?_
                obtain ⟨x52, hx52, hF42⟩ := bnd hF42
                refine WL.q (Y.nField (off := 8) (ft := 4) Try.underlying227 rfl cells4 (i' := 0) rfl (ix_lt (hx52)) (.pl rfl)) rfl ?_
                refine WL.step (WO.storeN0 (enc := encNZonesCluster) (inn := innNZonesCluster) (h0 := ((none, 0) : Hd)) (a := (ZonesCluster.mk x51.value x51.write x51.from_ (x46.reads ++ ([v42] : List Int)) x51.zone x51.counts)) (a' := (ZonesCluster.mk x51.value x51.write x51.from_ (x46.reads ++ ([v42] : List Int)) x51.zone true)) (idx := v34) (j := 8) cells4 (.pl rfl) (.pl rfl) rfl lenNZonesCluster (i := 0) rfl (setget (⟨(ix_lt (hx52)).1, by simpa only [List.length_set] using (ix_lt (hx52)).2⟩)) rfl (by decide) rfl rfl ?_)
                refine WL.next hQ52 (.cons (i := 0) rfl (.cons (i := 3) rfl (.cons (i := 8) rfl (.cons (i := 10) rfl (.cons (i := 52) rfl (.cons (i := 53) rfl (.cons (i := 59) rfl (.cons (i := 60) rfl (.cons (i := 61) rfl (.nil)))))))))) ?_
                refine W.know (fun wz hw => n_okA0 hw (i := 0) rfl) (fun hok54 => ?_)
                refine W.regXK 25 [1, 2] (by kernel_rfl) ?_
                refine WX.pure 0 #[true, false, false, false, false, false, false, false, false, false, false, false, false, false, false, false, false, false, false, false, false, false, false, false, false, false] rfl (by kernel_rfl) (fun _ _ => Y.move (.pl rfl)) rfl ?_
                refine WX.pure 1 #[true, true, false, false, false, false, false, false, false, false, false, false, false, false, false, false, false, false, false, false, false, false, false, false, false, false] rfl (by kernel_rfl) (fun _ _ => Y.move (.pl rfl)) rfl ?_
                refine WX.pure 2 #[true, true, true, false, false, false, false, false, false, false, false, false, false, false, false, false, false, false, false, false, false, false, false, false, false, false] rfl (by kernel_rfl) (fun _ _ => Y.move (.pl rfl)) rfl ?_
                refine WX.pure 3 #[true, true, true, true, false, false, false, false, false, false, false, false, false, false, false, false, false, false, false, false, false, false, false, false, false, false] rfl (by kernel_rfl) (fun _ _ => Y.nilCheck (.pl rfl)) rfl ?_
                obtain ⟨x53, hx53, hF42⟩ := bnd hF42
                refine WX.take 4 #[true, true, true, true, true, false, false, false, false, false, false, false, false, false, false, false, false, false, false, false, false, false, false, false, false, false] (fun wz hw => hw.pick [1, 2] rfl) rfl (by kernel_rfl) (Y.okField (off := 4) (ft := 225) Try.underlying227 rfl cells225 hok54 (by have := (ix_lt (hx53)); omega) (.pl rfl)) rfl ?_
                refine WX.take 5 #[true, true, true, true, true, true, false, false, false, false, false, false, false, false, false, false, false, false, false, false, false, false, false, false, false, false] (fun wz hw => hw.pick [1, 2] rfl) rfl (by kernel_rfl) (Y.okField (off := 1) (ft := 3) Try.underlying225 rfl cells3 hok54 (by have := (ix_lt (hx53)); omega) (.pl rfl)) rfl ?_
                refine WX.pure 7 #[true, true, true, true, true, true, false, true, false, false, false, false, false, false, false, false, false, false, false, false, false, false, false, false, false, false] rfl (by kernel_rfl) (fun _ _ => Y.fieldAddr0 (off := 6) (ft := 3) Try.underlying51 rfl cells3 (.pl rfl)) rfl ?_
                refine WX.take 8 #[true, true, true, true, true, true, false, true, true, false, false, false, false, false, false, false, false, false, false, false, false, false, false, false, false, false] (fun wz hw => hw.pick [1, 2] rfl) rfl (by kernel_rfl) (Y.loadB (v := .int .i64 x43.to_) Try.underlying3 rfl (.pl rfl) (i := 1) rfl (rfl)) rfl ?_
                refine WX.pure 10 #[true, true, true, true, true, true, false, true, true, false, true, false, false, false, false, false, false, false, false, false, false, false, false, false, false, false] rfl (by kernel_rfl) (fun _ _ => Y.move (.pl rfl)) rfl ?_
                refine WX.pure 11 #[true, true, true, true, true, true, false, true, true, false, true, true, false, false, false, false, false, false, false, false, false, false, false, false, false, false] rfl (by kernel_rfl) (fun _ _ => Y.nilCheck (.pl rfl)) rfl ?_
                obtain ⟨x54, hx54, hF42⟩ := bnd hF42
                refine WX.take 12 #[true, true, true, true, true, true, false, true, true, false, true, true, true, false, false, false, false, false, false, false, false, false, false, false, false, false] (fun wz hw => hw.pick [1, 2] rfl) rfl (by kernel_rfl) (Y.okField (off := 4) (ft := 225) Try.underlying227 rfl cells225 hok54 (by have := (ix_lt (hx54)); omega) (.pl rfl)) rfl ?_
                refine WX.take 13 #[true, true, true, true, true, true, false, true, true, false, true, true, true, true, false, false, false, false, false, false, false, false, false, false, false, false] (fun wz hw => hw.pick [1, 2] rfl) rfl (by kernel_rfl) (Y.okField (off := 2) (ft := 3) Try.underlying225 rfl cells3 hok54 (by have := (ix_lt (hx54)); omega) (.pl rfl)) rfl ?_
                refine WX.pure 15 #[true, true, true, true, true, true, false, true, true, false, true, true, true, true, false, true, false, false, false, false, false, false, false, false, false, false] rfl (by kernel_rfl) (fun _ _ => Y.fieldAddr0 (off := 5) (ft := 3) Try.underlying51 rfl cells3 (.pl rfl)) rfl ?_
                refine WX.take 16 #[true, true, true, true, true, true, false, true, true, false, true, true, true, true, false, true, true, false, false, false, false, false, false, false, false, false] (fun wz hw => hw.pick [1, 2] rfl) rfl (by kernel_rfl) (Y.loadB (v := .int .i64 x43.from_) Try.underlying3 rfl (.pl rfl) (i := 1) rfl (rfl)) rfl ?_
                obtain ⟨x55, hx55, hF42⟩ := bnd hF42
                obtain ⟨x56, hx56, hF42⟩ := bnd hF42
                refine WX.branch [6, 14] (fun wz hw => hw.pick [1, 2] rfl) (by kernel_rfl) ⟨?_, ?_, trivial⟩
                · skip
                  refine WXI.step #[true, true, true, true, true, true, true, true, true, false, true, true, true, true, false, true, true, false, false, false, false, false, false, false, false, false] rfl rfl (WO.q (Y.loadN (enc := encNZonesCluster) (h0 := ((none, 0) : Hd)) (v := .int .i64 x51.zone.first) (a := (ZonesCluster.mk x51.value x51.write x51.from_ (x46.reads ++ ([v42] : List Int)) x51.zone true)) (idx := v34) (j := 5) Try.underlying3 rfl lenNZonesCluster (i := 0) rfl (.pl rfl) (setget (⟨(ix_lt (hx53)).1, by simpa only [List.length_set] using (ix_lt (hx53)).2⟩)) rfl rfl) rfl ?_)
                  refine WX.take 9 #[true, true, true, true, true, true, true, true, true, true, true, true, true, true, false, true, true, false, false, false, false, false, false, false, false, false] (fun wz hw => hw.pick [1, 2] rfl) rfl (by kernel_rfl) (Y.min (.pl rfl) (.pl rfl)) rfl ?_
                  refine WX.one 14 #[true, true, true, true, true, true, true, true, true, true, true, true, true, true, true, true, true, false, false, false, false, false, false, false, false, false] (fun wz hw => hw.pick [1, 2] rfl) rfl (by kernel_rfl) (WO.q (Y.loadN (enc := encNZonesCluster) (h0 := ((none, 0) : Hd)) (v := .int .i64 x51.zone.last) (a := (ZonesCluster.mk x51.value x51.write x51.from_ (x46.reads ++ ([v42] : List Int)) x51.zone true)) (idx := v34) (j := 6) Try.underlying3 rfl lenNZonesCluster (i := 0) rfl (.pl rfl) (setget (⟨(ix_lt (hx54)).1, by simpa only [List.length_set] using (ix_lt (hx54)).2⟩)) rfl rfl) rfl ?_)
                  refine WX.take 17 #[true, true, true, true, true, true, true, true, true, true, true, true, true, true, true, true, true, true, false, false, false, false, false, false, false, false] (fun wz hw => hw.pick [1, 2] rfl) rfl (by kernel_rfl) (Y.max (.pl rfl) (.pl rfl)) rfl ?_
                  refine WX.pure 18 #[true, true, true, true, true, true, true, true, true, true, true, true, true, true, true, true, true, true, true, false, false, false, false, false, false, false] rfl (by kernel_rfl) (fun _ _ => Y.nilCheck (.pl rfl)) rfl ?_
                  refine WX.take 19 #[true, true, true, true, true, true, true, true, true, true, true, true, true, true, true, true, true, true, true, true, false, false, false, false, false, false] (fun wz hw => hw.pick [1, 2] rfl) rfl (by kernel_rfl) (Y.okField (off := 4) (ft := 225) Try.underlying227 rfl cells225 hok54 (by have := (ix_lt (hx55)); omega) (.pl rfl)) rfl ?_
                  refine WX.take 20 #[true, true, true, true, true, true, true, true, true, true, true, true, true, true, true, true, true, true, true, true, true, false, false, false, false, false] (fun wz hw => hw.pick [1, 2] rfl) rfl (by kernel_rfl) (Y.okField (off := 1) (ft := 3) Try.underlying225 rfl cells3 hok54 (by have := (ix_lt (hx55)); omega) (.pl rfl)) rfl ?_
                  refine WX.one 21 #[true, true, true, true, true, true, true, true, true, true, true, true, true, true, true, true, true, true, true, true, true, true, false, false, false, false] (fun wz hw => hw.pick [1, 2] rfl) rfl (by kernel_rfl) (WO.storeN0 (enc := encNZonesCluster) (inn := innNZonesCluster) (h0 := ((none, 0) : Hd)) (a := (ZonesCluster.mk x51.value x51.write x51.from_ (x46.reads ++ ([v42] : List Int)) x51.zone true)) (a' := (ZonesCluster.mk x51.value x51.write x51.from_ (x46.reads ++ ([v42] : List Int)) (Zone.mk x51.zone.value (min x51.zone.first x43.to_) x51.zone.last x51.zone.forward) true)) (idx := v34) (j := 5) cells3 (.pl rfl) (.pl rfl) rfl lenNZonesCluster (i := 0) rfl (setget (⟨(ix_lt (hx55)).1, by simpa only [List.length_set] using (ix_lt (hx55)).2⟩)) rfl (by decide) rfl rfl ?_)
                  refine WX.pure 22 #[true, true, true, true, true, true, true, true, true, true, true, true, true, true, true, true, true, true, true, true, true, true, true, false, false, false] rfl (by kernel_rfl) (fun _ _ => Y.nilCheck (.pl rfl)) rfl ?_
                  refine WX.take 23 #[true, true, true, true, true, true, true, true, true, true, true, true, true, true, true, true, true, true, true, true, true, true, true, true, false, false] (fun wz hw => hw.pick [1, 2] rfl) rfl (by kernel_rfl) (Y.okField (off := 4) (ft := 225) Try.underlying227 rfl cells225 hok54 (by have := (ix_lt (hx56)); have e1 : ((((out40.set v34.toNat (ZonesCluster.mk x51.value x51.write x51.from_ (x46.reads ++ ([v42] : List Int)) x51.zone x51.counts)).set v34.toNat (ZonesCluster.mk x51.value x51.write x51.from_ (x46.reads ++ ([v42] : List Int)) x51.zone true)).set v34.toNat (ZonesCluster.mk x51.value x51.write x51.from_ (x46.reads ++ ([v42] : List Int)) (Zone.mk x51.zone.value (min x51.zone.first x43.to_) x51.zone.last x51.zone.forward) true))).length = (((out40.set v34.toNat (ZonesCluster.mk x51.value x51.write x51.from_ (x46.reads ++ ([v42] : List Int)) x51.zone x51.counts)).set v34.toNat (ZonesCluster.mk x51.value x51.write x51.from_ (x46.reads ++ ([v42] : List Int)) x51.zone true))).length := (by simp only [List.length_set]); omega) (.pl rfl)) rfl ?_
                  refine WX.take 24 #[true, true, true, true, true, true, true, true, true, true, true, true, true, true, true, true, true, true, true, true, true, true, true, true, true, false] (fun wz hw => hw.pick [1, 2] rfl) rfl (by kernel_rfl) (Y.okField (off := 2) (ft := 3) Try.underlying225 rfl cells3 hok54 (by have := (ix_lt (hx56)); have e1 : ((((out40.set v34.toNat (ZonesCluster.mk x51.value x51.write x51.from_ (x46.reads ++ ([v42] : List Int)) x51.zone x51.counts)).set v34.toNat (ZonesCluster.mk x51.value x51.write x51.from_ (x46.reads ++ ([v42] : List Int)) x51.zone true)).set v34.toNat (ZonesCluster.mk x51.value x51.write x51.from_ (x46.reads ++ ([v42] : List Int)) (Zone.mk x51.zone.value (min x51.zone.first x43.to_) x51.zone.last x51.zone.forward) true))).length = (((out40.set v34.toNat (ZonesCluster.mk x51.value x51.write x51.from_ (x46.reads ++ ([v42] : List Int)) x51.zone x51.counts)).set v34.toNat (ZonesCluster.mk x51.value x51.write x51.from_ (x46.reads ++ ([v42] : List Int)) x51.zone true))).length := (by simp only [List.length_set]); omega) (.pl rfl)) rfl ?_
                  refine WX.stop #[true, true, true, true, true, true, true, true, true, true, true, true, true, true, true, true, true, true, true, true, true, true, true, true, true, true] (fun wz hw => hw.pick [1, 2] rfl) rfl (by kernel_rfl) (WO.storeN0 (enc := encNZonesCluster) (inn := innNZonesCluster) (h0 := ((none, 0) : Hd)) (a := (ZonesCluster.mk x51.value x51.write x51.from_ (x46.reads ++ ([v42] : List Int)) (Zone.mk x51.zone.value (min x51.zone.first x43.to_) x51.zone.last x51.zone.forward) true)) (a' := (ZonesCluster.mk x51.value x51.write x51.from_ (x46.reads ++ ([v42] : List Int)) (Zone.mk x51.zone.value (min x51.zone.first x43.to_) (max x51.zone.last x43.from_) x51.zone.forward) true)) (idx := v34) (j := 6) cells3 (.pl rfl) (.pl rfl) rfl lenNZonesCluster (i := 0) rfl (setget (⟨(ix_lt (hx56)).1, by simpa only [List.length_set] using (ix_lt (hx56)).2⟩)) rfl (by decide) rfl rfl ?_)
                  refine WA.done (by kernel_rfl) ?_
                  refine W.go hK47 (.cons (i := 0) rfl (.cons (i := 3) rfl (.cons (i := 8) rfl (.cons (i := 52) rfl (.cons (i := 53) rfl (.cons (i := 59) rfl (.cons (i := 60) rfl (.cons (i := 61) rfl (.nil))))))))) ?_
                  refine W.reg ?_
                  obtain ⟨hk57, hF42⟩ := ckh hF42
                  refine WL.q (Y.add (.pl rfl) (.pl rfl) (ok64_lt (hk57))) rfl ?_
                  refine WL.q (Y.move (.pl rfl)) rfl ?_
                  refine WL.nil ?_
                  obtain rfl := Option.some.inj hF42
                  exact W.again3 hK43 ((((out40.set v34.toNat (ZonesCluster.mk x51.value x51.write x51.from_ (x46.reads ++ ([v42] : List Int)) x51.zone x51.counts)).set v34.toNat (ZonesCluster.mk x51.value x51.write x51.from_ (x46.reads ++ ([v42] : List Int)) x51.zone true)).set v34.toNat (ZonesCluster.mk x51.value x51.write x51.from_ (x46.reads ++ ([v42] : List Int)) (Zone.mk x51.zone.value (min x51.zone.first x43.to_) x51.zone.last x51.zone.forward) true)).set v34.toNat (ZonesCluster.mk x51.value x51.write x51.from_ (x46.reads ++ ([v42] : List Int)) (Zone.mk x51.zone.value (min x51.zone.first x43.to_) (max x51.zone.last x43.from_) x51.zone.forward) true)) (v42 + 1) (hd41.set v34.toNat ((A48, c49) : Hd)) k42 hN42 (Nat.lt_succ_self _) (.cons (eqSl (by simp)) (.cons rfl (.nil))) (.cons (i := 0) rfl (.cons (i := 8) rfl (.cons (i := 52) rfl (.cons (i := 53) rfl (.cons (i := 59) rfl (.cons (i := 60) rfl (.nil))))))) (fun wz hw => St.cong (L := [cN encNZonesCluster innNZonesCluster 9 A7 c8 227 (hd41.set v34.toNat ((A48, c49) : Hd)) ((((out40.set v34.toNat (ZonesCluster.mk x51.value x51.write x51.from_ (x46.reads ++ ([v42] : List Int)) x51.zone x51.counts)).set v34.toNat (ZonesCluster.mk x51.value x51.write x51.from_ (x46.reads ++ ([v42] : List Int)) x51.zone true)).set v34.toNat (ZonesCluster.mk x51.value x51.write x51.from_ (x46.reads ++ ([v42] : List Int)) (Zone.mk x51.zone.value (min x51.zone.first x43.to_) x51.zone.last x51.zone.forward) true)).set v34.toNat (ZonesCluster.mk x51.value x51.write x51.from_ (x46.reads ++ ([v42] : List Int)) (Zone.mk x51.zone.value (min x51.zone.first x43.to_) (max x51.zone.last x43.from_) x51.zone.forward) true))]) (hw.pick [0] rfl) (by simp only [List.length_set, List.nil_append, List.cons_append]))
                · skip
                  refine WXI.step #[true, true, true, true, true, true, false, true, true, false, true, true, true, true, true, true, true, false, false, false, false, false, false, false, false, false] rfl rfl (WO.q (Y.loadN (enc := encNZonesCluster) (h0 := ((none, 0) : Hd)) (v := .int .i64 x51.zone.last) (a := (ZonesCluster.mk x51.value x51.write x51.from_ (x46.reads ++ ([v42] : List Int)) x51.zone true)) (idx := v34) (j := 6) Try.underlying3 rfl lenNZonesCluster (i := 0) rfl (.pl rfl) (setget (⟨(ix_lt (hx54)).1, by simpa only [List.length_set] using (ix_lt (hx54)).2⟩)) rfl rfl) rfl ?_)
                  refine WX.take 17 #[true, true, true, true, true, true, false, true, true, false, true, true, true, true, true, true, true, true, false, false, false, false, false, false, false, false] (fun wz hw => hw.pick [1, 2] rfl) rfl (by kernel_rfl) (Y.max (.pl rfl) (.pl rfl)) rfl ?_
                  refine WX.one 6 #[true, true, true, true, true, true, true, true, true, false, true, true, true, true, true, true, true, true, false, false, false, false, false, false, false, false] (fun wz hw => hw.pick [1, 2] rfl) rfl (by kernel_rfl) (WO.q (Y.loadN (enc := encNZonesCluster) (h0 := ((none, 0) : Hd)) (v := .int .i64 x51.zone.first) (a := (ZonesCluster.mk x51.value x51.write x51.from_ (x46.reads ++ ([v42] : List Int)) x51.zone true)) (idx := v34) (j := 5) Try.underlying3 rfl lenNZonesCluster (i := 0) rfl (.pl rfl) (setget (⟨(ix_lt (hx53)).1, by simpa only [List.length_set] using (ix_lt (hx53)).2⟩)) rfl rfl) rfl ?_)
                  refine WX.take 9 #[true, true, true, true, true, true, true, true, true, true, true, true, true, true, true, true, true, true, false, false, false, false, false, false, false, false] (fun wz hw => hw.pick [1, 2] rfl) rfl (by kernel_rfl) (Y.min (.pl rfl) (.pl rfl)) rfl ?_
                  refine WX.pure 18 #[true, true, true, true, true, true, true, true, true, true, true, true, true, true, true, true, true, true, true, false, false, false, false, false, false, false] rfl (by kernel_rfl) (fun _ _ => Y.nilCheck (.pl rfl)) rfl ?_
                  refine WX.take 19 #[true, true, true, true, true, true, true, true, true, true, true, true, true, true, true, true, true, true, true, true, false, false, false, false, false, false] (fun wz hw => hw.pick [1, 2] rfl) rfl (by kernel_rfl) (Y.okField (off := 4) (ft := 225) Try.underlying227 rfl cells225 hok54 (by have := (ix_lt (hx55)); omega) (.pl rfl)) rfl ?_
                  refine WX.take 20 #[true, true, true, true, true, true, true, true, true, true, true, true, true, true, true, true, true, true, true, true, true, false, false, false, false, false] (fun wz hw => hw.pick [1, 2] rfl) rfl (by kernel_rfl) (Y.okField (off := 1) (ft := 3) Try.underlying225 rfl cells3 hok54 (by have := (ix_lt (hx55)); omega) (.pl rfl)) rfl ?_
                  refine WX.one 21 #[true, true, true, true, true, true, true, true, true, true, true, true, true, true, true, true, true, true, true, true, true, true, false, false, false, false] (fun wz hw => hw.pick [1, 2] rfl) rfl (by kernel_rfl) (WO.storeN0 (enc := encNZonesCluster) (inn := innNZonesCluster) (h0 := ((none, 0) : Hd)) (a := (ZonesCluster.mk x51.value x51.write x51.from_ (x46.reads ++ ([v42] : List Int)) x51.zone true)) (a' := (ZonesCluster.mk x51.value x51.write x51.from_ (x46.reads ++ ([v42] : List Int)) (Zone.mk x51.zone.value (min x51.zone.first x43.to_) x51.zone.last x51.zone.forward) true)) (idx := v34) (j := 5) cells3 (.pl rfl) (.pl rfl) rfl lenNZonesCluster (i := 0) rfl (setget (⟨(ix_lt (hx55)).1, by simpa only [List.length_set] using (ix_lt (hx55)).2⟩)) rfl (by decide) rfl rfl ?_)
                  refine WX.pure 22 #[true, true, true, true, true, true, true, true, true, true, true, true, true, true, true, true, true, true, true, true, true, true, true, false, false, false] rfl (by kernel_rfl) (fun _ _ => Y.nilCheck (.pl rfl)) rfl ?_
                  refine WX.take 23 #[true, true, true, true, true, true, true, true, true, true, true, true, true, true, true, true, true, true, true, true, true, true, true, true, false, false] (fun wz hw => hw.pick [1, 2] rfl) rfl (by kernel_rfl) (Y.okField (off := 4) (ft := 225) Try.underlying227 rfl cells225 hok54 (by have := (ix_lt (hx56)); have e1 : ((((out40.set v34.toNat (ZonesCluster.mk x51.value x51.write x51.from_ (x46.reads ++ ([v42] : List Int)) x51.zone x51.counts)).set v34.toNat (ZonesCluster.mk x51.value x51.write x51.from_ (x46.reads ++ ([v42] : List Int)) x51.zone true)).set v34.toNat (ZonesCluster.mk x51.value x51.write x51.from_ (x46.reads ++ ([v42] : List Int)) (Zone.mk x51.zone.value (min x51.zone.first x43.to_) x51.zone.last x51.zone.forward) true))).length = (((out40.set v34.toNat (ZonesCluster.mk x51.value x51.write x51.from_ (x46.reads ++ ([v42] : List Int)) x51.zone x51.counts)).set v34.toNat (ZonesCluster.mk x51.value x51.write x51.from_ (x46.reads ++ ([v42] : List Int)) x51.zone true))).length := (by simp only [List.length_set]); omega) (.pl rfl)) rfl ?_
                  refine WX.take 24 #[true, true, true, true, true, true, true, true, true, true, true, true, true, true, true, true, true, true, true, true, true, true, true, true, true, false] (fun wz hw => hw.pick [1, 2] rfl) rfl (by kernel_rfl) (Y.okField (off := 2) (ft := 3) Try.underlying225 rfl cells3 hok54 (by have := (ix_lt (hx56)); have e1 : ((((out40.set v34.toNat (ZonesCluster.mk x51.value x51.write x51.from_ (x46.reads ++ ([v42] : List Int)) x51.zone x51.counts)).set v34.toNat (ZonesCluster.mk x51.value x51.write x51.from_ (x46.reads ++ ([v42] : List Int)) x51.zone true)).set v34.toNat (ZonesCluster.mk x51.value x51.write x51.from_ (x46.reads ++ ([v42] : List Int)) (Zone.mk x51.zone.value (min x51.zone.first x43.to_) x51.zone.last x51.zone.forward) true))).length = (((out40.set v34.toNat (ZonesCluster.mk x51.value x51.write x51.from_ (x46.reads ++ ([v42] : List Int)) x51.zone x51.counts)).set v34.toNat (ZonesCluster.mk x51.value x51.write x51.from_ (x46.reads ++ ([v42] : List Int)) x51.zone true))).length := (by simp only [List.length_set]); omega) (.pl rfl)) rfl ?_
                  refine WX.stop #[true, true, true, true, true, true, true, true, true, true, true, true, true, true, true, true, true, true, true, true, true, true, true, true, true, true] (fun wz hw => hw.pick [1, 2] rfl) rfl (by kernel_rfl) (WO.storeN0 (enc := encNZonesCluster) (inn := innNZonesCluster) (h0 := ((none, 0) : Hd)) (a := (ZonesCluster.mk x51.value x51.write x51.from_ (x46.reads ++ ([v42] : List Int)) (Zone.mk x51.zone.value (min x51.zone.first x43.to_) x51.zone.last x51.zone.forward) true)) (a' := (ZonesCluster.mk x51.value x51.write x51.from_ (x46.reads ++ ([v42] : List Int)) (Zone.mk x51.zone.value (min x51.zone.first x43.to_) (max x51.zone.last x43.from_) x51.zone.forward) true)) (idx := v34) (j := 6) cells3 (.pl rfl) (.pl rfl) rfl lenNZonesCluster (i := 0) rfl (setget (⟨(ix_lt (hx56)).1, by simpa only [List.length_set] using (ix_lt (hx56)).2⟩)) rfl (by decide) rfl rfl ?_)
                  refine WA.done (by kernel_rfl) ?_
                  refine W.go hK47 (.cons (i := 0) rfl (.cons (i := 3) rfl (.cons (i := 8) rfl (.cons (i := 52) rfl (.cons (i := 53) rfl (.cons (i := 59) rfl (.cons (i := 60) rfl (.cons (i := 61) rfl (.nil))))))))) ?_
                  refine W.reg ?_
                  obtain ⟨hk58, hF42⟩ := ckh hF42
                  refine WL.q (Y.add (.pl rfl) (.pl rfl) (ok64_lt (hk58))) rfl ?_
                  refine WL.q (Y.move (.pl rfl)) rfl ?_
                  refine WL.nil ?_
                  obtain rfl := Option.some.inj hF42
                  exact W.again3 hK43 ((((out40.set v34.toNat (ZonesCluster.mk x51.value x51.write x51.from_ (x46.reads ++ ([v42] : List Int)) x51.zone x51.counts)).set v34.toNat (ZonesCluster.mk x51.value x51.write x51.from_ (x46.reads ++ ([v42] : List Int)) x51.zone true)).set v34.toNat (ZonesCluster.mk x51.value x51.write x51.from_ (x46.reads ++ ([v42] : List Int)) (Zone.mk x51.zone.value (min x51.zone.first x43.to_) x51.zone.last x51.zone.forward) true)).set v34.toNat (ZonesCluster.mk x51.value x51.write x51.from_ (x46.reads ++ ([v42] : List Int)) (Zone.mk x51.zone.value (min x51.zone.first x43.to_) (max x51.zone.last x43.from_) x51.zone.forward) true)) (v42 + 1) (hd41.set v34.toNat ((A48, c49) : Hd)) k42 hN42 (Nat.lt_succ_self _) (.cons (eqSl (by simp)) (.cons rfl (.nil))) (.cons (i := 0) rfl (.cons (i := 8) rfl (.cons (i := 52) rfl (.cons (i := 53) rfl (.cons (i := 59) rfl (.cons (i := 60) rfl (.nil))))))) (fun wz hw => St.cong (L := [cN encNZonesCluster innNZonesCluster 9 A7 c8 227 (hd41.set v34.toNat ((A48, c49) : Hd)) ((((out40.set v34.toNat (ZonesCluster.mk x51.value x51.write x51.from_ (x46.reads ++ ([v42] : List Int)) x51.zone x51.counts)).set v34.toNat (ZonesCluster.mk x51.value x51.write x51.from_ (x46.reads ++ ([v42] : List Int)) x51.zone true)).set v34.toNat (ZonesCluster.mk x51.value x51.write x51.from_ (x46.reads ++ ([v42] : List Int)) (Zone.mk x51.zone.value (min x51.zone.first x43.to_) x51.zone.last x51.zone.forward) true)).set v34.toNat (ZonesCluster.mk x51.value x51.write x51.from_ (x46.reads ++ ([v42] : List Int)) (Zone.mk x51.zone.value (min x51.zone.first x43.to_) (max x51.zone.last x43.from_) x51.zone.forward) true))]) (hw.pick [0] rfl) (by simp only [List.length_set, List.nil_append, List.cons_append]))
              · replace hF42 := cneg hC50 hF42
                refine W.skip ?_
                refine W.go hK47 (.cons (i := 0) rfl (.cons (i := 3) rfl (.cons (i := 8) rfl (.cons (i := 52) rfl (.cons (i := 53) rfl (.cons (i := 59) rfl (.cons (i := 60) rfl (.cons (i := 61) rfl (.nil))))))))) ?_
                refine W.reg ?_
                obtain ⟨hk59, hF42⟩ := ckh hF42
                refine WL.q (Y.add (.pl rfl) (.pl rfl) (ok64_lt (hk59))) rfl ?_
                refine WL.q (Y.move (.pl rfl)) rfl ?_
                refine WL.nil ?_
                obtain rfl := Option.some.inj hF42
                exact W.again3 hK43 out40 (v42 + 1) hd41 k42 hN42 (Nat.lt_succ_self _) (.cons rfl (.cons rfl (.nil))) (.cons (i := 0) rfl (.cons (i := 8) rfl (.cons (i := 52) rfl (.cons (i := 53) rfl (.cons (i := 59) rfl (.cons (i := 60) rfl (.nil))))))) (fun wz hw => hw.pick [1] rfl)
            · replace hF42 := cneg hC46 hF42
              refine W.exit ?_
              obtain rfl := Option.some.inj hF42
              exact W.joinAt2 hK40 out40 hd41 (einr hN42) (.cons rfl (.nil)) (.cons (i := 0) rfl (.cons (i := 8) rfl (.cons (i := 52) rfl (.cons (i := 53) rfl (.nil))))) (fun wz hw => hw.pick [0] rfl)
          · -- behind
            rintro out38 hd39 rfl
            refine W.regT 15 (by kernel_rfl) (by kernel_rfl) ?_
            refine WS.q (Y.move (.pl rfl)) rfl ?_
            refine WS.q (Y.move (.pl rfl)) rfl ?_
            refine WS.q (Y.nilCheck (.pl rfl)) rfl ?_
            obtain ⟨x60, hx60, hF35⟩ := bnd hF35
            refine WS.q (Y.nField (off := 4) (ft := 225) Try.underlying227 rfl cells225 (i' := 0) rfl (ix_lt (hx60)) (.pl rfl)) rfl ?_
            refine WS.q (Y.nField (off := 1) (ft := 3) Try.underlying225 rfl cells3 (i' := 0) rfl (ix_lt (hx60)) (.pl rfl)) rfl ?_
            refine WS.q (Y.loadN (enc := encNZonesCluster) (h0 := ((none, 0) : Hd)) (v := .int .i64 x60.zone.first) (a := (ZonesCluster.mk x60.value x60.write x60.from_ x60.reads x60.zone x60.counts)) (idx := v34) (j := 5) Try.underlying3 rfl lenNZonesCluster (i := 0) rfl (.pl rfl) (ix_get (hx60)) rfl rfl) rfl ?_
            refine WS.q (Y.move (.pl rfl)) rfl ?_
            refine WS.q (Y.nilCheck (.pl rfl)) rfl ?_
            obtain ⟨x61, hx61, hF35⟩ := bnd hF35
            refine WS.q (Y.nField (off := 4) (ft := 225) Try.underlying227 rfl cells225 (i' := 0) rfl (ix_lt (hx61)) (.pl rfl)) rfl ?_
            refine WS.q (Y.nField (off := 2) (ft := 3) Try.underlying225 rfl cells3 (i' := 0) rfl (ix_lt (hx61)) (.pl rfl)) rfl ?_
            refine WS.q (Y.loadN (enc := encNZonesCluster) (h0 := ((none, 0) : Hd)) (v := .int .i64 x61.zone.last) (a := (ZonesCluster.mk x61.value x61.write x61.from_ x61.reads x61.zone x61.counts)) (idx := v34) (j := 6) Try.underlying3 rfl lenNZonesCluster (i := 0) rfl (.pl rfl) (ix_get (hx61)) rfl rfl) rfl ?_
            refine WS.q (Y.lss (.pl rfl) (.pl rfl)) rfl ?_
            refine WS.q (Y.nilCheck (.pl rfl)) rfl ?_
            obtain ⟨x62, hx62, hF35⟩ := bnd hF35
            refine WS.q (Y.nField (off := 4) (ft := 225) Try.underlying227 rfl cells225 (i' := 0) rfl (ix_lt (hx62)) (.pl rfl)) rfl ?_
            refine WS.q (Y.nField (off := 3) (ft := 4) Try.underlying225 rfl cells4 (i' := 0) rfl (ix_lt (hx62)) (.pl rfl)) rfl ?_
            refine WS.tail ?_
            refine WL.step (WO.storeN0 (enc := encNZonesCluster) (inn := innNZonesCluster) (h0 := ((none, 0) : Hd)) (a := (ZonesCluster.mk x62.value x62.write x62.from_ x62.reads x62.zone x62.counts)) (a' := (ZonesCluster.mk x62.value x62.write x62.from_ x62.reads (Zone.mk x62.zone.value x62.zone.first x62.zone.last (decide (x60.zone.first < x61.zone.last))) x62.counts)) (idx := v34) (j := 7) cells4 (.pl rfl) (.pl rfl) rfl lenNZonesCluster (i := 0) rfl (ix_get (hx62)) rfl (by decide) rfl rfl ?_)
            refine WL.nil ?_
            exact W.joinAt2 hK36 (out38.set v34.toNat (ZonesCluster.mk x62.value x62.write x62.from_ x62.reads (Zone.mk x62.zone.value x62.zone.first x62.zone.last (decide (x60.zone.first < x61.zone.last))) x62.counts)) hd39 (Option.some.inj hF35) (.cons (eqSl (by simp)) (.nil)) (.cons (i := 0) rfl (.cons (i := 52) rfl (.cons (i := 53) rfl (.nil)))) (fun wz hw => hw.pick [0] rfl)
        · -- behind
          rintro out35 hd36 rfl
          refine W.reg ?_
          obtain ⟨hk63, hF30⟩ := ckh hF30
          refine WL.q (Y.add (.pl rfl) (.pl rfl) (ok64_lt (hk63))) rfl ?_
          refine WL.q (Y.move (.pl rfl)) rfl ?_
          refine WL.nil ?_
          obtain rfl := Option.some.inj hF30
          exact W.again3 hK31 out35 (v34 + 1) hd36 k30 hN30 (Nat.lt_succ_self _) (.cons rfl (.cons rfl (.nil))) (.cons (i := 0) rfl (.cons (i := 52) rfl (.nil))) (fun wz hw => hw.pick [0] rfl)
      · replace hF30 := cneg hC34 hF30
        refine W.exit ?_
        obtain rfl := Option.some.inj hF30
        exact W.joinAt2 hK28 out32 hd33 (einr hN30) (.cons rfl (.nil)) (.nil) (fun wz hw => hw.pick [0] rfl)
    · -- behind
      rintro out30 hd31 rfl
      refine W.seqR fun Q60 hQ60 => ?_
      refine WL.q (Y.move (.pl rfl)) rfl ?_
      obtain ⟨r64, hr64, hF⟩ := bnd hF
      refine WL.step (WO.call (γ := (List Hd)) (fun g => .tuple #[]) (fun g => [cN encNZonesCluster innNZonesCluster 9 A7 c8 227 g r64]) (fun g => (r64).length = (out30).length) isGo115 (.cons (.pl rfl) (.cons (.pl rfl) (.nil))) rfl (fun wz hw => sort115_ok (T := []) (hr64) (hw.pick [0] rfl) ) ?_)
      rintro hO65 hl66
      refine WL.next hQ60 (.cons (i := 3) rfl (.nil)) ?_
      refine W.seqR fun Q61 hQ61 => ?_
      refine WL.q (Y.move (.pl rfl)) rfl ?_
      refine WL.q (Y.assign (.pl rfl)) rfl ?_
      refine WL.next hQ61 (.cons (i := 2) rfl (.nil)) ?_
      obtain rfl := Option.some.inj hF
      refine W.retV (fn := Try.f82) (vs := [.slice A7 (out30).length c8]) Try.results82 ⟨.tmp rfl, trivial⟩ (fun _ _ h => h) (fun wz hw => ?_)
      exact hR _ _ ⟨(A7, c8, hO65), trivial, by simp [resV, hl66], (hw.pick [0] rfl)⟩

def zones_reads_1 (N : Nat) (value1 : Int) (write2 : Int) (from3 : Int) (reads4 : (List Int)) (zone7 : Zone) (counts8 : Bool) (a10 : Call) : Option Unit :=
  some ()

theorem zones_reads_1_ok {N : Nat} {value1 : Int} {write2 : Int} {from3 : Int} {reads4 : (List Int)} {zone7 : Zone} {counts8 : Bool} {a10 : Call} {A5 : Option Addr} {c6 : Nat} {b9 : Nat} {res : Unit} (hF : zones_reads_1 N value1 write2 from3 reads4 zone7 counts8 a10 = some res) {w0 w : World} {T : List Chunk} (hw : St w0.heap.size w0 ([cBx b9 51 (encCall a10)] ++ T) w) :
    Calls Try.prog 119 (List.toArray [.agg (Value.int .i64 value1 :: (Value.int .i64 write2 :: (Value.int .i64 from3 :: (Value.slice A5 (reads4).length c6 :: ((encZone zone7) ++ (Value.bool counts8 :: [])))))).toArray, .pointer (some ⟨b9, 0, none⟩)]) w (fun e w' => ∃ g : Unit, (True) ∧ e = .returned (.bool (decide (value1 = a10.res))) ∧ St w0.heap.size w0 ([cBx b9 51 (encCall a10)] ++ T) w') := by
  refine W.enter (n := 9) Try.func119 rfl rfl Sub.refl (by simp) hw fun R hR => ?_
  unfold zones_reads_1 at hF
  refine W.seqR fun Q1 hQ1 => ?_
  refine WL.step (WO.boxA (.pl rfl) rfl fun b11 => ?_)
  refine WL.q (Y.assign (.pl rfl)) rfl ?_
  refine WL.next hQ1 (.cons (i := 1) rfl (.cons (i := 2) rfl (.nil))) ?_
  refine W.seqR fun Q2 hQ2 => ?_
  refine WL.q (Y.fieldAddr0 (off := 0) (ft := 3) Try.underlying227 rfl cells3 (.pl rfl)) rfl ?_
  refine WL.q (Y.loadB (v := .int .i64 value1) Try.underlying3 rfl (.pl rfl) (i := 0) rfl (rfl)) rfl ?_
  refine WL.q (Y.fieldAddr0 (off := 4) (ft := 3) Try.underlying51 rfl cells3 (.pl rfl)) rfl ?_
  refine WL.q (Y.loadB (v := .int .i64 a10.res) Try.underlying3 rfl (.pl rfl) (i := 1) rfl (rfl)) rfl ?_
  refine WL.q (Y.eql (.pl rfl) (.pl rfl)) rfl ?_
  refine WL.q (Y.assign (.pl rfl)) rfl ?_
  refine WL.next hQ2 (.cons (i := 3) rfl (.nil)) ?_
  obtain rfl := Option.some.inj hF
  refine W.retV (fn := Try.f119) (vs := [.bool (decide (value1 = a10.res))]) Try.results119 ⟨.tmp rfl, trivial⟩ (fun _ _ h => h) (fun wz hw => ?_)
  exact hR _ _ ⟨(), trivial, rfl, (hw.pickK 2 [1] rfl)⟩

def slices_IndexFunc_zones_cluster_zones_cluster_L3 (N : Nat) (s3 : (List ZonesCluster)) (c6 : Call) : Int → Option (Int ⊕ (Unit ⊕ Int))
  | v7 =>
    cond (decide (v7 < ((s3).length : Int)))
      (bd (ix s3 v7) fun (x8 : ZonesCluster) =>
      bd (zones_reads_1 N x8.value x8.write x8.from_ x8.reads x8.zone x8.counts c6) fun (r9 : Unit) =>
      cond (decide (x8.value = c6.res))
        (some (.inr (.inr v7)))
        (ck (ok64 (v7 + 1)) <|
        some (.inl (v7 + 1))))
      (some (.inr (.inl ())))

def slices_IndexFunc_zones_cluster_zones_cluster (N : Nat) (s3 : (List ZonesCluster)) (c6 : Call) : Option Int :=
  bd (α := (Unit ⊕ Int)) (iter (slices_IndexFunc_zones_cluster_zones_cluster_L3 N s3 c6) N 0) <|
  Sum.elim (fun _ => 
    some (-1)) (fun p => some p)

theorem slices_IndexFunc_zones_cluster_zones_cluster_ok {N : Nat} {s3 : (List ZonesCluster)} {c6 : Call} {A1 : Option Addr} {c2 : Nat} {hd4 : List Hd} {b5 : Nat} {res : Int} (hF : slices_IndexFunc_zones_cluster_zones_cluster N s3 c6 = some res) {w0 w : World} {T : List Chunk} (hw : St w0.heap.size w0 ([cN encNZonesCluster innNZonesCluster 9 A1 c2 227 hd4 s3, cBx b5 51 (encCall c6)] ++ T) w) :
    Calls Try.prog 118 (List.toArray [.slice A1 (s3).length c2, .func (.func 119) #[] #[.pointer (some ⟨b5, 0, none⟩)]]) w (fun e w' => ∃ g : Unit, (True) ∧ e = .returned (.int .i64 res) ∧ St w0.heap.size w0 ([cN encNZonesCluster innNZonesCluster 9 A1 c2 227 hd4 s3, cBx b5 51 (encCall c6)] ++ T) w') := by
  refine W.enter (n := 19) Try.func118 rfl rfl Sub.refl (by simp) hw fun R hR => ?_
  unfold slices_IndexFunc_zones_cluster_zones_cluster at hF
  refine W.seqR fun Q1 hQ1 => ?_
  refine WL.q (Y.assign (.pl rfl)) rfl ?_
  refine WL.next hQ1 (.cons (i := 0) rfl (.cons (i := 1) rfl (.nil))) ?_
  obtain ⟨o2, hF2, hF⟩ := bnd hF
  refine W.join0 (Em := []) (M := ([cN encNZonesCluster innNZonesCluster 9 A1 c2 227 hd4 s3, cBx b5 51 (encCall c6)] ++ T)) (I := (.inl ()) = o2) (.nil) (fun K3 hK3 => ?_) ?_
  · -- up to
    refine W.seqR fun Q4 hQ4 => ?_
    refine WL.q (Y.move (.pl rfl)) rfl ?_
    refine WL.q (Y.len Try.underlying162 (.pl rfl)) rfl ?_
    refine WL.q (Y.move (.pl rfl)) rfl ?_
    refine WL.next hQ4 (.cons (i := 0) rfl (.cons (i := 1) rfl (.cons (i := 7) rfl (.cons (i := 8) rfl (.nil))))) ?_
    refine W.block ?_
    refine W.loop1 (Em := fun (v7 : Int) => [(8, .int .i64 v7)]) (M := fun v7 => ([cN encNZonesCluster innNZonesCluster 9 A1 c2 227 hd4 s3, cBx b5 51 (encCall c6)] ++ T)) (I := fun v7 k5 => iter (slices_IndexFunc_zones_cluster_zones_cluster_L3 N s3 c6) k5 v7 = some o2) 0 N (hF2) (.cons rfl (.nil)) (.cons (i := 0) rfl (.cons (i := 1) rfl (.cons (i := 7) rfl (.nil)))) (fun wz hw => hw.pickK 2 [0, 1] rfl) (fun v7 k5 hI K6 hK6 => ?_)
    obtain ⟨k5, t5, rfl, hF5, hN5⟩ := iter_step hI
    refine W.seqR fun Q7 hQ7 => ?_
    refine WL.q (Y.lss (.pl rfl) (.pl rfl)) rfl ?_
    refine WL.next hQ7 (.cons (i := 0) rfl (.cons (i := 1) rfl (.cons (i := 7) rfl (.cons (i := 8) rfl (.cons (i := 9) rfl (.nil)))))) ?_
    refine W.seq fun K8 hK8 => ?_
    refine W.cond (.pl rfl) (fun hC9 => ?_) (fun hC9 => ?_)
    · replace hF5 := cpos hC9 hF5
      refine W.skip ?_
      refine W.go hK8 (.cons (i := 0) rfl (.cons (i := 1) rfl (.cons (i := 7) rfl (.cons (i := 8) rfl (.nil))))) ?_
      refine W.seq fun K10 hK10 => ?_
      refine W.block ?_
      refine W.seqR fun Q11 hQ11 => ?_
      refine WL.q (Y.move (.pl rfl)) rfl ?_
      refine WL.q (Y.assign (.pl rfl)) rfl ?_
      refine WL.next hQ11 (.cons (i := 0) rfl (.cons (i := 1) rfl (.cons (i := 5) rfl (.cons (i := 7) rfl (.cons (i := 8) rfl (.nil)))))) ?_
      refine W.seqR fun Q12 hQ12 => ?_
      refine WL.q (Y.move (.pl rfl)) rfl ?_
      refine WL.q (Y.move (.pl rfl)) rfl ?_
      refine WL.q (Y.move (.pl rfl)) rfl ?_
      obtain ⟨x8, hx8, hF5⟩ := bnd hF5
      refine WL.q (Y.nEl Try.underlying162 cells227 (i := 0) rfl (.pl rfl) rfl (.pl rfl) (ix_lt (hx8))) rfl ?_
      refine WL.q (Y.loadNA (enc := encNZonesCluster) (h0 := ((none, 0) : Hd)) (ds := (Value.int .i64 x8.value :: (Value.int .i64 x8.write :: (Value.int .i64 x8.from_ :: (Value.slice (hd4.getD v7.toNat ((none, 0) : Hd)).1 (x8.reads).length (hd4.getD v7.toNat ((none, 0) : Hd)).2 :: ((encZone x8.zone) ++ (Value.bool x8.counts :: []))))))) (a := (ZonesCluster.mk x8.value x8.write x8.from_ x8.reads x8.zone x8.counts)) (idx := v7) (j := 0) Try.underlying227 rfl cells227 lenNZonesCluster (i := 0) rfl (.pl rfl) (ix_get (hx8)) rfl rfl subW) rfl ?_
      obtain ⟨r9, hr9, hF5⟩ := bnd hF5
      refine WL.step (WO.callG (γ := Unit) (first := []) (cap := [.pointer (some ⟨b5, 0, none⟩)]) (fun g => .bool (decide (x8.value = c6.res))) (fun g => ([cBx b5 51 (encCall c6), cN encNZonesCluster innNZonesCluster 9 A1 c2 227 hd4 s3] ++ T)) (fun g => True) isGo119 (.pl rfl) (.cons (.pl rfl) (.nil)) rfl (fun wz hw => zones_reads_1_ok (T := ([cN encNZonesCluster innNZonesCluster 9 A1 c2 227 hd4 s3] ++ T)) (hr9) (hw.pickK 2 [1, 0] rfl) ) ?_)
      rintro _ -
      refine WL.next hQ12 (.cons (i := 0) rfl (.cons (i := 1) rfl (.cons (i := 5) rfl (.cons (i := 7) rfl (.cons (i := 8) rfl (.cons (i := 16) rfl (.nil))))))) ?_
      refine W.cond (.pl rfl) (fun hC13 => ?_) (fun hC13 => ?_)
      · replace hF5 := cpos hC13 hF5
        refine W.seqR fun Q14 hQ14 => ?_
        refine WL.q (Y.move (.pl rfl)) rfl ?_
        refine WL.q (Y.assign (.pl rfl)) rfl ?_
        refine WL.next hQ14 (.cons (i := 4) rfl (.nil)) ?_
        obtain rfl := Option.some.inj hF5
        obtain rfl := einr hN5
        obtain rfl := Option.some.inj hF
        refine W.retV (fn := Try.f118) (vs := [.int .i64 v7]) Try.results118 ⟨.tmp rfl, trivial⟩ (fun _ _ h => h) (fun wz hw => ?_)
        exact hR _ _ ⟨(), trivial, rfl, (hw.pickK 2 [1, 0] rfl)⟩
      · replace hF5 := cneg hC13 hF5
        refine W.skip ?_
        refine W.go hK10 (.cons (i := 0) rfl (.cons (i := 1) rfl (.cons (i := 7) rfl (.cons (i := 8) rfl (.nil))))) ?_
        refine W.reg ?_
        obtain ⟨hk10, hF5⟩ := ckh hF5
        refine WL.q (Y.add (.pl rfl) (.pl rfl) (ok64_lt (hk10))) rfl ?_
        refine WL.q (Y.move (.pl rfl)) rfl ?_
        refine WL.nil ?_
        obtain rfl := Option.some.inj hF5
        exact W.again1 hK6 (v7 + 1) k5 hN5 (Nat.lt_succ_self _) (.cons rfl (.nil)) (.cons (i := 0) rfl (.cons (i := 1) rfl (.cons (i := 7) rfl (.nil)))) (fun wz hw => hw.pickK 2 [1, 0] rfl)
    · replace hF5 := cneg hC9 hF5
      refine W.exit ?_
      obtain rfl := Option.some.inj hF5
      exact W.joinAt0 hK3  (einr hN5) (.nil) (.nil) (fun wz hw => hw.pickK 2 [0, 1] rfl)
  · -- behind
    rintro  rfl
    refine W.seqR fun Q16 hQ16 => ?_
    refine WL.q (Y.assign (.pl rfl)) rfl ?_
    refine WL.next hQ16 (.cons (i := 4) rfl (.nil)) ?_
    obtain rfl := Option.some.inj hF
    refine W.retV (fn := Try.f118) (vs := [.int .i64 (-1)]) Try.results118 ⟨.tmp rfl, trivial⟩ (fun _ _ h => h) (fun wz hw => ?_)
    exact hR _ _ ⟨(), trivial, rfl, (hw.pickK 2 [0, 1] rfl)⟩

def zones_reads_L3 (N : Nat) (c3 : (List Call)) (l6 : (List ZonesCluster)) : (Int × Int × Int × Int) → Option ((Int × Int × Int × Int) ⊕ ((Int × Int × Int) ⊕ (Int × Int × Int)))
  | (Kind13, A14, B15, v16) =>
    cond (decide (v16 < ((c3).length : Int)))
      (bd (ix c3 v16) fun (x17 : Call) =>
      cond ((!(decide (x17.kind = 2))) || (decide (x17.to_ = (-1))))
        (ck (ok64 (v16 + 1)) <|
        some (.inl (Kind13, A14, B15, (v16 + 1))))
        (bd (slices_IndexFunc_zones_cluster_zones_cluster N l6 x17) fun (r20 : Int) =>
        cond (decide (r20 < 0))
          (some (.inr (.inr (1, v16, 0))))
          (bd ((cond ((decide (Kind13 = 0)) == true) (ix l6 r20) (some ZonesCluster.z))) fun (x21 : ZonesCluster) =>
          cond ((decide (Kind13 = 0)) && (decide (x17.to_ < x21.from_)))
            (bd (ix l6 r20) fun (x22 : ZonesCluster) =>
            ck (ok64 (v16 + 1)) <|
            some (.inl (3, v16, x22.write, (v16 + 1))))
            (ck (ok64 (v16 + 1)) <|
            some (.inl (Kind13, A14, B15, (v16 + 1)))))))
      (some (.inr (.inl (Kind13, A14, B15))))

def zones_reads (N : Nat) (c3 : (List Call)) (l6 : (List ZonesCluster)) : Option (Int × Int × Int) :=
  bd (α := ((Int × Int × Int) ⊕ (Int × Int × Int))) (iter (zones_reads_L3 N c3 l6) N (0, 0, 0, 0)) <|
  Sum.elim (fun (Kind10, A11, B12) => 
    some (Kind10, A11, B12)) (fun p => some p)

theorem zones_reads_ok {N : Nat} {c3 : (List Call)} {l6 : (List ZonesCluster)} {A1 : Option Addr} {c2 : Nat} {A4 : Option Addr} {c5 : Nat} {hd7 : List Hd} {res : (Int × Int × Int)} (hF : zones_reads N c3 l6 = some res) {w0 w : World} {T : List Chunk} (hw : St w0.heap.size w0 ([cR encCall 7 A1 c2 51 c3, cN encNZonesCluster innNZonesCluster 9 A4 c5 227 hd7 l6] ++ T) w) :
    Calls Try.prog 83 (List.toArray [.slice A1 (c3).length c2, .slice A4 (l6).length c5]) w (fun e w' => ∃ g : Unit, (True) ∧ e = .returned (.agg (encBad (Bad.mk res.1 res.2.1 res.2.2)).toArray) ∧ St w0.heap.size w0 ([cR encCall 7 A1 c2 51 c3, cN encNZonesCluster innNZonesCluster 9 A4 c5 227 hd7 l6] ++ T) w') := by
  refine W.enter (n := 54) Try.func83 rfl rfl Sub.refl (by simp) hw fun R hR => ?_
  unfold zones_reads at hF
  refine W.seqR fun Q1 hQ1 => ?_
  refine WL.step (WO.alloc (cs := (encBad (Bad.mk 0 0 0)).toArray) zero69 rfl rfl fun b8 => ?_)
  refine WL.next hQ1 (.cons (i := 0) rfl (.cons (i := 1) rfl (.cons (i := 4) rfl (.nil)))) ?_
  refine W.seqR fun Q2 hQ2 => ?_
  refine WL.q (Y.build (cs := (encBad (Bad.mk 0 0 0)).toArray) shape69 (.nil) (one_parts trivial) rfl) rfl ?_
  refine WL.step (WO.alloc (cs := (encBad (Bad.mk 0 0 0)).toArray) zero69 rfl rfl fun b9 => ?_)
  refine WL.step (WO.storeBA (ds := (encBad (Bad.mk 0 0 0))) (cs' := (encBad (Bad.mk 0 0 0))) cells69 (.pl rfl) (.pl rfl) rfl (oneBad _) (i := 0) rfl (lel (o := 0) (l := 3) (m := 3) (by decide) rfl rfl) (putW rfl) ?_)
  refine WL.next hQ2 (.cons (i := 0) rfl (.cons (i := 1) rfl (.cons (i := 4) rfl (.cons (i := 5) rfl (.nil))))) ?_
  obtain ⟨o3, hF3, hF⟩ := bnd hF
  refine W.join3 (Em := fun (Kind10 : Int) (A11 : Int) (B12 : Int) => []) (M := fun Kind10 A11 B12 => ([cR encCall 7 A1 c2 51 c3, cN encNZonesCluster innNZonesCluster 9 A4 c5 227 hd7 l6, cBx b8 69 (encBad (Bad.mk 0 0 0)), cBx b9 69 (encBad (Bad.mk Kind10 A11 B12))] ++ T)) (I := fun Kind10 A11 B12 => (.inl (Kind10, A11, B12)) = o3) (.cons (i := 4) rfl (.cons (i := 5) rfl (.nil))) (fun K4 hK4 => ?_) ?_
  · -- up to
    refine W.seqR fun Q5 hQ5 => ?_
    refine WL.q (Y.move (.pl rfl)) rfl ?_
    refine WL.q (Y.len Try.underlying44 (.pl rfl)) rfl ?_
    refine WL.q (Y.move (.pl rfl)) rfl ?_
    refine WL.next hQ5 (.cons (i := 1) rfl (.cons (i := 4) rfl (.cons (i := 5) rfl (.cons (i := 10) rfl (.cons (i := 11) rfl (.cons (i := 12) rfl (.nil))))))) ?_
    refine W.block ?_
    refine W.loop4 (Em := fun (Kind13 : Int) (A14 : Int) (B15 : Int) (v16 : Int) => [(12, .int .i64 v16)]) (M := fun Kind13 A14 B15 v16 => ([cR encCall 7 A1 c2 51 c3, cN encNZonesCluster innNZonesCluster 9 A4 c5 227 hd7 l6, cBx b8 69 (encBad (Bad.mk 0 0 0)), cBx b9 69 (encBad (Bad.mk Kind13 A14 B15))] ++ T)) (I := fun Kind13 A14 B15 v16 k6 => iter (zones_reads_L3 N c3 l6) k6 (Kind13, A14, B15, v16) = some o3) 0 0 0 0 N (hF3) (.cons rfl (.nil)) (.cons (i := 1) rfl (.cons (i := 4) rfl (.cons (i := 5) rfl (.cons (i := 10) rfl (.cons (i := 11) rfl (.nil)))))) (fun wz hw => hw.pickK 4 [2, 3, 1, 0] rfl) (fun Kind13 A14 B15 v16 k6 hI K7 hK7 => ?_)
    obtain ⟨k6, t6, rfl, hF6, hN6⟩ := iter_step hI
    refine W.seqR fun Q8 hQ8 => ?_
    refine WL.q (Y.lss (.pl rfl) (.pl rfl)) rfl ?_
    refine WL.next hQ8 (.cons (i := 1) rfl (.cons (i := 4) rfl (.cons (i := 5) rfl (.cons (i := 10) rfl (.cons (i := 11) rfl (.cons (i := 12) rfl (.cons (i := 13) rfl (.nil)))))))) ?_
    refine W.seq fun K9 hK9 => ?_
    refine W.cond (.pl rfl) (fun hC10 => ?_) (fun hC10 => ?_)
    · replace hF6 := cpos hC10 hF6
      refine W.skip ?_
      refine W.go hK9 (.cons (i := 1) rfl (.cons (i := 4) rfl (.cons (i := 5) rfl (.cons (i := 10) rfl (.cons (i := 11) rfl (.cons (i := 12) rfl (.nil))))))) ?_
      refine W.seq fun K11 hK11 => ?_
      refine W.block ?_
      refine W.seqR fun Q12 hQ12 => ?_
      refine WL.q (Y.move (.pl rfl)) rfl ?_
      obtain ⟨x17, hx17, hF6⟩ := bnd hF6
      refine WL.q (Y.rowEl Try.underlying44 cells51 (i := 0) rfl (.pl rfl) rfl (.pl rfl) (ix_lt (hx17))) rfl ?_
      refine WL.q (Y.loadRA (enc := encCall) (ds := (encCall x17)) (a := x17) (idx := v16) (j := 0) Try.underlying51 rfl cells51 lenCall (i := 0) rfl (.pl rfl) (ix_get (hx17)) rfl rfl subW) rfl ?_
      refine WL.step (WO.alloc (cs := (encCall (Call.mk 0 0 0 0 0 0 0)).toArray) zero51 rfl rfl fun b18 => ?_)
      refine WL.q (Y.assign (.pl rfl)) rfl ?_
      refine WL.step (WO.storeBA (ds := (encCall x17)) (cs' := (encCall x17)) cells51 (.pl rfl) (.pl rfl) rfl (oneCall _) (i := 0) rfl (lel (o := 0) (l := 7) (m := 7) (by decide) rfl rfl) (putW rfl) ?_)
      refine WL.next hQ12 (.cons (i := 1) rfl (.cons (i := 4) rfl (.cons (i := 5) rfl (.cons (i := 6) rfl (.cons (i := 7) rfl (.cons (i := 10) rfl (.cons (i := 11) rfl (.cons (i := 12) rfl (.nil))))))))) ?_
      refine W.seq fun K13 hK13 => ?_
      refine W.seqR fun Q14 hQ14 => ?_
      refine WL.q (Y.fieldAddr0 (off := 2) (ft := 3) Try.underlying51 rfl cells3 (.pl rfl)) rfl ?_
      refine WL.q (Y.loadB (v := .int .i64 x17.kind) Try.underlying3 rfl (.pl rfl) (i := 0) rfl (rfl)) rfl ?_
      refine WL.q (Y.neq (.pl rfl) (.pl rfl)) rfl ?_
      refine WL.q (Y.move (.pl rfl)) rfl ?_
      refine WL.g (.pl rfl rfl rfl) (fun hg => Y.fieldAddr0 (off := 6) (ft := 3) Try.underlying51 rfl cells3 (.pl rfl)) rfl ?_
      refine WL.g (.pl rfl rfl rfl) (fun hg => Y.loadB (v := .int .i64 x17.to_) Try.underlying3 rfl (.gd (hg) rfl) (i := 0) rfl (rfl)) rfl ?_
      refine WL.g (.pl rfl rfl rfl) (fun hg => Y.eql (.gd (hg) rfl) (.pl rfl)) rfl ?_
      refine WL.q (Y.or (.pl rfl) (fun h2 => .gd (eqf h2) rfl)) rfl ?_
      refine WL.next hQ14 (.cons (i := 1) rfl (.cons (i := 4) rfl (.cons (i := 5) rfl (.cons (i := 6) rfl (.cons (i := 7) rfl (.cons (i := 10) rfl (.cons (i := 11) rfl (.cons (i := 12) rfl (.cons (i := 24) rfl (.nil)))))))))) ?_
      refine W.cond (.pl rfl) (fun hC15 => ?_) (fun hC15 => ?_)
      · replace hF6 := cpos hC15 hF6
        refine W.exit ?_
        refine W.go hK11 (.cons (i := 1) rfl (.cons (i := 4) rfl (.cons (i := 5) rfl (.cons (i := 10) rfl (.cons (i := 11) rfl (.cons (i := 12) rfl (.nil))))))) ?_
        refine W.reg ?_
        obtain ⟨hk19, hF6⟩ := ckh hF6
        refine WL.q (Y.add (.pl rfl) (.pl rfl) (ok64_lt (hk19))) rfl ?_
        refine WL.q (Y.move (.pl rfl)) rfl ?_
        refine WL.nil ?_
        obtain rfl := Option.some.inj hF6
        exact W.again4 hK7 Kind13 A14 B15 (v16 + 1) k6 hN6 (Nat.lt_succ_self _) (.cons rfl (.nil)) (.cons (i := 1) rfl (.cons (i := 4) rfl (.cons (i := 5) rfl (.cons (i := 10) rfl (.cons (i := 11) rfl (.nil)))))) (fun wz hw => hw.pickK 5 [1, 2, 3, 4] rfl)
      · replace hF6 := cneg hC15 hF6
        refine W.skip ?_
        refine W.go hK13 (.cons (i := 1) rfl (.cons (i := 4) rfl (.cons (i := 5) rfl (.cons (i := 6) rfl (.cons (i := 7) rfl (.cons (i := 10) rfl (.cons (i := 11) rfl (.cons (i := 12) rfl (.nil))))))))) ?_
        refine W.seqR fun Q17 hQ17 => ?_
        refine WL.q (Y.move (.pl rfl)) rfl ?_
        refine WL.q (Y.fnC (.cons (.pl rfl) (.nil))) rfl ?_
        obtain ⟨r20, hr20, hF6⟩ := bnd hF6
        refine WL.step (WO.call (γ := Unit) (fun g => .int .i64 r20) (fun g => ([cN encNZonesCluster innNZonesCluster 9 A4 c5 227 hd7 l6, cBx b18 51 (encCall x17), cR encCall 7 A1 c2 51 c3, cBx b8 69 (encBad (Bad.mk 0 0 0)), cBx b9 69 (encBad (Bad.mk Kind13 A14 B15))] ++ T)) (fun g => True) isGo118 (.cons (.pl rfl) (.cons (.pl rfl) (.nil))) rfl (fun wz hw => slices_IndexFunc_zones_cluster_zones_cluster_ok (T := ([cR encCall 7 A1 c2 51 c3, cBx b8 69 (encBad (Bad.mk 0 0 0)), cBx b9 69 (encBad (Bad.mk Kind13 A14 B15))] ++ T)) (hr20) (hw.pickK 5 [2, 0, 1, 3, 4] rfl) ) ?_)
        rintro _ -
        refine WL.q (Y.assign (.pl rfl)) rfl ?_
        refine WL.next hQ17 (.cons (i := 1) rfl (.cons (i := 4) rfl (.cons (i := 5) rfl (.cons (i := 6) rfl (.cons (i := 7) rfl (.cons (i := 8) rfl (.cons (i := 10) rfl (.cons (i := 11) rfl (.cons (i := 12) rfl (.nil)))))))))) ?_
        refine W.seq fun K18 hK18 => ?_
        refine W.seqR fun Q19 hQ19 => ?_
        refine WL.q (Y.move (.pl rfl)) rfl ?_
        refine WL.q (Y.lss (.pl rfl) (.pl rfl)) rfl ?_
        refine WL.next hQ19 (.cons (i := 1) rfl (.cons (i := 4) rfl (.cons (i := 5) rfl (.cons (i := 6) rfl (.cons (i := 7) rfl (.cons (i := 8) rfl (.cons (i := 10) rfl (.cons (i := 11) rfl (.cons (i := 12) rfl (.cons (i := 29) rfl (.nil))))))))))) ?_
        refine W.cond (.pl rfl) (fun hC20 => ?_) (fun hC20 => ?_)
        · replace hF6 := cpos hC20 hF6
          refine W.seqR fun Q21 hQ21 => ?_
          refine WL.q (Y.move (.pl rfl)) rfl ?_
          refine WL.q (Y.build (cs := (encBad (Bad.mk 1 v16 0)).toArray) shape69 (.cons (.pl rfl) (.cons (.pl rfl) (.nil))) (one_parts ⟨rfl, ⟨rfl, trivial⟩⟩) rfl) rfl ?_
          refine WL.step (WO.storeBA (ds := (encBad (Bad.mk 1 v16 0))) (cs' := (encBad (Bad.mk 1 v16 0))) cells69 (.pl rfl) (.pl rfl) rfl (oneBad _) (i := 3) rfl (lel (o := 0) (l := 3) (m := 3) (by decide) rfl rfl) (putW rfl) ?_)
          refine WL.next hQ21 (.cons (i := 4) rfl (.nil)) ?_
          obtain rfl := Option.some.inj hF6
          obtain rfl := einr hN6
          obtain rfl := Option.some.inj hF
          refine W.retV (fn := Try.f83) (vs := [.agg (encBad (Bad.mk 1 v16 0)).toArray]) Try.results83 ⟨.cellA Try.underlying69 rfl cells69 rfl (i := 3) rfl rfl, trivial⟩ (fun _ _ h => h) (fun wz hw => ?_)
          exact hR _ _ ⟨(), trivial, rfl, (hw.pickK 5 [2, 0] rfl)⟩
        · replace hF6 := cneg hC20 hF6
          refine W.skip ?_
          refine W.go hK18 (.cons (i := 1) rfl (.cons (i := 4) rfl (.cons (i := 5) rfl (.cons (i := 6) rfl (.cons (i := 7) rfl (.cons (i := 8) rfl (.cons (i := 10) rfl (.cons (i := 11) rfl (.cons (i := 12) rfl (.nil)))))))))) ?_
          refine W.seqD (by kernel_rfl) (by kernel_rfl) fun R22 hR22 => ?_
          refine WD.q (Y.fieldAddr0 (off := 0) (ft := 3) Try.underlying69 rfl cells3 (.pl rfl)) rfl ?_
          refine WD.q (Y.loadB (v := .int .i64 Kind13) Try.underlying3 rfl (.pl rfl) (i := 4) rfl (rfl)) rfl ?_
          refine WD.q (Y.eql (.pl rfl) (.pl rfl)) rfl ?_
          refine WD.q (Y.move (.pl rfl)) rfl ?_
          refine WD.g (.pl rfl rfl rfl) (fun hg => Y.fieldAddr0 (off := 6) (ft := 3) Try.underlying51 rfl cells3 (.pl rfl)) rfl ?_
          refine WD.g (.pl rfl rfl rfl) (fun hg => Y.loadB (v := .int .i64 x17.to_) Try.underlying3 rfl (.gd (hg) rfl) (i := 1) rfl (rfl)) rfl ?_
          refine WD.g (.pl rfl rfl rfl) (fun hg => Y.move (.pl rfl)) rfl ?_
          refine WD.g (.pl rfl rfl rfl) (fun hg => Y.move (.pl rfl)) rfl ?_
          obtain ⟨x21, hx21, hF6⟩ := bnd hF6
          refine WD.g (.pl rfl rfl rfl) (fun hg => Y.nEl Try.underlying162 cells227 (i := 0) rfl (.gd (hg) rfl) rfl (.gd (hg) rfl) (ix_lt (gpos hg hx21))) rfl ?_
          refine WD.g (.pl rfl rfl rfl) (fun hg => Y.nField (off := 2) (ft := 3) Try.underlying227 rfl cells3 (i' := 0) rfl (ix_lt (gpos hg hx21)) (.gd (hg) rfl)) rfl ?_
          refine WD.g (.pl rfl rfl rfl) (fun hg => Y.loadN (enc := encNZonesCluster) (h0 := ((none, 0) : Hd)) (v := .int .i64 x21.from_) (a := (ZonesCluster.mk x21.value x21.write x21.from_ x21.reads x21.zone x21.counts)) (idx := r20) (j := 2) Try.underlying3 rfl lenNZonesCluster (i := 0) rfl (.gd (hg) rfl) (ix_get (gpos hg hx21)) rfl rfl) rfl ?_
          refine WD.g (.pl rfl rfl rfl) (fun hg => Y.lss (.gd (hg) rfl) (.gd (hg) rfl)) rfl ?_
          refine WD.q (Y.and (.pl rfl) (fun h2 => .gd (eqt h2) rfl)) rfl ?_
          refine WD.next hR22 (.cons (i := 1) rfl (.cons (i := 4) rfl (.cons (i := 5) rfl (.cons (i := 6) rfl (.cons (i := 8) rfl (.cons (i := 10) rfl (.cons (i := 11) rfl (.cons (i := 12) rfl (.cons (i := 44) rfl (.nil)))))))))) ?_
          refine W.cond (.pl rfl) (fun hC23 => ?_) (fun hC23 => ?_)
          · replace hF6 := cpos hC23 hF6
            refine W.reg ?_
            refine WL.q (Y.move (.pl rfl)) rfl ?_
            refine WL.q (Y.move (.pl rfl)) rfl ?_
            refine WL.q (Y.move (.pl rfl)) rfl ?_
            obtain ⟨x22, hx22, hF6⟩ := bnd hF6
            refine WL.q (Y.nEl Try.underlying162 cells227 (i := 0) rfl (.pl rfl) rfl (.pl rfl) (ix_lt (hx22))) rfl ?_
            refine WL.q (Y.nField (off := 1) (ft := 3) Try.underlying227 rfl cells3 (i' := 0) rfl (ix_lt (hx22)) (.pl rfl)) rfl ?_
            refine WL.q (Y.loadN (enc := encNZonesCluster) (h0 := ((none, 0) : Hd)) (v := .int .i64 x22.write) (a := (ZonesCluster.mk x22.value x22.write x22.from_ x22.reads x22.zone x22.counts)) (idx := r20) (j := 1) Try.underlying3 rfl lenNZonesCluster (i := 0) rfl (.pl rfl) (ix_get (hx22)) rfl rfl) rfl ?_
            refine WL.q (Y.build (cs := (encBad (Bad.mk 3 v16 x22.write)).toArray) shape69 (.cons (.pl rfl) (.cons (.pl rfl) (.cons (.pl rfl) (.nil)))) (one_parts ⟨rfl, ⟨rfl, ⟨rfl, trivial⟩⟩⟩) rfl) rfl ?_
            refine WL.step (WO.storeBA (ds := (encBad (Bad.mk 3 v16 x22.write))) (cs' := (encBad (Bad.mk 3 v16 x22.write))) cells69 (.pl rfl) (.pl rfl) rfl (oneBad _) (i := 4) rfl (lel (o := 0) (l := 3) (m := 3) (by decide) rfl rfl) (putW rfl) ?_)
            refine WL.nil ?_
            refine W.go hK11 (.cons (i := 1) rfl (.cons (i := 4) rfl (.cons (i := 5) rfl (.cons (i := 10) rfl (.cons (i := 11) rfl (.cons (i := 12) rfl (.nil))))))) ?_
            refine W.reg ?_
            obtain ⟨hk23, hF6⟩ := ckh hF6
            refine WL.q (Y.add (.pl rfl) (.pl rfl) (ok64_lt (hk23))) rfl ?_
            refine WL.q (Y.move (.pl rfl)) rfl ?_
            refine WL.nil ?_
            obtain rfl := Option.some.inj hF6
            exact W.again4 hK7 3 v16 x22.write (v16 + 1) k6 hN6 (Nat.lt_succ_self _) (.cons rfl (.nil)) (.cons (i := 1) rfl (.cons (i := 4) rfl (.cons (i := 5) rfl (.cons (i := 10) rfl (.cons (i := 11) rfl (.nil)))))) (fun wz hw => hw.pickK 5 [2, 0, 3, 4] rfl)
          · replace hF6 := cneg hC23 hF6
            refine W.skip ?_
            refine W.go hK11 (.cons (i := 1) rfl (.cons (i := 4) rfl (.cons (i := 5) rfl (.cons (i := 10) rfl (.cons (i := 11) rfl (.cons (i := 12) rfl (.nil))))))) ?_
            refine W.reg ?_
            obtain ⟨hk24, hF6⟩ := ckh hF6
            refine WL.q (Y.add (.pl rfl) (.pl rfl) (ok64_lt (hk24))) rfl ?_
            refine WL.q (Y.move (.pl rfl)) rfl ?_
            refine WL.nil ?_
            obtain rfl := Option.some.inj hF6
            exact W.again4 hK7 Kind13 A14 B15 (v16 + 1) k6 hN6 (Nat.lt_succ_self _) (.cons rfl (.nil)) (.cons (i := 1) rfl (.cons (i := 4) rfl (.cons (i := 5) rfl (.cons (i := 10) rfl (.cons (i := 11) rfl (.nil)))))) (fun wz hw => hw.pickK 5 [2, 0, 3, 4] rfl)
    · replace hF6 := cneg hC10 hF6
      refine W.exit ?_
      obtain rfl := Option.some.inj hF6
      exact W.joinAt3 hK4 Kind13 A14 B15 (einr hN6) (.nil) (.cons (i := 4) rfl (.cons (i := 5) rfl (.nil))) (fun wz hw => hw.pickK 4 [0, 1, 2, 3] rfl)
  · -- behind
    rintro Kind10 A11 B12 rfl
    refine W.seqR fun Q27 hQ27 => ?_
    refine WL.q (Y.loadBA (ds := (encBad (Bad.mk Kind10 A11 B12))) Try.underlying69 rfl cells69 (.pl rfl) (i := 3) rfl rfl subW) rfl ?_
    refine WL.step (WO.storeBA (ds := (encBad (Bad.mk Kind10 A11 B12))) (cs' := (encBad (Bad.mk Kind10 A11 B12))) cells69 (.pl rfl) (.pl rfl) rfl (oneBad _) (i := 2) rfl (lel (o := 0) (l := 3) (m := 3) (by decide) rfl rfl) (putW rfl) ?_)
    refine WL.next hQ27 (.cons (i := 4) rfl (.nil)) ?_
    obtain rfl := Option.some.inj hF
    refine W.retV (fn := Try.f83) (vs := [.agg (encBad (Bad.mk Kind10 A11 B12)).toArray]) Try.results83 ⟨.cellA Try.underlying69 rfl cells69 rfl (i := 2) rfl rfl, trivial⟩ (fun _ _ h => h) (fun wz hw => ?_)
    exact hR _ _ ⟨(), trivial, rfl, (hw.pickK 4 [0, 1] rfl)⟩

def zones_zonesOf_L3 (N : Nat) (l3 : (List ZonesCluster)) : ((List Zone) × Int) → Option (((List Zone) × Int) ⊕ (List Zone))
  | (out10, v11) =>
    cond (decide (v11 < ((l3).length : Int)))
      (bd (ix l3 v11) fun (x12 : ZonesCluster) =>
      cond x12.counts
        (ck (limB 32 ((out10).length + (([x12.zone] : List Zone)).length)) <|
        ck (ok64 (v11 + 1)) <|
        some (.inl ((out10 ++ ([x12.zone] : List Zone)), (v11 + 1))))
        (ck (ok64 (v11 + 1)) <|
        some (.inl (out10, (v11 + 1)))))
      (some (.inr out10))

def zones_zonesOf (N : Nat) (l3 : (List ZonesCluster)) : Option (List Zone) :=
  bd (α := (List Zone)) (iter (zones_zonesOf_L3 N l3) N ([], 0)) <|
  fun (out7 : (List Zone)) => 
    some out7

theorem zones_zonesOf_ok {N : Nat} {l3 : (List ZonesCluster)} {A1 : Option Addr} {c2 : Nat} {hd4 : List Hd} {res : (List Zone)} (hF : zones_zonesOf N l3 = some res) {w0 w : World} {T : List Chunk} (hw : St w0.heap.size w0 ([cN encNZonesCluster innNZonesCluster 9 A1 c2 227 hd4 l3] ++ T) w) :
    Calls Try.prog 85 (List.toArray [.slice A1 (l3).length c2]) w (fun e w' => ∃ g : (Option Addr × Nat), (True) ∧ e = .returned (.slice g.1 (res).length g.2) ∧ St w0.heap.size w0 ([cN encNZonesCluster innNZonesCluster 9 A1 c2 227 hd4 l3, cR encZone 4 g.1 g.2 225 res] ++ T) w') := by
  refine W.enter (n := 21) Try.func85 rfl rfl Sub.refl (by simp) hw fun R hR => ?_
  unfold zones_zonesOf at hF
  refine W.seqR fun Q1 hQ1 => ?_
  refine WL.q (Y.assign (.pl rfl)) rfl ?_
  refine WL.next hQ1 (.cons (i := 0) rfl (.nil)) ?_
  refine W.seqR fun Q2 hQ2 => ?_
  refine WL.q (Y.assign (.pl rfl)) rfl ?_
  refine WL.next hQ2 (.cons (i := 0) rfl (.cons (i := 3) rfl (.nil))) ?_
  obtain ⟨o3, hF3, hF⟩ := bnd hF
  refine W.join3 (Em := fun (out7 : (List Zone)) (A5 : Option Addr) (c6 : Nat) => [(3, .slice A5 (out7).length c6)]) (M := fun out7 A5 c6 => ([cN encNZonesCluster innNZonesCluster 9 A1 c2 227 hd4 l3, cR encZone 4 A5 c6 225 out7] ++ T)) (I := fun out7 A5 c6 => out7 = o3) (.nil) (fun K4 hK4 => ?_) ?_
  · -- up to
    refine W.seqR fun Q5 hQ5 => ?_
    refine WL.q (Y.move (.pl rfl)) rfl ?_
    refine WL.q (Y.len Try.underlying162 (.pl rfl)) rfl ?_
    refine WL.q (Y.move (.pl rfl)) rfl ?_
    refine WL.next hQ5 (.cons (i := 3) rfl (.cons (i := 6) rfl (.cons (i := 7) rfl (.cons (i := 8) rfl (.nil))))) ?_
    refine W.block ?_
    refine W.loop4 (Em := fun (out10 : (List Zone)) (v11 : Int) (A8 : Option Addr) (c9 : Nat) => [(3, .slice A8 (out10).length c9), (8, .int .i64 v11)]) (M := fun out10 v11 A8 c9 => ([cN encNZonesCluster innNZonesCluster 9 A1 c2 227 hd4 l3, cR encZone 4 A8 c9 225 out10] ++ T)) (I := fun out10 v11 A8 c9 k6 => iter (zones_zonesOf_L3 N l3) k6 (out10, v11) = some o3) [] 0 none 0 N (hF3) (.cons rfl (.cons rfl (.nil))) (.cons (i := 6) rfl (.cons (i := 7) rfl (.nil))) (fun wz hw => (St.nilR (hw.pickK 1 [0] rfl) encZone 4 225).pickK 2 [1, 0] rfl) (fun out10 v11 A8 c9 k6 hI K7 hK7 => ?_)
    obtain ⟨k6, t6, rfl, hF6, hN6⟩ := iter_step hI
    refine W.seqR fun Q8 hQ8 => ?_
    refine WL.q (Y.lss (.pl rfl) (.pl rfl)) rfl ?_
    refine WL.next hQ8 (.cons (i := 3) rfl (.cons (i := 6) rfl (.cons (i := 7) rfl (.cons (i := 8) rfl (.cons (i := 9) rfl (.nil)))))) ?_
    refine W.seq fun K9 hK9 => ?_
    refine W.cond (.pl rfl) (fun hC10 => ?_) (fun hC10 => ?_)
    · replace hF6 := cpos hC10 hF6
      refine W.skip ?_
      refine W.go hK9 (.cons (i := 3) rfl (.cons (i := 6) rfl (.cons (i := 7) rfl (.cons (i := 8) rfl (.nil))))) ?_
      refine W.seq fun K11 hK11 => ?_
      refine W.block ?_
      refine W.seqR fun Q12 hQ12 => ?_
      obtain ⟨x12, hx12, hF6⟩ := bnd hF6
      refine WL.q (Y.nEl Try.underlying162 cells227 (i := 0) rfl (.pl rfl) rfl (.pl rfl) (ix_lt (hx12))) rfl ?_
      refine WL.q (Y.loadNA (enc := encNZonesCluster) (h0 := ((none, 0) : Hd)) (ds := (Value.int .i64 x12.value :: (Value.int .i64 x12.write :: (Value.int .i64 x12.from_ :: (Value.slice (hd4.getD v11.toNat ((none, 0) : Hd)).1 (x12.reads).length (hd4.getD v11.toNat ((none, 0) : Hd)).2 :: ((encZone x12.zone) ++ (Value.bool x12.counts :: []))))))) (a := (ZonesCluster.mk x12.value x12.write x12.from_ x12.reads x12.zone x12.counts)) (idx := v11) (j := 0) Try.underlying227 rfl cells227 lenNZonesCluster (i := 0) rfl (.pl rfl) (ix_get (hx12)) rfl rfl subW) rfl ?_
      refine WL.step (WO.alloc (cs := (Value.int .i64 0 :: (Value.int .i64 0 :: (Value.int .i64 0 :: (Value.slice none 0 0 :: ((encZone (Zone.mk 0 0 0 false)) ++ (Value.bool false :: [])))))).toArray) zero227 rfl rfl fun b13 => ?_)
      refine WL.step (WO.storeBA (ds := (Value.int .i64 x12.value :: (Value.int .i64 x12.write :: (Value.int .i64 x12.from_ :: (Value.slice (hd4.getD v11.toNat ((none, 0) : Hd)).1 (x12.reads).length (hd4.getD v11.toNat ((none, 0) : Hd)).2 :: ((encZone x12.zone) ++ (Value.bool x12.counts :: []))))))) (cs' := (Value.int .i64 x12.value :: (Value.int .i64 x12.write :: (Value.int .i64 x12.from_ :: (Value.slice (hd4.getD v11.toNat ((none, 0) : Hd)).1 (x12.reads).length (hd4.getD v11.toNat ((none, 0) : Hd)).2 :: ((encZone x12.zone) ++ (Value.bool x12.counts :: []))))))) cells227 (.pl rfl) (.pl rfl) rfl (one_cons rfl (one_cons rfl (one_cons rfl (one_cons rfl (one_app (oneZone _) (one_cons rfl one_nil)))))) (i := 0) rfl (lel (o := 0) (l := 9) (m := 9) (by decide) rfl rfl) (putW rfl) ?_)
      refine WL.next hQ12 (.cons (i := 3) rfl (.cons (i := 5) rfl (.cons (i := 6) rfl (.cons (i := 7) rfl (.cons (i := 8) rfl (.nil)))))) ?_
      refine W.seqR fun Q13 hQ13 => ?_
      refine WL.q (Y.fieldAddr0 (off := 8) (ft := 4) Try.underlying227 rfl cells4 (.pl rfl)) rfl ?_
      refine WL.q (Y.loadB (v := .bool x12.counts) Try.underlying4 rfl (.pl rfl) (i := 0) rfl (rfl)) rfl ?_
      refine WL.next hQ13 (.cons (i := 3) rfl (.cons (i := 5) rfl (.cons (i := 6) rfl (.cons (i := 7) rfl (.cons (i := 8) rfl (.cons (i := 13) rfl (.nil))))))) ?_
      refine W.cond (.pl rfl) (fun hC14 => ?_) (fun hC14 => ?_)
      · replace hF6 := cpos hC14 hF6
        refine W.reg ?_
        refine WL.q (Y.move (.pl rfl)) rfl ?_
        refine WL.q (Y.fieldAddr0 (off := 4) (ft := 225) Try.underlying227 rfl cells225 (.pl rfl)) rfl ?_
        refine WL.q (Y.loadBA (ds := (encZone x12.zone)) Try.underlying225 rfl cells225 (.pl rfl) (i := 0) rfl rfl (subM (pre := (Value.int .i64 x12.value :: (Value.int .i64 x12.write :: (Value.int .i64 x12.from_ :: (Value.slice (hd4.getD v11.toNat ((none, 0) : Hd)).1 (x12.reads).length (hd4.getD v11.toNat ((none, 0) : Hd)).2 :: []))))) (o := 4) rfl)) rfl ?_
        refine WL.step (WO.bsliceC (enc := encZone) (ys := ([x12.zone] : List Zone)) Try.underlying166 bz225 (.cons (.pl rfl) (.nil)) rfl lenZone rfl rfl (by decide) (by decide) rfl fun b14 => ?_)
        obtain ⟨hk17, hF6⟩ := ckh hF6
        refine WL.step (WO.appendC (enc := encZone) Try.underlying166 ap225 lenZone oneZone (.pl rfl) rfl (.pl rfl) (i := 3) rfl (m2 := 0) rfl (hk17) rfl fun A15 c16 => ?_)
        refine WL.q (Y.assign (.pl rfl)) rfl ?_
        refine WL.nil ?_
        refine W.go hK11 (.cons (i := 3) rfl (.cons (i := 6) rfl (.cons (i := 7) rfl (.cons (i := 8) rfl (.nil))))) ?_
        refine W.reg ?_
        obtain ⟨hk18, hF6⟩ := ckh hF6
        refine WL.q (Y.add (.pl rfl) (.pl rfl) (ok64_lt (hk18))) rfl ?_
        refine WL.q (Y.move (.pl rfl)) rfl ?_
        refine WL.nil ?_
        obtain rfl := Option.some.inj hF6
        exact W.again4 hK7 (out10 ++ ([x12.zone] : List Zone)) (v11 + 1) A15 c16 k6 hN6 (Nat.lt_succ_self _) (.cons rfl (.cons rfl (.nil))) (.cons (i := 6) rfl (.cons (i := 7) rfl (.nil))) (fun wz hw => hw.pickK 4 [2, 3] rfl)
      · replace hF6 := cneg hC14 hF6
        refine W.skip ?_
        refine W.go hK11 (.cons (i := 3) rfl (.cons (i := 6) rfl (.cons (i := 7) rfl (.cons (i := 8) rfl (.nil))))) ?_
        refine W.reg ?_
        obtain ⟨hk19, hF6⟩ := ckh hF6
        refine WL.q (Y.add (.pl rfl) (.pl rfl) (ok64_lt (hk19))) rfl ?_
        refine WL.q (Y.move (.pl rfl)) rfl ?_
        refine WL.nil ?_
        obtain rfl := Option.some.inj hF6
        exact W.again4 hK7 out10 (v11 + 1) A8 c9 k6 hN6 (Nat.lt_succ_self _) (.cons rfl (.cons rfl (.nil))) (.cons (i := 6) rfl (.cons (i := 7) rfl (.nil))) (fun wz hw => hw.pickK 3 [1, 2] rfl)
    · replace hF6 := cneg hC10 hF6
      refine W.exit ?_
      obtain rfl := Option.some.inj hF6
      exact W.joinAt3 hK4 out10 A8 c9 (einr hN6) (.cons rfl (.nil)) (.nil) (fun wz hw => hw.pickK 2 [0, 1] rfl)
  · -- behind
    rintro out7 A5 c6 rfl
    refine W.seqR fun Q18 hQ18 => ?_
    refine WL.q (Y.move (.pl rfl)) rfl ?_
    refine WL.q (Y.assign (.pl rfl)) rfl ?_
    refine WL.next hQ18 (.cons (i := 2) rfl (.nil)) ?_
    obtain rfl := Option.some.inj hF
    refine W.retV (fn := Try.f85) (vs := [.slice A5 (out7).length c6]) Try.results85 ⟨.tmp rfl, trivial⟩ (fun _ _ h => h) (fun wz hw => ?_)
    exact hR _ _ ⟨(A5, c6), trivial, rfl, (hw.pickK 2 [0, 1] rfl)⟩

def zones_pairs_1 (N : Nat) (a1 : Zone) (b2 : Zone) : Option Unit :=
  some ()

theorem zones_pairs_1_ok {N : Nat} {a1 : Zone} {b2 : Zone} {res : Unit} (hF : zones_pairs_1 N a1 b2 = some res) (w : World) :
    Pure Try.prog 120 [.agg (encZone a1).toArray, .agg (encZone b2).toArray] w (.bool ((decide (a1.first < b2.last)) && (decide (b2.first < a1.last)))) := by
  refine W.enter (n := 17) Try.func120 rfl rfl Sub.refl (by simp) (St.start w) fun R hR => ?_
  unfold zones_pairs_1 at hF
  refine W.seqR fun Q1 hQ1 => ?_
  refine WL.step (WO.boxA (.pl rfl) rfl fun b3 => ?_)
  refine WL.step (WO.boxA (.pl rfl) rfl fun b4 => ?_)
  refine WL.q (Y.assign (.pl rfl)) rfl ?_
  refine WL.next hQ1 (.cons (i := 2) rfl (.cons (i := 3) rfl (.nil))) ?_
  refine W.seqR fun Q2 hQ2 => ?_
  refine WL.q (Y.fieldAddr0 (off := 1) (ft := 3) Try.underlying225 rfl cells3 (.pl rfl)) rfl ?_
  refine WL.q (Y.loadB (v := .int .i64 a1.first) Try.underlying3 rfl (.pl rfl) (i := 1) rfl (rfl)) rfl ?_
  refine WL.q (Y.fieldAddr0 (off := 2) (ft := 3) Try.underlying225 rfl cells3 (.pl rfl)) rfl ?_
  refine WL.q (Y.loadB (v := .int .i64 b2.last) Try.underlying3 rfl (.pl rfl) (i := 0) rfl (rfl)) rfl ?_
  refine WL.q (Y.lss (.pl rfl) (.pl rfl)) rfl ?_
  refine WL.q (Y.move (.pl rfl)) rfl ?_
  refine WL.g (.pl rfl rfl rfl) (fun hg => Y.fieldAddr0 (off := 1) (ft := 3) Try.underlying225 rfl cells3 (.pl rfl)) rfl ?_
  refine WL.g (.pl rfl rfl rfl) (fun hg => Y.loadB (v := .int .i64 b2.first) Try.underlying3 rfl (.gd (hg) rfl) (i := 0) rfl (rfl)) rfl ?_
  refine WL.g (.pl rfl rfl rfl) (fun hg => Y.fieldAddr0 (off := 2) (ft := 3) Try.underlying225 rfl cells3 (.pl rfl)) rfl ?_
  refine WL.g (.pl rfl rfl rfl) (fun hg => Y.loadB (v := .int .i64 a1.last) Try.underlying3 rfl (.gd (hg) rfl) (i := 1) rfl (rfl)) rfl ?_
  refine WL.g (.pl rfl rfl rfl) (fun hg => Y.lss (.gd (hg) rfl) (.gd (hg) rfl)) rfl ?_
  refine WL.q (Y.and (.pl rfl) (fun h2 => .gd (eqt h2) rfl)) rfl ?_
  refine WL.q (Y.assign (.pl rfl)) rfl ?_
  refine WL.next hQ2 (.cons (i := 4) rfl (.nil)) ?_
  obtain rfl := Option.some.inj hF
  refine W.retV (fn := Try.f120) (vs := [.bool ((decide (a1.first < b2.last)) && (decide (b2.first < a1.last)))]) Try.results120 ⟨.tmp rfl, trivial⟩ (fun _ _ h => h) (fun wz hw => ?_)
  exact hR _ _ ⟨rfl, (hw.pick [] rfl)⟩

def zones_pairs_L41 (N : Nat) (z1 : (List Zone)) (v7 : Int) (x8 : Zone) : Int → Option (Int ⊕ (Unit ⊕ (Int × Int × Int)))
  | v12 =>
    cond (decide (v12 < (((z1.drop (v7 + 1).toNat)).length : Int)))
      (bd (ix (z1.drop (v7 + 1).toNat) v12) fun (x13 : Zone) =>
      bd (α := Bool) (cond ((x8.forward && x13.forward) == true)
          (bd (zones_pairs_1 N x8 x13) fun (r16 : Unit) =>
          some ((x8.forward && x13.forward) && ((decide (x8.first < x13.last)) && (decide (x13.first < x8.last)))))
          (some ((x8.forward && x13.forward) && false))) <|
      fun (v15 : Bool) => 
        cond v15
          (some (.inr (.inr (4, x8.value, x13.value))))
          (ck (ok64 (v12 + 1)) <|
          some (.inl (v12 + 1))))
      (some (.inr (.inl ())))

def zones_pairs_L39 (N : Nat) (z1 : (List Zone)) : Int → Option (Int ⊕ (Unit ⊕ (Int × Int × Int)))
  | v7 =>
    cond (decide (v7 < ((z1).length : Int)))
      (bd (α := (Unit ⊕ (Int × Int × Int))) (bd (ix z1 v7) fun (x8 : Zone) =>
        ck (ok64 (v7 + 1)) <|
        ck (slB (z1).length (v7 + 1) ((z1).length : Int)) <|
        iter (zones_pairs_L41 N z1 v7 x8) N 0) <|
      Sum.elim (fun _ => 
        ck (ok64 (v7 + 1)) <|
        some (.inl (v7 + 1))) (fun p => some (.inr (.inr p))))
      (some (.inr (.inl ())))

def zones_pairs_L55 (N : Nat) (z1 : (List Zone)) (x20 : Zone) : Int → Option (Int ⊕ (Unit ⊕ (Int × Int × Int)))
  | v22 =>
    cond (decide (v22 < ((z1).length : Int)))
      (bd (ix z1 v22) fun (x23 : Zone) =>
      bd (α := Bool) (cond ((x20.forward && (!x23.forward)) == true)
          (bd (zones_pairs_1 N x20 x23) fun (r26 : Unit) =>
          some ((x20.forward && (!x23.forward)) && ((decide (x20.first < x23.last)) && (decide (x23.first < x20.last)))))
          (some ((x20.forward && (!x23.forward)) && false))) <|
      fun (v25 : Bool) => 
        cond v25
          (some (.inr (.inr (5, x20.value, x23.value))))
          (ck (ok64 (v22 + 1)) <|
          some (.inl (v22 + 1))))
      (some (.inr (.inl ())))

def zones_pairs_L53 (N : Nat) (z1 : (List Zone)) : Int → Option (Int ⊕ (Unit ⊕ (Int × Int × Int)))
  | v19 =>
    cond (decide (v19 < ((z1).length : Int)))
      (bd (α := (Unit ⊕ (Int × Int × Int))) (bd (ix z1 v19) fun (x20 : Zone) =>
        iter (zones_pairs_L55 N z1 x20) N 0) <|
      Sum.elim (fun _ => 
        ck (ok64 (v19 + 1)) <|
        some (.inl (v19 + 1))) (fun p => some (.inr (.inr p))))
      (some (.inr (.inl ())))

def zones_pairs (N : Nat) (z1 : (List Zone)) : Option (Int × Int × Int) :=
  bd (α := (Unit ⊕ (Int × Int × Int))) (iter (zones_pairs_L39 N z1) N 0) <|
  Sum.elim (fun _ => 
    bd (α := (Unit ⊕ (Int × Int × Int))) (iter (zones_pairs_L53 N z1) N 0) <|
    Sum.elim (fun _ => 
      some (0, 0, 0)) (fun p => some p)) (fun p => some p)

theorem zones_pairs_ok {N : Nat} {z1 : (List Zone)} {res : (Int × Int × Int)} (hF : zones_pairs N z1 = some res) (w : World) {v5 : Value} (hs4 : SlIn encZone 4 w v5 z1) :
    Pure Try.prog 84 [v5] w (.agg (encBad (Bad.mk res.1 res.2.1 res.2.2)).toArray) := by
  obtain ⟨A2, c3, rfl, hcc3, hs4⟩ := hs4.form
  refine W.enter (n := 80) Try.func84 rfl rfl Sub.refl (by simp) (St.start w) fun R hR => ?_
  unfold zones_pairs at hF
  refine W.seqR fun Q1 hQ1 => ?_
  refine WL.step (WO.alloc (cs := (encBad (Bad.mk 0 0 0)).toArray) zero69 rfl rfl fun b6 => ?_)
  refine WL.next hQ1 (.cons (i := 0) rfl (.cons (i := 2) rfl (.nil))) ?_
  refine W.seqR fun Q2 hQ2 => ?_
  refine WL.q (Y.assign (.pl rfl)) rfl ?_
  refine WL.next hQ2 (.cons (i := 0) rfl (.cons (i := 2) rfl (.cons (i := 3) rfl (.nil)))) ?_
  obtain ⟨o3, hF3, hF⟩ := bnd hF
  refine W.join0 (Em := []) (M := [cBx b6 69 (encBad (Bad.mk 0 0 0))]) (I := (.inl ()) = o3) (.cons (i := 0) rfl (.cons (i := 2) rfl (.cons (i := 3) rfl (.nil)))) (fun K4 hK4 => ?_) ?_
  · -- up to
    refine W.seqR fun Q5 hQ5 => ?_
    refine WL.q (Y.move (.pl rfl)) rfl ?_
    refine WL.q (Y.len Try.underlying166 (.pl rfl)) rfl ?_
    refine WL.q (Y.move (.pl rfl)) rfl ?_
    refine WL.next hQ5 (.cons (i := 0) rfl (.cons (i := 2) rfl (.cons (i := 3) rfl (.cons (i := 12) rfl (.cons (i := 13) rfl (.cons (i := 14) rfl (.nil))))))) ?_
    refine W.block ?_
    refine W.loop1 (Em := fun (v7 : Int) => [(14, .int .i64 v7)]) (M := fun v7 => [cBx b6 69 (encBad (Bad.mk 0 0 0))]) (I := fun v7 k6 => iter (zones_pairs_L39 N z1) k6 v7 = some o3) 0 N (hF3) (.cons rfl (.nil)) (.cons (i := 0) rfl (.cons (i := 2) rfl (.cons (i := 3) rfl (.cons (i := 12) rfl (.cons (i := 13) rfl (.nil)))))) (fun wz hw => hw.pick [0] rfl) (fun v7 k6 hI K7 hK7 => ?_)
    obtain ⟨k6, t6, rfl, hF6, hN6⟩ := iter_step hI
    refine W.seqR fun Q8 hQ8 => ?_
    refine WL.q (Y.lss (.pl rfl) (.pl rfl)) rfl ?_
    refine WL.next hQ8 (.cons (i := 0) rfl (.cons (i := 2) rfl (.cons (i := 3) rfl (.cons (i := 12) rfl (.cons (i := 13) rfl (.cons (i := 14) rfl (.cons (i := 15) rfl (.nil)))))))) ?_
    refine W.seq fun K9 hK9 => ?_
    refine W.cond (.pl rfl) (fun hC10 => ?_) (fun hC10 => ?_)
    · replace hF6 := cpos hC10 hF6
      refine W.skip ?_
      refine W.go hK9 (.cons (i := 0) rfl (.cons (i := 2) rfl (.cons (i := 3) rfl (.cons (i := 12) rfl (.cons (i := 13) rfl (.cons (i := 14) rfl (.nil))))))) ?_
      obtain ⟨o11, hF11, hF6⟩ := bnd hF6
      refine W.join0 (Em := []) (M := [cBx b6 69 (encBad (Bad.mk 0 0 0))]) (I := (.inl ()) = o11) (.cons (i := 0) rfl (.cons (i := 2) rfl (.cons (i := 3) rfl (.cons (i := 12) rfl (.cons (i := 13) rfl (.cons (i := 14) rfl (.nil))))))) (fun K12 hK12 => ?_) ?_
      · -- up to
        refine W.block ?_
        refine W.seqR fun Q13 hQ13 => ?_
        refine WL.q (Y.move (.pl rfl)) rfl ?_
        obtain ⟨x8, hx8, hF11⟩ := bnd hF11
        refine WL.q (Y.slEl Try.underlying166 cells225 hs4 (.pl rfl) (.pl rfl) (ix_lt (hx8))) rfl ?_
        refine WL.q (Y.loadSA (enc := encZone) (ds := (encZone x8)) (j := 0) Try.underlying225 rfl cells225 hs4 (.pl rfl) (hx8) rfl rfl subW) rfl ?_
        refine WL.step (WO.alloc (cs := (encZone (Zone.mk 0 0 0 false)).toArray) zero225 rfl rfl fun b9 => ?_)
        refine WL.q (Y.assign (.pl rfl)) rfl ?_
        refine WL.step (WO.storeBA (ds := (encZone x8)) (cs' := (encZone x8)) cells225 (.pl rfl) (.pl rfl) rfl (oneZone _) (i := 0) rfl (lel (o := 0) (l := 4) (m := 4) (by decide) rfl rfl) (putW rfl) ?_)
        refine WL.next hQ13 (.cons (i := 0) rfl (.cons (i := 2) rfl (.cons (i := 3) rfl (.cons (i := 4) rfl (.cons (i := 5) rfl (.cons (i := 12) rfl (.cons (i := 13) rfl (.cons (i := 14) rfl (.nil))))))))) ?_
        refine W.seqR fun Q14 hQ14 => ?_
        refine WL.q (Y.move (.pl rfl)) rfl ?_
        refine WL.q (Y.move (.pl rfl)) rfl ?_
        obtain ⟨hk10, hF11⟩ := ckh hF11
        refine WL.q (Y.add (.pl rfl) (.pl rfl) (ok64_lt (hk10))) rfl ?_
        obtain ⟨hk11, hF11⟩ := ckh hF11
        refine WL.q (Y.slice1 (xs := z1) Try.underlying166 cells225 (.pl rfl) rfl (hs4).cap_le (.pl rfl) (hk11)) rfl ?_
        refine WL.q (Y.len Try.underlying166 (.pl rfl)) rfl ?_
        refine WL.q (Y.move (.pl rfl)) rfl ?_
        refine WL.next hQ14 (.cons (i := 0) rfl (.cons (i := 2) rfl (.cons (i := 3) rfl (.cons (i := 5) rfl (.cons (i := 12) rfl (.cons (i := 13) rfl (.cons (i := 14) rfl (.cons (i := 22) rfl (.cons (i := 23) rfl (.cons (i := 24) rfl (.nil))))))))))) ?_
        refine W.block ?_
        refine W.loop1 (Em := fun (v12 : Int) => [(24, .int .i64 v12)]) (M := fun v12 => [cBx b6 69 (encBad (Bad.mk 0 0 0)), cBx b9 225 (encZone x8)]) (I := fun v12 k15 => iter (zones_pairs_L41 N z1 v7 x8) k15 v12 = some o11) 0 N (hF11) (.cons rfl (.nil)) (.cons (i := 0) rfl (.cons (i := 2) rfl (.cons (i := 3) rfl (.cons (i := 5) rfl (.cons (i := 12) rfl (.cons (i := 13) rfl (.cons (i := 14) rfl (.cons (i := 22) rfl (.cons (i := 23) rfl (.nil)))))))))) (fun wz hw => hw.pick [1, 0] rfl) (fun v12 k15 hI K16 hK16 => ?_)
        obtain ⟨k15, t15, rfl, hF15, hN15⟩ := iter_step hI
        refine W.seqR fun Q17 hQ17 => ?_
        refine WL.q (Y.lss (.pl rfl) (.pl rfl)) rfl ?_
        refine WL.next hQ17 (.cons (i := 0) rfl (.cons (i := 2) rfl (.cons (i := 3) rfl (.cons (i := 5) rfl (.cons (i := 12) rfl (.cons (i := 13) rfl (.cons (i := 14) rfl (.cons (i := 22) rfl (.cons (i := 23) rfl (.cons (i := 24) rfl (.cons (i := 25) rfl (.nil)))))))))))) ?_
        refine W.seq fun K18 hK18 => ?_
        refine W.cond (.pl rfl) (fun hC19 => ?_) (fun hC19 => ?_)
        · replace hF15 := cpos hC19 hF15
          refine W.skip ?_
          refine W.go hK18 (.cons (i := 0) rfl (.cons (i := 2) rfl (.cons (i := 3) rfl (.cons (i := 5) rfl (.cons (i := 12) rfl (.cons (i := 13) rfl (.cons (i := 14) rfl (.cons (i := 22) rfl (.cons (i := 23) rfl (.cons (i := 24) rfl (.nil))))))))))) ?_
          refine W.seq fun K20 hK20 => ?_
          refine W.block ?_
          refine W.seqR fun Q21 hQ21 => ?_
          obtain ⟨x13, hx13, hF15⟩ := bnd hF15
          refine WL.q (Y.slEl Try.underlying166 cells225 (SlIn.sub1 hs4 (slB_nat (hk11)).1) (.pl rfl) (.pl rfl) (ix_lt (hx13))) rfl ?_
          refine WL.q (Y.loadSA (enc := encZone) (ds := (encZone x13)) (j := 0) Try.underlying225 rfl cells225 (SlIn.sub1 hs4 (slB_nat (hk11)).1) (.pl rfl) (hx13) rfl rfl subW) rfl ?_
          refine WL.step (WO.alloc (cs := (encZone (Zone.mk 0 0 0 false)).toArray) zero225 rfl rfl fun b14 => ?_)
          refine WL.step (WO.storeBA (ds := (encZone x13)) (cs' := (encZone x13)) cells225 (.pl rfl) (.pl rfl) rfl (oneZone _) (i := 0) rfl (lel (o := 0) (l := 4) (m := 4) (by decide) rfl rfl) (putW rfl) ?_)
          refine WL.next hQ21 (.cons (i := 0) rfl (.cons (i := 2) rfl (.cons (i := 3) rfl (.cons (i := 5) rfl (.cons (i := 7) rfl (.cons (i := 12) rfl (.cons (i := 13) rfl (.cons (i := 14) rfl (.cons (i := 22) rfl (.cons (i := 23) rfl (.cons (i := 24) rfl (.nil)))))))))))) ?_
          obtain ⟨o22, hF22, hF15⟩ := bnd hF15
          refine W.join1 (Em := fun (v15 : Bool) => [(39, .bool v15)]) (M := fun v15 => [cBx b6 69 (encBad (Bad.mk 0 0 0)), cBx b9 225 (encZone x8), cBx b14 225 (encZone x13)]) (I := fun v15 => v15 = o22) (.cons (i := 0) rfl (.cons (i := 2) rfl (.cons (i := 3) rfl (.cons (i := 5) rfl (.cons (i := 7) rfl (.cons (i := 12) rfl (.cons (i := 13) rfl (.cons (i := 14) rfl (.cons (i := 22) rfl (.cons (i := 23) rfl (.cons (i := 24) rfl (.nil)))))))))))) (fun K23 hK23 => ?_) ?_
          · -- up to
            refine W.reg ?_
            refine WL.q (Y.fieldAddr0 (off := 3) (ft := 4) Try.underlying225 rfl cells4 (.pl rfl)) rfl ?_
            refine WL.q (Y.loadB (v := .bool x8.forward) Try.underlying4 rfl (.pl rfl) (i := 2) rfl (rfl)) rfl ?_
            refine WL.q (Y.move (.pl rfl)) rfl ?_
            refine WL.g (.pl rfl rfl rfl) (fun hg => Y.fieldAddr0 (off := 3) (ft := 4) Try.underlying225 rfl cells4 (.pl rfl)) rfl ?_
            refine WL.g (.pl rfl rfl rfl) (fun hg => Y.loadB (v := .bool x13.forward) Try.underlying4 rfl (.gd (hg) rfl) (i := 0) rfl (rfl)) rfl ?_
            refine WL.q (Y.and (.pl rfl) (fun h2 => .gd (eqt h2) rfl)) rfl ?_
            refine WL.q (Y.move (.pl rfl)) rfl ?_
            refine WL.g (.pl rfl rfl rfl) (fun hg => Y.move (.pl rfl)) rfl ?_
            refine WL.g (.pl rfl rfl rfl) (fun hg => Y.loadBA (ds := (encZone x8)) Try.underlying225 rfl cells225 (.pl rfl) (i := 2) rfl rfl subW) rfl ?_
            refine WL.g (.pl rfl rfl rfl) (fun hg => Y.loadBA (ds := (encZone x13)) Try.underlying225 rfl cells225 (.pl rfl) (i := 0) rfl rfl subW) rfl ?_
            refine bsplit ((x8.forward && x13.forward) == true) (fun hg24 => ?_) (fun hg24 => ?_)
            · replace hF22 := cpos hg24 hF22
              refine WL.gd (.pl rfl rfl rfl) (hg24) ?_
              obtain ⟨r16, hr16, hF22⟩ := bnd hF22
              refine WL.step (WO.callG (γ := Unit) (first := []) (cap := []) (fun g => .bool ((decide (x8.first < x13.last)) && (decide (x13.first < x8.last)))) (fun g => [cBx b14 225 (encZone x13), cBx b6 69 (encBad (Bad.mk 0 0 0)), cBx b9 225 (encZone x8)]) (fun g => True) isGo120 (.gd (hg24) rfl) (.cons (.gd (hg24) rfl) (.cons (.gd (hg24) rfl) (.nil))) rfl (fun wz hw => (zones_pairs_1_ok (hr16) wz ).calls hw) ?_)
              rintro _ -
              refine WL.q (Y.and (.pl rfl) (fun _ => .pl rfl)) rfl ?_
              refine WL.nil ?_
              exact W.joinAt1 hK23 ((x8.forward && x13.forward) && ((decide (x8.first < x13.last)) && (decide (x13.first < x8.last)))) (Option.some.inj hF22) (.cons rfl (.nil)) (.cons (i := 0) rfl (.cons (i := 2) rfl (.cons (i := 3) rfl (.cons (i := 5) rfl (.cons (i := 7) rfl (.cons (i := 12) rfl (.cons (i := 13) rfl (.cons (i := 14) rfl (.cons (i := 22) rfl (.cons (i := 23) rfl (.cons (i := 24) rfl (.nil)))))))))))) (fun wz hw => hw.pick [1, 2, 0] rfl)
            · replace hF22 := cneg hg24 hF22
              refine WL.gn (.pl rfl rfl rfl) hg24 rfl ?_
              refine WL.q (Y.and (b := false) (.pl rfl) (fun h2 => (gabsA hg24 h2).elim)) rfl ?_
              refine WL.nil ?_
              exact W.joinAt1 hK23 ((x8.forward && x13.forward) && false) (Option.some.inj hF22) (.cons rfl (.nil)) (.cons (i := 0) rfl (.cons (i := 2) rfl (.cons (i := 3) rfl (.cons (i := 5) rfl (.cons (i := 7) rfl (.cons (i := 12) rfl (.cons (i := 13) rfl (.cons (i := 14) rfl (.cons (i := 22) rfl (.cons (i := 23) rfl (.cons (i := 24) rfl (.nil)))))))))))) (fun wz hw => hw.pick [1, 2, 0] rfl)
          · -- behind
            rintro v15 rfl
            refine W.cond (.pl rfl) (fun hC25 => ?_) (fun hC25 => ?_)
            · replace hF15 := cpos hC25 hF15
              refine W.seqR fun Q26 hQ26 => ?_
              refine WL.q (Y.fieldAddr0 (off := 0) (ft := 3) Try.underlying225 rfl cells3 (.pl rfl)) rfl ?_
              refine WL.q (Y.loadB (v := .int .i64 x8.value) Try.underlying3 rfl (.pl rfl) (i := 1) rfl (rfl)) rfl ?_
              refine WL.q (Y.fieldAddr0 (off := 0) (ft := 3) Try.underlying225 rfl cells3 (.pl rfl)) rfl ?_
              refine WL.q (Y.loadB (v := .int .i64 x13.value) Try.underlying3 rfl (.pl rfl) (i := 2) rfl (rfl)) rfl ?_
              refine WL.q (Y.build (cs := (encBad (Bad.mk 4 x8.value x13.value)).toArray) shape69 (.cons (.pl rfl) (.cons (.pl rfl) (.cons (.pl rfl) (.nil)))) (one_parts ⟨rfl, ⟨rfl, ⟨rfl, trivial⟩⟩⟩) rfl) rfl ?_
              refine WL.step (WO.storeBA (ds := (encBad (Bad.mk 4 x8.value x13.value))) (cs' := (encBad (Bad.mk 4 x8.value x13.value))) cells69 (.pl rfl) (.pl rfl) rfl (oneBad _) (i := 0) rfl (lel (o := 0) (l := 3) (m := 3) (by decide) rfl rfl) (putW rfl) ?_)
              refine WL.next hQ26 (.cons (i := 2) rfl (.nil)) ?_
              obtain rfl := Option.some.inj hF15
              obtain rfl := einr hN15
              obtain rfl := Option.some.inj hF6
              obtain rfl := einr hN6
              obtain rfl := Option.some.inj hF
              refine W.retV (fn := Try.f84) (vs := [.agg (encBad (Bad.mk 4 x8.value x13.value)).toArray]) Try.results84 ⟨.cellA Try.underlying69 rfl cells69 rfl (i := 0) rfl rfl, trivial⟩ (fun _ _ h => h) (fun wz hw => ?_)
              exact hR _ _ ⟨rfl, (hw.pick [] rfl)⟩
            · replace hF15 := cneg hC25 hF15
              refine W.skip ?_
              refine W.go hK20 (.cons (i := 0) rfl (.cons (i := 2) rfl (.cons (i := 3) rfl (.cons (i := 5) rfl (.cons (i := 12) rfl (.cons (i := 13) rfl (.cons (i := 14) rfl (.cons (i := 22) rfl (.cons (i := 23) rfl (.cons (i := 24) rfl (.nil))))))))))) ?_
              refine W.reg ?_
              obtain ⟨hk17, hF15⟩ := ckh hF15
              refine WL.q (Y.add (.pl rfl) (.pl rfl) (ok64_lt (hk17))) rfl ?_
              refine WL.q (Y.move (.pl rfl)) rfl ?_
              refine WL.nil ?_
              obtain rfl := Option.some.inj hF15
              exact W.again1 hK16 (v12 + 1) k15 hN15 (Nat.lt_succ_self _) (.cons rfl (.nil)) (.cons (i := 0) rfl (.cons (i := 2) rfl (.cons (i := 3) rfl (.cons (i := 5) rfl (.cons (i := 12) rfl (.cons (i := 13) rfl (.cons (i := 14) rfl (.cons (i := 22) rfl (.cons (i := 23) rfl (.nil)))))))))) (fun wz hw => hw.pick [0, 1] rfl)
        · replace hF15 := cneg hC19 hF15
          refine W.exit ?_
          obtain rfl := Option.some.inj hF15
          exact W.joinAt0 hK12  (einr hN15) (.nil) (.cons (i := 0) rfl (.cons (i := 2) rfl (.cons (i := 3) rfl (.cons (i := 12) rfl (.cons (i := 13) rfl (.cons (i := 14) rfl (.nil))))))) (fun wz hw => hw.pick [0] rfl)
      · -- behind
        rintro  rfl
        refine W.reg ?_
        obtain ⟨hk18, hF6⟩ := ckh hF6
        refine WL.q (Y.add (.pl rfl) (.pl rfl) (ok64_lt (hk18))) rfl ?_
        refine WL.q (Y.move (.pl rfl)) rfl ?_
        refine WL.nil ?_
        obtain rfl := Option.some.inj hF6
        exact W.again1 hK7 (v7 + 1) k6 hN6 (Nat.lt_succ_self _) (.cons rfl (.nil)) (.cons (i := 0) rfl (.cons (i := 2) rfl (.cons (i := 3) rfl (.cons (i := 12) rfl (.cons (i := 13) rfl (.nil)))))) (fun wz hw => hw.pick [0] rfl)
    · replace hF6 := cneg hC10 hF6
      refine W.exit ?_
      obtain rfl := Option.some.inj hF6
      exact W.joinAt0 hK4  (einr hN6) (.nil) (.cons (i := 0) rfl (.cons (i := 2) rfl (.cons (i := 3) rfl (.nil)))) (fun wz hw => hw.pick [0] rfl)
  · -- behind
    rintro  rfl
    obtain ⟨o29, hF29, hF⟩ := bnd hF
    refine W.join0 (Em := []) (M := [cBx b6 69 (encBad (Bad.mk 0 0 0))]) (I := (.inl ()) = o29) (.cons (i := 2) rfl (.nil)) (fun K30 hK30 => ?_) ?_
    · -- up to
      refine W.seqR fun Q31 hQ31 => ?_
      refine WL.q (Y.move (.pl rfl)) rfl ?_
      refine WL.q (Y.len Try.underlying166 (.pl rfl)) rfl ?_
      refine WL.q (Y.move (.pl rfl)) rfl ?_
      refine WL.next hQ31 (.cons (i := 0) rfl (.cons (i := 2) rfl (.cons (i := 3) rfl (.cons (i := 47) rfl (.cons (i := 48) rfl (.cons (i := 49) rfl (.nil))))))) ?_
      refine W.block ?_
      refine W.loop1 (Em := fun (v19 : Int) => [(49, .int .i64 v19)]) (M := fun v19 => [cBx b6 69 (encBad (Bad.mk 0 0 0))]) (I := fun v19 k32 => iter (zones_pairs_L53 N z1) k32 v19 = some o29) 0 N (hF29) (.cons rfl (.nil)) (.cons (i := 0) rfl (.cons (i := 2) rfl (.cons (i := 3) rfl (.cons (i := 47) rfl (.cons (i := 48) rfl (.nil)))))) (fun wz hw => hw.pick [0] rfl) (fun v19 k32 hI K33 hK33 => ?_)
      obtain ⟨k32, t32, rfl, hF32, hN32⟩ := iter_step hI
      refine W.seqR fun Q34 hQ34 => ?_
      refine WL.q (Y.lss (.pl rfl) (.pl rfl)) rfl ?_
      refine WL.next hQ34 (.cons (i := 0) rfl (.cons (i := 2) rfl (.cons (i := 3) rfl (.cons (i := 47) rfl (.cons (i := 48) rfl (.cons (i := 49) rfl (.cons (i := 50) rfl (.nil)))))))) ?_
      refine W.seq fun K35 hK35 => ?_
      refine W.cond (.pl rfl) (fun hC36 => ?_) (fun hC36 => ?_)
      · replace hF32 := cpos hC36 hF32
        refine W.skip ?_
        refine W.go hK35 (.cons (i := 0) rfl (.cons (i := 2) rfl (.cons (i := 3) rfl (.cons (i := 47) rfl (.cons (i := 48) rfl (.cons (i := 49) rfl (.nil))))))) ?_
        obtain ⟨o37, hF37, hF32⟩ := bnd hF32
        refine W.join0 (Em := []) (M := [cBx b6 69 (encBad (Bad.mk 0 0 0))]) (I := (.inl ()) = o37) (.cons (i := 0) rfl (.cons (i := 2) rfl (.cons (i := 3) rfl (.cons (i := 47) rfl (.cons (i := 48) rfl (.cons (i := 49) rfl (.nil))))))) (fun K38 hK38 => ?_) ?_
        · -- up to
          refine W.block ?_
          refine W.seqR fun Q39 hQ39 => ?_
          obtain ⟨x20, hx20, hF37⟩ := bnd hF37
          refine WL.q (Y.slEl Try.underlying166 cells225 hs4 (.pl rfl) (.pl rfl) (ix_lt (hx20))) rfl ?_
          refine WL.q (Y.loadSA (enc := encZone) (ds := (encZone x20)) (j := 0) Try.underlying225 rfl cells225 hs4 (.pl rfl) (hx20) rfl rfl subW) rfl ?_
          refine WL.step (WO.alloc (cs := (encZone (Zone.mk 0 0 0 false)).toArray) zero225 rfl rfl fun b21 => ?_)
          refine WL.step (WO.storeBA (ds := (encZone x20)) (cs' := (encZone x20)) cells225 (.pl rfl) (.pl rfl) rfl (oneZone _) (i := 0) rfl (lel (o := 0) (l := 4) (m := 4) (by decide) rfl rfl) (putW rfl) ?_)
          refine WL.next hQ39 (.cons (i := 0) rfl (.cons (i := 2) rfl (.cons (i := 3) rfl (.cons (i := 9) rfl (.cons (i := 47) rfl (.cons (i := 48) rfl (.cons (i := 49) rfl (.nil)))))))) ?_
          refine W.seqR fun Q40 hQ40 => ?_
          refine WL.q (Y.move (.pl rfl)) rfl ?_
          refine WL.q (Y.len Try.underlying166 (.pl rfl)) rfl ?_
          refine WL.q (Y.move (.pl rfl)) rfl ?_
          refine WL.next hQ40 (.cons (i := 0) rfl (.cons (i := 2) rfl (.cons (i := 3) rfl (.cons (i := 9) rfl (.cons (i := 47) rfl (.cons (i := 48) rfl (.cons (i := 49) rfl (.cons (i := 53) rfl (.cons (i := 54) rfl (.cons (i := 55) rfl (.nil))))))))))) ?_
          refine W.block ?_
          refine W.loop1 (Em := fun (v22 : Int) => [(55, .int .i64 v22)]) (M := fun v22 => [cBx b6 69 (encBad (Bad.mk 0 0 0)), cBx b21 225 (encZone x20)]) (I := fun v22 k41 => iter (zones_pairs_L55 N z1 x20) k41 v22 = some o37) 0 N (hF37) (.cons rfl (.nil)) (.cons (i := 0) rfl (.cons (i := 2) rfl (.cons (i := 3) rfl (.cons (i := 9) rfl (.cons (i := 47) rfl (.cons (i := 48) rfl (.cons (i := 49) rfl (.cons (i := 53) rfl (.cons (i := 54) rfl (.nil)))))))))) (fun wz hw => hw.pick [1, 0] rfl) (fun v22 k41 hI K42 hK42 => ?_)
          obtain ⟨k41, t41, rfl, hF41, hN41⟩ := iter_step hI
          refine W.seqR fun Q43 hQ43 => ?_
          refine WL.q (Y.lss (.pl rfl) (.pl rfl)) rfl ?_
          refine WL.next hQ43 (.cons (i := 0) rfl (.cons (i := 2) rfl (.cons (i := 3) rfl (.cons (i := 9) rfl (.cons (i := 47) rfl (.cons (i := 48) rfl (.cons (i := 49) rfl (.cons (i := 53) rfl (.cons (i := 54) rfl (.cons (i := 55) rfl (.cons (i := 56) rfl (.nil)))))))))))) ?_
          refine W.seq fun K44 hK44 => ?_
          refine W.cond (.pl rfl) (fun hC45 => ?_) (fun hC45 => ?_)
          · replace hF41 := cpos hC45 hF41
            refine W.skip ?_
            refine W.go hK44 (.cons (i := 0) rfl (.cons (i := 2) rfl (.cons (i := 3) rfl (.cons (i := 9) rfl (.cons (i := 47) rfl (.cons (i := 48) rfl (.cons (i := 49) rfl (.cons (i := 53) rfl (.cons (i := 54) rfl (.cons (i := 55) rfl (.nil))))))))))) ?_
            refine W.seq fun K46 hK46 => ?_
            refine W.block ?_
            refine W.seqR fun Q47 hQ47 => ?_
            obtain ⟨x23, hx23, hF41⟩ := bnd hF41
            refine WL.q (Y.slEl Try.underlying166 cells225 hs4 (.pl rfl) (.pl rfl) (ix_lt (hx23))) rfl ?_
            refine WL.q (Y.loadSA (enc := encZone) (ds := (encZone x23)) (j := 0) Try.underlying225 rfl cells225 hs4 (.pl rfl) (hx23) rfl rfl subW) rfl ?_
            refine WL.step (WO.alloc (cs := (encZone (Zone.mk 0 0 0 false)).toArray) zero225 rfl rfl fun b24 => ?_)
            refine WL.step (WO.storeBA (ds := (encZone x23)) (cs' := (encZone x23)) cells225 (.pl rfl) (.pl rfl) rfl (oneZone _) (i := 0) rfl (lel (o := 0) (l := 4) (m := 4) (by decide) rfl rfl) (putW rfl) ?_)
            refine WL.next hQ47 (.cons (i := 0) rfl (.cons (i := 2) rfl (.cons (i := 3) rfl (.cons (i := 9) rfl (.cons (i := 11) rfl (.cons (i := 47) rfl (.cons (i := 48) rfl (.cons (i := 49) rfl (.cons (i := 53) rfl (.cons (i := 54) rfl (.cons (i := 55) rfl (.nil)))))))))))) ?_
            obtain ⟨o48, hF48, hF41⟩ := bnd hF41
            refine W.join1 (Em := fun (v25 : Bool) => [(71, .bool v25)]) (M := fun v25 => [cBx b6 69 (encBad (Bad.mk 0 0 0)), cBx b21 225 (encZone x20), cBx b24 225 (encZone x23)]) (I := fun v25 => v25 = o48) (.cons (i := 0) rfl (.cons (i := 2) rfl (.cons (i := 3) rfl (.cons (i := 9) rfl (.cons (i := 11) rfl (.cons (i := 47) rfl (.cons (i := 48) rfl (.cons (i := 49) rfl (.cons (i := 53) rfl (.cons (i := 54) rfl (.cons (i := 55) rfl (.nil)))))))))))) (fun K49 hK49 => ?_) ?_
            · -- up to
              refine W.reg ?_
              refine WL.q (Y.fieldAddr0 (off := 3) (ft := 4) Try.underlying225 rfl cells4 (.pl rfl)) rfl ?_
              refine WL.q (Y.loadB (v := .bool x20.forward) Try.underlying4 rfl (.pl rfl) (i := 2) rfl (rfl)) rfl ?_
              refine WL.q (Y.move (.pl rfl)) rfl ?_
              refine WL.g (.pl rfl rfl rfl) (fun hg => Y.fieldAddr0 (off := 3) (ft := 4) Try.underlying225 rfl cells4 (.pl rfl)) rfl ?_
              refine WL.g (.pl rfl rfl rfl) (fun hg => Y.loadB (v := .bool x23.forward) Try.underlying4 rfl (.gd (hg) rfl) (i := 0) rfl (rfl)) rfl ?_
              refine WL.g (.pl rfl rfl rfl) (fun hg => Y.not (.gd (hg) rfl)) rfl ?_
              refine WL.q (Y.and (.pl rfl) (fun h2 => .gd (eqt h2) rfl)) rfl ?_
              refine WL.q (Y.move (.pl rfl)) rfl ?_
              refine WL.g (.pl rfl rfl rfl) (fun hg => Y.move (.pl rfl)) rfl ?_
              refine WL.g (.pl rfl rfl rfl) (fun hg => Y.loadBA (ds := (encZone x20)) Try.underlying225 rfl cells225 (.pl rfl) (i := 2) rfl rfl subW) rfl ?_
              refine WL.g (.pl rfl rfl rfl) (fun hg => Y.loadBA (ds := (encZone x23)) Try.underlying225 rfl cells225 (.pl rfl) (i := 0) rfl rfl subW) rfl ?_
              refine bsplit ((x20.forward && (!x23.forward)) == true) (fun hg50 => ?_) (fun hg50 => ?_)
              · replace hF48 := cpos hg50 hF48
                refine WL.gd (.pl rfl rfl rfl) (hg50) ?_
                obtain ⟨r26, hr26, hF48⟩ := bnd hF48
                refine WL.step (WO.callG (γ := Unit) (first := []) (cap := []) (fun g => .bool ((decide (x20.first < x23.last)) && (decide (x23.first < x20.last)))) (fun g => [cBx b24 225 (encZone x23), cBx b6 69 (encBad (Bad.mk 0 0 0)), cBx b21 225 (encZone x20)]) (fun g => True) isGo120 (.gd (hg50) rfl) (.cons (.gd (hg50) rfl) (.cons (.gd (hg50) rfl) (.nil))) rfl (fun wz hw => (zones_pairs_1_ok (hr26) wz ).calls hw) ?_)
                rintro _ -
                refine WL.q (Y.and (.pl rfl) (fun _ => .pl rfl)) rfl ?_
                refine WL.nil ?_
                exact W.joinAt1 hK49 ((x20.forward && (!x23.forward)) && ((decide (x20.first < x23.last)) && (decide (x23.first < x20.last)))) (Option.some.inj hF48) (.cons rfl (.nil)) (.cons (i := 0) rfl (.cons (i := 2) rfl (.cons (i := 3) rfl (.cons (i := 9) rfl (.cons (i := 11) rfl (.cons (i := 47) rfl (.cons (i := 48) rfl (.cons (i := 49) rfl (.cons (i := 53) rfl (.cons (i := 54) rfl (.cons (i := 55) rfl (.nil)))))))))))) (fun wz hw => hw.pick [1, 2, 0] rfl)
              · replace hF48 := cneg hg50 hF48
                refine WL.gn (.pl rfl rfl rfl) hg50 rfl ?_
                refine WL.q (Y.and (b := false) (.pl rfl) (fun h2 => (gabsA hg50 h2).elim)) rfl ?_
                refine WL.nil ?_
                exact W.joinAt1 hK49 ((x20.forward && (!x23.forward)) && false) (Option.some.inj hF48) (.cons rfl (.nil)) (.cons (i := 0) rfl (.cons (i := 2) rfl (.cons (i := 3) rfl (.cons (i := 9) rfl (.cons (i := 11) rfl (.cons (i := 47) rfl (.cons (i := 48) rfl (.cons (i := 49) rfl (.cons (i := 53) rfl (.cons (i := 54) rfl (.cons (i := 55) rfl (.nil)))))))))))) (fun wz hw => hw.pick [1, 2, 0] rfl)
            · -- behind
              rintro v25 rfl
              refine W.cond (.pl rfl) (fun hC51 => ?_) (fun hC51 => ?_)
              · replace hF41 := cpos hC51 hF41
                refine W.seqR fun Q52 hQ52 => ?_
                refine WL.q (Y.fieldAddr0 (off := 0) (ft := 3) Try.underlying225 rfl cells3 (.pl rfl)) rfl ?_
                refine WL.q (Y.loadB (v := .int .i64 x20.value) Try.underlying3 rfl (.pl rfl) (i := 1) rfl (rfl)) rfl ?_
                refine WL.q (Y.fieldAddr0 (off := 0) (ft := 3) Try.underlying225 rfl cells3 (.pl rfl)) rfl ?_
                refine WL.q (Y.loadB (v := .int .i64 x23.value) Try.underlying3 rfl (.pl rfl) (i := 2) rfl (rfl)) rfl ?_
                refine WL.q (Y.build (cs := (encBad (Bad.mk 5 x20.value x23.value)).toArray) shape69 (.cons (.pl rfl) (.cons (.pl rfl) (.cons (.pl rfl) (.nil)))) (one_parts ⟨rfl, ⟨rfl, ⟨rfl, trivial⟩⟩⟩) rfl) rfl ?_
                refine WL.step (WO.storeBA (ds := (encBad (Bad.mk 5 x20.value x23.value))) (cs' := (encBad (Bad.mk 5 x20.value x23.value))) cells69 (.pl rfl) (.pl rfl) rfl (oneBad _) (i := 0) rfl (lel (o := 0) (l := 3) (m := 3) (by decide) rfl rfl) (putW rfl) ?_)
                refine WL.next hQ52 (.cons (i := 2) rfl (.nil)) ?_
                obtain rfl := Option.some.inj hF41
                obtain rfl := einr hN41
                obtain rfl := Option.some.inj hF32
                obtain rfl := einr hN32
                obtain rfl := Option.some.inj hF
                refine W.retV (fn := Try.f84) (vs := [.agg (encBad (Bad.mk 5 x20.value x23.value)).toArray]) Try.results84 ⟨.cellA Try.underlying69 rfl cells69 rfl (i := 0) rfl rfl, trivial⟩ (fun _ _ h => h) (fun wz hw => ?_)
                exact hR _ _ ⟨rfl, (hw.pick [] rfl)⟩
              · replace hF41 := cneg hC51 hF41
                refine W.skip ?_
                refine W.go hK46 (.cons (i := 0) rfl (.cons (i := 2) rfl (.cons (i := 3) rfl (.cons (i := 9) rfl (.cons (i := 47) rfl (.cons (i := 48) rfl (.cons (i := 49) rfl (.cons (i := 53) rfl (.cons (i := 54) rfl (.cons (i := 55) rfl (.nil))))))))))) ?_
                refine W.reg ?_
                obtain ⟨hk27, hF41⟩ := ckh hF41
                refine WL.q (Y.add (.pl rfl) (.pl rfl) (ok64_lt (hk27))) rfl ?_
                refine WL.q (Y.move (.pl rfl)) rfl ?_
                refine WL.nil ?_
                obtain rfl := Option.some.inj hF41
                exact W.again1 hK42 (v22 + 1) k41 hN41 (Nat.lt_succ_self _) (.cons rfl (.nil)) (.cons (i := 0) rfl (.cons (i := 2) rfl (.cons (i := 3) rfl (.cons (i := 9) rfl (.cons (i := 47) rfl (.cons (i := 48) rfl (.cons (i := 49) rfl (.cons (i := 53) rfl (.cons (i := 54) rfl (.nil)))))))))) (fun wz hw => hw.pick [0, 1] rfl)
          · replace hF41 := cneg hC45 hF41
            refine W.exit ?_
            obtain rfl := Option.some.inj hF41
            exact W.joinAt0 hK38  (einr hN41) (.nil) (.cons (i := 0) rfl (.cons (i := 2) rfl (.cons (i := 3) rfl (.cons (i := 47) rfl (.cons (i := 48) rfl (.cons (i := 49) rfl (.nil))))))) (fun wz hw => hw.pick [0] rfl)
        · -- behind
          rintro  rfl
          refine W.reg ?_
          obtain ⟨hk28, hF32⟩ := ckh hF32
          refine WL.q (Y.add (.pl rfl) (.pl rfl) (ok64_lt (hk28))) rfl ?_
          refine WL.q (Y.move (.pl rfl)) rfl ?_
          refine WL.nil ?_
          obtain rfl := Option.some.inj hF32
          exact W.again1 hK33 (v19 + 1) k32 hN32 (Nat.lt_succ_self _) (.cons rfl (.nil)) (.cons (i := 0) rfl (.cons (i := 2) rfl (.cons (i := 3) rfl (.cons (i := 47) rfl (.cons (i := 48) rfl (.nil)))))) (fun wz hw => hw.pick [0] rfl)
      · replace hF32 := cneg hC36 hF32
        refine W.exit ?_
        obtain rfl := Option.some.inj hF32
        exact W.joinAt0 hK30  (einr hN32) (.nil) (.cons (i := 2) rfl (.nil)) (fun wz hw => hw.pick [0] rfl)
    · -- behind
      rintro  rfl
      refine W.seqR fun Q55 hQ55 => ?_
      refine WL.q (Y.build (cs := (encBad (Bad.mk 0 0 0)).toArray) shape69 (.nil) (one_parts trivial) rfl) rfl ?_
      refine WL.step (WO.storeBA (ds := (encBad (Bad.mk 0 0 0))) (cs' := (encBad (Bad.mk 0 0 0))) cells69 (.pl rfl) (.pl rfl) rfl (oneBad _) (i := 0) rfl (lel (o := 0) (l := 3) (m := 3) (by decide) rfl rfl) (putW rfl) ?_)
      refine WL.next hQ55 (.cons (i := 2) rfl (.nil)) ?_
      obtain rfl := Option.some.inj hF
      refine W.retV (fn := Try.f84) (vs := [.agg (encBad (Bad.mk 0 0 0)).toArray]) Try.results84 ⟨.cellA Try.underlying69 rfl cells69 rfl (i := 0) rfl rfl, trivial⟩ (fun _ _ h => h) (fun wz hw => ?_)
      exact hR _ _ ⟨rfl, (hw.pick [] rfl)⟩

def zones_Check (N : Nat) (l1 : (List Event)) : Option (Bool × Int × Int × Int × Int) :=
  bd (zones_calls N l1) fun (r7 : ((List Call) × Int)) =>
  cond (!(decide (r7.2 = 0)))
    (some (false, 0, 0, 0, r7.2))
    (bd (zones_clusters N r7.1) fun (r10 : (List ZonesCluster)) =>
    bd (zones_reads N r7.1 r10) fun (r14 : (Int × Int × Int)) =>
    bd (α := (Int × Int × Int)) (cond (decide (r14.1 = 0))
        (bd (zones_zonesOf N r10) fun (r19 : (List Zone)) =>
        bd (zones_pairs N r19) fun (r22 : (Int × Int × Int)) =>
        some (r22.1, r22.2.1, r22.2.2))
        (some (r14.1, r14.2.1, r14.2.2))) <|
    fun (Kind16, A17, B18) => 
      some ((decide (Kind16 = 0)), Kind16, A17, B18, 0))

theorem zones_Check_ok {N : Nat} {l1 : (List Event)} {res : (Bool × Int × Int × Int × Int)} (hF : zones_Check N l1 = some res) (w : World) {v5 : Value} (hs4 : SlIn encEvent 4 w v5 l1) :
    Pure Try.prog 50 [v5] w (.tuple #[.bool res.1, .agg (encBad (Bad.mk res.2.1 res.2.2.1 res.2.2.2.1)).toArray, .int .i64 res.2.2.2.2]) := by
  obtain ⟨A2, c3, rfl, hcc3, hs4⟩ := hs4.form
  refine W.enter (n := 33) Try.func50 rfl rfl Sub.refl (by simp) (St.start w) fun R hR => ?_
  unfold zones_Check at hF
  refine W.seqR fun Q1 hQ1 => ?_
  refine WL.q (Y.assign (.pl rfl)) rfl ?_
  refine WL.step (WO.alloc (cs := (encBad (Bad.mk 0 0 0)).toArray) zero69 rfl rfl fun b6 => ?_)
  refine WL.q (Y.assign (.pl rfl)) rfl ?_
  refine WL.next hQ1 (.cons (i := 0) rfl (.cons (i := 3) rfl (.nil))) ?_
  refine W.seqR fun Q2 hQ2 => ?_
  refine WL.q (Y.move (.pl rfl)) rfl ?_
  obtain ⟨r7, hr7, hF⟩ := bnd hF
  refine WL.step (WO.callM isGo81 (.cons (.pl rfl) (.nil)) rfl (fun wz hw => zones_calls_ok (hr7) wz (hs4.mono hw)) ?_)
  rintro ⟨A8, c9⟩ -
  refine WL.q (Y.move (.pl rfl)) rfl ?_
  refine WL.q (Y.extract (.pl rfl) rfl) rfl ?_
  refine WL.q (Y.extract (.pl rfl) rfl) rfl ?_
  refine WL.q (Y.assign (.pl rfl)) rfl ?_
  refine WL.q (Y.assign (.pl rfl)) rfl ?_
  refine WL.next hQ2 (.cons (i := 3) rfl (.cons (i := 5) rfl (.cons (i := 6) rfl (.nil)))) ?_
  refine W.seq fun K3 hK3 => ?_
  refine W.seqR fun Q4 hQ4 => ?_
  refine WL.q (Y.move (.pl rfl)) rfl ?_
  refine WL.q (Y.neq (.pl rfl) (.pl rfl)) rfl ?_
  refine WL.next hQ4 (.cons (i := 3) rfl (.cons (i := 5) rfl (.cons (i := 6) rfl (.cons (i := 15) rfl (.nil))))) ?_
  refine W.cond (.pl rfl) (fun hC5 => ?_) (fun hC5 => ?_)
  · replace hF := cpos hC5 hF
    refine W.seqR fun Q6 hQ6 => ?_
    refine WL.q (Y.build (cs := (encBad (Bad.mk 0 0 0)).toArray) shape69 (.nil) (one_parts trivial) rfl) rfl ?_
    refine WL.q (Y.move (.pl rfl)) rfl ?_
    refine WL.q (Y.assign (.pl rfl)) rfl ?_
    refine WL.step (WO.storeBA (ds := (encBad (Bad.mk 0 0 0))) (cs' := (encBad (Bad.mk 0 0 0))) cells69 (.pl rfl) (.pl rfl) rfl (oneBad _) (i := 1) rfl (lel (o := 0) (l := 3) (m := 3) (by decide) rfl rfl) (putW rfl) ?_)
    refine WL.q (Y.assign (.pl rfl)) rfl ?_
    refine WL.next hQ6 (.cons (i := 2) rfl (.cons (i := 3) rfl (.cons (i := 4) rfl (.nil)))) ?_
    obtain rfl := Option.some.inj hF
    refine W.retV (fn := Try.f50) (vs := [.bool false, .agg (encBad (Bad.mk 0 0 0)).toArray, .int .i64 r7.2]) Try.results50 ⟨.tmp rfl, ⟨.cellA Try.underlying69 rfl cells69 rfl (i := 1) rfl rfl, ⟨.tmp rfl, trivial⟩⟩⟩ (fun _ _ h => h) (fun wz hw => ?_)
    exact hR _ _ ⟨rfl, (hw.pick [] rfl)⟩
  · replace hF := cneg hC5 hF
    refine W.skip ?_
    refine W.go hK3 (.cons (i := 3) rfl (.cons (i := 5) rfl (.nil))) ?_
    refine W.seqR fun Q7 hQ7 => ?_
    refine WL.q (Y.move (.pl rfl)) rfl ?_
    obtain ⟨r10, hr10, hF⟩ := bnd hF
    refine WL.step (WO.callM isGo82 (.cons (.pl rfl) (.nil)) rfl (fun wz hw => zones_clusters_ok (hr10) wz (SlIn.ofRow lenCall hw (i := 0) rfl)) ?_)
    rintro ⟨A11, c12, hd13⟩ -
    refine WL.q (Y.assign (.pl rfl)) rfl ?_
    refine WL.next hQ7 (.cons (i := 3) rfl (.cons (i := 5) rfl (.cons (i := 7) rfl (.nil)))) ?_
    refine W.seqR fun Q8 hQ8 => ?_
    refine WL.q (Y.move (.pl rfl)) rfl ?_
    refine WL.q (Y.move (.pl rfl)) rfl ?_
    obtain ⟨r14, hr14, hF⟩ := bnd hF
    refine WL.step (WO.call (γ := Unit) (fun g => .agg (encBad (Bad.mk r14.1 r14.2.1 r14.2.2)).toArray) (fun g => [cR encCall 7 A8 c9 51 r7.1, cN encNZonesCluster innNZonesCluster 9 A11 c12 227 hd13 r10, cBx b6 69 (encBad (Bad.mk 0 0 0))]) (fun g => True) isGo83 (.cons (.pl rfl) (.cons (.pl rfl) (.nil))) rfl (fun wz hw => zones_reads_ok (T := [cBx b6 69 (encBad (Bad.mk 0 0 0))]) (hr14) (hw.pick [1, 0, 2] rfl) ) ?_)
    rintro _ -
    refine WL.step (WO.alloc (cs := (encBad (Bad.mk 0 0 0)).toArray) zero69 rfl rfl fun b15 => ?_)
    refine WL.step (WO.storeBA (ds := (encBad (Bad.mk r14.1 r14.2.1 r14.2.2))) (cs' := (encBad (Bad.mk r14.1 r14.2.1 r14.2.2))) cells69 (.pl rfl) (.pl rfl) rfl (oneBad _) (i := 0) rfl (lel (o := 0) (l := 3) (m := 3) (by decide) rfl rfl) (putW rfl) ?_)
    refine WL.next hQ8 (.cons (i := 3) rfl (.cons (i := 7) rfl (.cons (i := 8) rfl (.nil)))) ?_
    obtain ⟨o9, hF9, hF⟩ := bnd hF
    refine W.join3 (Em := fun (Kind16 : Int) (A17 : Int) (B18 : Int) => []) (M := fun Kind16 A17 B18 => [cBx b6 69 (encBad (Bad.mk 0 0 0)), cBx b15 69 (encBad (Bad.mk Kind16 A17 B18))]) (I := fun Kind16 A17 B18 => (Kind16, A17, B18) = o9) (.cons (i := 3) rfl (.cons (i := 8) rfl (.nil))) (fun K10 hK10 => ?_) ?_
    · -- up to
      refine W.seqR fun Q11 hQ11 => ?_
      refine WL.q (Y.fieldAddr0 (off := 0) (ft := 3) Try.underlying69 rfl cells3 (.pl rfl)) rfl ?_
      refine WL.q (Y.loadB (v := .int .i64 r14.1) Try.underlying3 rfl (.pl rfl) (i := 0) rfl (rfl)) rfl ?_
      refine WL.q (Y.eql (.pl rfl) (.pl rfl)) rfl ?_
      refine WL.next hQ11 (.cons (i := 3) rfl (.cons (i := 7) rfl (.cons (i := 8) rfl (.cons (i := 25) rfl (.nil))))) ?_
      refine W.cond (.pl rfl) (fun hC12 => ?_) (fun hC12 => ?_)
      · replace hF9 := cpos hC12 hF9
        refine W.reg ?_
        refine WL.q (Y.move (.pl rfl)) rfl ?_
        obtain ⟨r19, hr19, hF9⟩ := bnd hF9
        refine WL.step (WO.call (γ := (Option Addr × Nat)) (fun g => .slice g.1 (r19).length g.2) (fun g => [cN encNZonesCluster innNZonesCluster 9 A11 c12 227 hd13 r10, cR encZone 4 g.1 g.2 225 r19, cBx b15 69 (encBad (Bad.mk r14.1 r14.2.1 r14.2.2)), cR encCall 7 A8 c9 51 r7.1, cBx b6 69 (encBad (Bad.mk 0 0 0))]) (fun g => True) isGo85 (.cons (.pl rfl) (.nil)) rfl (fun wz hw => zones_zonesOf_ok (T := [cBx b15 69 (encBad (Bad.mk r14.1 r14.2.1 r14.2.2)), cR encCall 7 A8 c9 51 r7.1, cBx b6 69 (encBad (Bad.mk 0 0 0))]) (hr19) (hw.pick [2, 0, 1, 3] rfl) ) ?_)
        rintro ⟨A20, c21⟩ -
        obtain ⟨r22, hr22, hF9⟩ := bnd hF9
        refine WL.step (WO.callP isGo84 (.cons (.pl rfl) (.nil)) rfl (fun wz hw => zones_pairs_ok (hr22) wz (SlIn.ofRow lenZone hw (i := 1) rfl)) ?_)
        refine WL.step (WO.storeBA (ds := (encBad (Bad.mk r22.1 r22.2.1 r22.2.2))) (cs' := (encBad (Bad.mk r22.1 r22.2.1 r22.2.2))) cells69 (.pl rfl) (.pl rfl) rfl (oneBad _) (i := 2) rfl (lel (o := 0) (l := 3) (m := 3) (by decide) rfl rfl) (putW rfl) ?_)
        refine WL.nil ?_
        exact W.joinAt3 hK10 r22.1 r22.2.1 r22.2.2 (Option.some.inj hF9) (.nil) (.cons (i := 3) rfl (.cons (i := 8) rfl (.nil))) (fun wz hw => hw.pick [4, 2] rfl)
      · replace hF9 := cneg hC12 hF9
        refine W.skip ?_
        exact W.joinAt3 hK10 r14.1 r14.2.1 r14.2.2 (Option.some.inj hF9) (.nil) (.cons (i := 3) rfl (.cons (i := 8) rfl (.nil))) (fun wz hw => hw.pick [3, 0] rfl)
    · -- behind
      rintro Kind16 A17 B18 rfl
      refine W.seqT 5 (by kernel_rfl) (by kernel_rfl) fun Q14 hQ14 => ?_
      refine WS.q (Y.fieldAddr0 (off := 0) (ft := 3) Try.underlying69 rfl cells3 (.pl rfl)) rfl ?_
      refine WS.q (Y.loadB (v := .int .i64 Kind16) Try.underlying3 rfl (.pl rfl) (i := 1) rfl (rfl)) rfl ?_
      refine WS.q (Y.eql (.pl rfl) (.pl rfl)) rfl ?_
      refine WS.q (Y.loadBA (ds := (encBad (Bad.mk Kind16 A17 B18))) Try.underlying69 rfl cells69 (.pl rfl) (i := 1) rfl rfl subW) rfl ?_
      refine WS.q (Y.assign (.pl rfl)) rfl ?_
      refine WS.tail ?_
      refine WL.step (WO.storeBA (ds := (encBad (Bad.mk Kind16 A17 B18))) (cs' := (encBad (Bad.mk Kind16 A17 B18))) cells69 (.pl rfl) (.pl rfl) rfl (oneBad _) (i := 0) rfl (lel (o := 0) (l := 3) (m := 3) (by decide) rfl rfl) (putW rfl) ?_)
      refine WL.q (Y.assign (.pl rfl)) rfl ?_
      refine WL.next hQ14 (.cons (i := 2) rfl (.cons (i := 3) rfl (.cons (i := 4) rfl (.nil)))) ?_
      obtain rfl := Option.some.inj hF
      refine W.retV (fn := Try.f50) (vs := [.bool (decide (Kind16 = 0)), .agg (encBad (Bad.mk Kind16 A17 B18)).toArray, .int .i64 0]) Try.results50 ⟨.tmp rfl, ⟨.cellA Try.underlying69 rfl cells69 rfl (i := 0) rfl rfl, ⟨.tmp rfl, trivial⟩⟩⟩ (fun _ _ h => h) (fun wz hw => ?_)
      exact hR _ _ ⟨rfl, (hw.pick [] rfl)⟩

end Go.Proofs.Yteklmleiiiodfaa
