/- The laws of zones: what their code computes, and the walks. -/
import Derived.Test.YtolneilkgjglkaaZ2
set_option linter.unusedVariables false
set_option linter.unusedSimpArgs false
set_option linter.unusedSectionVars false
set_option maxRecDepth 100000
namespace Go.Proofs.Ytolneilkgjglkaa
open Go.RowKit
theorem isGo22 : IsGo Try.prog 22 := ⟨_, Try.func22, by kernel_rfl, rfl⟩
theorem isGo27 : IsGo Try.prog 27 := ⟨_, Try.func27, by kernel_rfl, rfl⟩
theorem ap39 : ∃ i z, Try.prog.info? 39 = some i ∧ i.zero = some z ∧ i.size = 4 ∧ i.bytes = 32 ∧ z.cells.size = 4 ∧ 0 < 4 := ⟨_, (Value.agg #[(Value.int .i64 0), (Value.int .i64 0), (Value.int .i64 0), (Value.int .i64 0)]), rfl, by kernel_rfl, by kernel_rfl, by kernel_rfl, by kernel_rfl, by decide⟩
def alibkeep_ZonesFront (N : Nat) (l1 : (List Event)) (n6 : Int) : Option Bool :=
  bd (zones_Check N l1) fun (r7 : (Bool × Int × Int × Int × Int)) =>
  bd (alibkeep_zonesLives N) fun (r9 : Bool) =>
  cond (((((!r9) || (!(decide (r7.2.2.2.2 = 0)))) || (decide (n6 < 0))) || (decide (((l1).length : Int) < n6))) || (!r7.1))
    (bd (alibkeep_zonesLives N) fun (r10 : Bool) =>
    some r10)
    (ck (slB (l1).length 0 n6) <|
    bd (zones_Check N (l1.take n6.toNat)) fun (r12 : (Bool × Int × Int × Int × Int)) =>
    some ((decide (r12.2.2.2.2 = 0)) && r12.1))

theorem alibkeep_ZonesFront_ok {N : Nat} {l1 : (List Event)} {n6 : Int} {res : Bool} (hF : alibkeep_ZonesFront N l1 n6 = some res) (w : World) {v5 : Value} (hs4 : SlIn encEvent 4 w v5 l1) :
    Pure Try.prog 7 [v5, .int .i64 n6] w (.bool res) := by
  obtain ⟨A2, c3, rfl, hcc3, hs4⟩ := hs4.form
  refine W.enter (n := 51) Try.func7 rfl rfl Sub.refl (by simp) (St.start w) fun R hR => ?_
  unfold alibkeep_ZonesFront at hF
  -- region 0: zones.go:56
  refine W.seqR fun Q1 hQ1 => ?_
  refine WL.q (Y.assign (.pl rfl)) rfl ?_
  refine WL.next hQ1 (.cons (i := 0) rfl (.cons (i := 1) rfl (.nil))) ?_
  -- region 1: zones.go:57
  refine W.seqR fun Q2 hQ2 => ?_
  refine WL.q (Y.move (.pl rfl)) rfl ?_
  obtain ⟨r7, hr7, hF⟩ := bnd hF
  refine WL.step (WO.callP isGo25 (.cons (.pl rfl) (.nil)) rfl (fun wz hw => zones_Check_ok (hr7) wz (hs4.mono hw)) ?_)
  refine WL.q (Y.move (.pl rfl)) rfl ?_
  refine WL.q (Y.extract (.pl rfl) rfl) rfl ?_
  refine WL.q (Y.extract (.pl rfl) rfl) rfl ?_
  refine WL.q (Y.extract (.pl rfl) rfl) rfl ?_
  refine WL.step (WO.alloc (cs := (encBad (Bad.mk 0 0 0)).toArray) zero34 rfl rfl fun b8 => ?_)
  refine WL.q (Y.assign (.pl rfl)) rfl ?_
  refine WL.step (WO.storeBA (ds := (encBad (Bad.mk r7.2.1 r7.2.2.1 r7.2.2.2.1))) (cs' := (encBad (Bad.mk r7.2.1 r7.2.2.1 r7.2.2.2.1))) cells34 (.pl rfl) (.pl rfl) rfl (oneBad _) (i := 0) rfl (lel (o := 0) (l := 3) (m := 3) (by decide) rfl rfl) (putW rfl) ?_)
  refine WL.q (Y.assign (.pl rfl)) rfl ?_
  refine WL.next hQ2 (.cons (i := 0) rfl (.cons (i := 1) rfl (.cons (i := 5) rfl (.cons (i := 7) rfl (.nil))))) ?_
  refine W.seq fun K3 hK3 => ?_
  -- region 2: zones.go:58
  refine W.seqR fun Q4 hQ4 => ?_
  obtain ⟨r9, hr9, hF⟩ := bnd hF
  refine WL.step (WO.callP isGo27 (.nil) rfl (fun wz hw => alibkeep_zonesLives_ok (hr9) wz ) ?_)
  refine WL.q (Y.not (.pl rfl)) rfl ?_
  refine WL.q (Y.move (.pl rfl)) rfl ?_
  refine WL.g (.pl rfl rfl rfl) (fun hg => Y.move (.pl rfl)) rfl ?_
  refine WL.g (.pl rfl rfl rfl) (fun hg => Y.neq (.gd (hg) rfl) (.pl rfl)) rfl ?_
  refine WL.q (Y.or (.pl rfl) (fun h2 => .gd (eqf h2) rfl)) rfl ?_
  refine WL.q (Y.move (.pl rfl)) rfl ?_
  refine WL.g (.pl rfl rfl rfl) (fun hg => Y.move (.pl rfl)) rfl ?_
  refine WL.g (.pl rfl rfl rfl) (fun hg => Y.lss (.gd (hg) rfl) (.pl rfl)) rfl ?_
  refine WL.q (Y.or (.pl rfl) (fun h2 => .gd (eqf h2) rfl)) rfl ?_
  refine WL.q (Y.move (.pl rfl)) rfl ?_
  refine WL.g (.pl rfl rfl rfl) (fun hg => Y.move (.pl rfl)) rfl ?_
  refine WL.g (.pl rfl rfl rfl) (fun hg => Y.move (.pl rfl)) rfl ?_
  refine WL.g (.pl rfl rfl rfl) (fun hg => Y.len Try.underlying22 (.gd (hg) rfl)) rfl ?_
  refine WL.g (.pl rfl rfl rfl) (fun hg => Y.gtr (.gd (hg) rfl) (.gd (hg) rfl)) rfl ?_
  refine WL.q (Y.or (.pl rfl) (fun h2 => .gd (eqf h2) rfl)) rfl ?_
  refine WL.q (Y.move (.pl rfl)) rfl ?_
  refine WL.g (.pl rfl rfl rfl) (fun hg => Y.move (.pl rfl)) rfl ?_
  refine WL.g (.pl rfl rfl rfl) (fun hg => Y.not (.gd (hg) rfl)) rfl ?_
  refine WL.q (Y.or (.pl rfl) (fun h2 => .gd (eqf h2) rfl)) rfl ?_
  refine WL.next hQ4 (.cons (i := 0) rfl (.cons (i := 1) rfl (.cons (i := 36) rfl (.nil)))) ?_
  refine W.cond (.pl rfl) (fun hC5 => ?_) (fun hC5 => ?_)
  · replace hF := cpos hC5 hF
    -- region 3: zones.go:59
    refine W.seqR fun Q6 hQ6 => ?_
    obtain ⟨r10, hr10, hF⟩ := bnd hF
    refine WL.step (WO.callP isGo27 (.nil) rfl (fun wz hw => alibkeep_zonesLives_ok (hr10) wz ) ?_)
    refine WL.q (Y.assign (.pl rfl)) rfl ?_
    refine WL.next hQ6 (.cons (i := 4) rfl (.nil)) ?_
    obtain rfl := Option.some.inj hF
    refine W.retV (fn := Try.f7) (vs := [.bool r10]) Try.results7 ⟨.tmp rfl, trivial⟩ (fun _ _ h => h) (fun wz hw => ?_)
    exact hR _ _ ⟨rfl, (hw.pick [] rfl)⟩
  · replace hF := cneg hC5 hF
    refine W.skip ?_
    refine W.go hK3 (.cons (i := 0) rfl (.cons (i := 1) rfl (.nil))) ?_
    -- region 4: zones.go:61
    refine W.seqR fun Q7 hQ7 => ?_
    refine WL.q (Y.move (.pl rfl)) rfl ?_
    refine WL.q (Y.move (.pl rfl)) rfl ?_
    obtain ⟨hk11, hF⟩ := ckh hF
    refine WL.q (Y.slice0 (xs := l1) Try.underlying22 cells39 (.pl rfl) rfl (hs4).cap_le (.pl rfl) (hk11)) rfl ?_
    obtain ⟨r12, hr12, hF⟩ := bnd hF
    refine WL.step (WO.callP isGo25 (.cons (.pl rfl) (.nil)) rfl (fun wz hw => zones_Check_ok (hr12) wz ((SlIn.sub0 hs4 (slB_nat0 (hk11))).mono hw)) ?_)
    refine WL.q (Y.move (.pl rfl)) rfl ?_
    refine WL.q (Y.extract (.pl rfl) rfl) rfl ?_
    refine WL.q (Y.extract (.pl rfl) rfl) rfl ?_
    refine WL.q (Y.extract (.pl rfl) rfl) rfl ?_
    refine WL.step (WO.alloc (cs := (encBad (Bad.mk 0 0 0)).toArray) zero34 rfl rfl fun b13 => ?_)
    refine WL.q (Y.assign (.pl rfl)) rfl ?_
    refine WL.step (WO.storeBA (ds := (encBad (Bad.mk r12.2.1 r12.2.2.1 r12.2.2.2.1))) (cs' := (encBad (Bad.mk r12.2.1 r12.2.2.1 r12.2.2.2.1))) cells34 (.pl rfl) (.pl rfl) rfl (oneBad _) (i := 0) rfl (lel (o := 0) (l := 3) (m := 3) (by decide) rfl rfl) (putW rfl) ?_)
    refine WL.q (Y.assign (.pl rfl)) rfl ?_
    refine WL.next hQ7 (.cons (i := 8) rfl (.cons (i := 10) rfl (.nil))) ?_
    -- region 5: zones.go:62
    refine W.seqR fun Q8 hQ8 => ?_
    refine WL.q (Y.move (.pl rfl)) rfl ?_
    refine WL.q (Y.eql (.pl rfl) (.pl rfl)) rfl ?_
    refine WL.q (Y.move (.pl rfl)) rfl ?_
    refine WL.g (.pl rfl rfl rfl) (fun hg => Y.move (.pl rfl)) rfl ?_
    refine WL.q (Y.and (.pl rfl) (fun h2 => .gd (eqt h2) rfl)) rfl ?_
    refine WL.q (Y.assign (.pl rfl)) rfl ?_
    refine WL.next hQ8 (.cons (i := 4) rfl (.nil)) ?_
    obtain rfl := Option.some.inj hF
    refine W.retV (fn := Try.f7) (vs := [.bool ((decide (r12.2.2.2.2 = 0)) && r12.1)]) Try.results7 ⟨.tmp rfl, trivial⟩ (fun _ _ h => h) (fun wz hw => ?_)
    exact hR _ _ ⟨rfl, (hw.pick [] rfl)⟩

/-- slices.Clone -/
theorem slices_Clone_api_Event_api_Event_ok {xs : List Event} (hb : limB 32 xs.length = true) (w : World) {v : Value} (h : SlIn encEvent 4 w v xs) :
    Made Try.prog 22 [v] w (fun g : Option Addr × Nat => .slice g.1 xs.length g.2) (fun g => [cR encEvent 4 g.1 g.2 39 xs]) (fun _ => True) := by
  obtain ⟨A1, c1, rfl, hc1, hs⟩ := h.form
  refine W.enter (n := 8) Try.func22 rfl rfl Sub.refl (by simp) (St.start w) fun R hR => ?_
  refine W.seqR fun Q1 hQ1 => ?_
  refine WL.q (Y.assign (.pl rfl)) rfl ?_
  refine WL.next hQ1 (.cons (i := 0) rfl (.nil)) ?_
  refine W.seq fun K2 hK2 => ?_
  refine W.seqR fun Q3 hQ3 => ?_
  refine WL.q (Y.move (.pl rfl)) rfl ?_
  refine WL.q (Y.eqNil Try.underlying22 (.pl rfl)) rfl ?_
  refine WL.next hQ3 (.cons (i := 0) rfl (.cons (i := 4) rfl (.nil))) ?_
  refine W.cond (.pl rfl) (fun hC => ?_) (fun hC => ?_)
  · refine W.seqR fun Q4 hQ4 => ?_
    refine WL.q (Y.assign (.pl rfl)) rfl ?_
    refine WL.next hQ4 (.cons (i := 2) rfl (.nil)) ?_
    have hx : xs = [] := by
      cases xs with
      | nil => rfl
      | cons a r =>
        have := (hs.okA' (idx := 0) ⟨Int.le_refl _, by simp⟩).1
        rw [Option.isNone_iff_eq_none] at hC
        rw [hC] at this; cases this
    subst hx
    refine W.retV (fn := Try.f22) (vs := [.slice none 0 0]) Try.results22 ⟨.tmp rfl, trivial⟩ (fun _ _ h => h) (fun w hw => ?_)
    exact hR _ _ ⟨(none, 0), trivial, rfl, St.nilR hw encEvent 4 39⟩
  · refine W.skip ?_
    refine W.go hK2 (.cons (i := 0) rfl (.nil)) ?_
    obtain ⟨a1, rfl⟩ : ∃ a, A1 = some a := by cases A1 with
      | none => cases hC
      | some a => exact ⟨a, rfl⟩
    refine W.seqR fun Q5 hQ5 => ?_
    refine WL.step (WO.bsliceC (enc := encEvent) (ys := []) Try.underlying22 bz39 (.nil) rfl lenEvent rfl rfl (by decide) (by decide) rfl fun b => ?_)
    refine WL.q (Y.move (.pl rfl)) rfl ?_
    refine WL.step (WO.appendS (enc := encEvent) (ys := xs) (xs := []) Try.underlying22 ap39 lenEvent oneEvent (.pl rfl) rfl (.pl rfl) (i := 0) rfl (fun w hw => hs.mono hw) (by simpa using hb) rfl fun A c => ?_)
    refine WL.q (Y.assign (.pl rfl)) rfl ?_
    refine WL.next hQ5 (.cons (i := 2) rfl (.nil)) ?_
    refine W.retV (fn := Try.f22) (vs := [.slice A xs.length c]) Try.results22 ⟨.tmp rfl, trivial⟩ (fun _ _ h => h) (fun w hw => ?_)
    exact hR _ _ ⟨(A, c), trivial, rfl, hw⟩

def alibkeep_ZonesNames_L3 (N : Nat) (r12 : ((List Call) × Int × Int)) (more6 : Int) : ((List Event) × Int) → Option (((List Event) × Int) ⊕ (List Event))
  | (m19, v20) =>
    cond (decide (v20 < ((r12.1).length : Int)))
      (bd (ix r12.1 v20) fun (x21 : Call) =>
      bd (α := (List Event)) (cond (decide (x21.kind = 1))
          (bd (ix m19 x21.from_) fun (x24 : Event) =>
          ck (ok64 (x24.value + more6)) <|
          some (m19.set x21.from_.toNat (Event.mk x24.who x24.thing x24.kind (x24.value + more6))))
          (some m19)) <|
      fun (m23 : (List Event)) => 
        cond (((decide (x21.kind = 2)) && (!(decide (x21.to_ = (-1))))) && (!(decide (x21.res = 0))))
          (bd (ix m23 x21.to_) fun (x26 : Event) =>
          ck (ok64 (x26.value + more6)) <|
          ck (ok64 (v20 + 1)) <|
          some (.inl ((m23.set x21.to_.toNat (Event.mk x26.who x26.thing x26.kind (x26.value + more6))), (v20 + 1))))
          (ck (ok64 (v20 + 1)) <|
          some (.inl (m23, (v20 + 1)))))
      (some (.inr m19))

def alibkeep_ZonesNames (N : Nat) (l1 : (List Event)) (more6 : Int) : Option Bool :=
  bd (zones_Check N l1) fun (r7 : (Bool × Int × Int × Int × Int)) =>
  bd (alibkeep_zonesLives N) fun (r9 : Bool) =>
  cond ((((!r9) || (!(decide (r7.2.2.2.2 = 0)))) || (decide (more6 < 0))) || (decide (1000 < more6)))
    (bd (alibkeep_zonesLives N) fun (r10 : Bool) =>
    some r10)
    (bd (history_Calls N ([1] : List Int) l1) fun (r12 : ((List Call) × Int × Int)) =>
    ck (limB 32 (l1).length) <|
    bd (α := (List Event)) (iter (alibkeep_ZonesNames_L3 N r12 more6) N (l1, 0)) <|
    fun (m18 : (List Event)) => 
      bd (zones_Check N m18) fun (r30 : (Bool × Int × Int × Int × Int)) =>
      some ((decide (r12.2.2 = 0)) && ((!(decide (r30.2.2.2.2 = 0))) || ((r30.1 == r7.1) && (decide (r30.2.1 = r7.2.1))))))

theorem alibkeep_ZonesNames_ok {N : Nat} {l1 : (List Event)} {more6 : Int} {res : Bool} (hF : alibkeep_ZonesNames N l1 more6 = some res) (w : World) {v5 : Value} (hs4 : SlIn encEvent 4 w v5 l1) :
    Pure Try.prog 10 [v5, .int .i64 more6] w (.bool res) := by
  obtain ⟨A2, c3, rfl, hcc3, hs4⟩ := hs4.form
  refine W.enter (n := 114) Try.func10 rfl rfl Sub.refl (by simp) (St.start w) fun R hR => ?_
  unfold alibkeep_ZonesNames at hF
  -- region 0: zones.go:66
  refine W.seqR fun Q1 hQ1 => ?_
  refine WL.q (Y.assign (.pl rfl)) rfl ?_
  refine WL.next hQ1 (.cons (i := 0) rfl (.cons (i := 1) rfl (.nil))) ?_
  -- region 1: zones.go:67
  refine W.seqR fun Q2 hQ2 => ?_
  refine WL.q (Y.move (.pl rfl)) rfl ?_
  obtain ⟨r7, hr7, hF⟩ := bnd hF
  refine WL.step (WO.callP isGo25 (.cons (.pl rfl) (.nil)) rfl (fun wz hw => zones_Check_ok (hr7) wz (hs4.mono hw)) ?_)
  refine WL.q (Y.move (.pl rfl)) rfl ?_
  refine WL.q (Y.extract (.pl rfl) rfl) rfl ?_
  refine WL.q (Y.extract (.pl rfl) rfl) rfl ?_
  refine WL.q (Y.extract (.pl rfl) rfl) rfl ?_
  refine WL.step (WO.alloc (cs := (encBad (Bad.mk 0 0 0)).toArray) zero34 rfl rfl fun b8 => ?_)
  refine WL.q (Y.assign (.pl rfl)) rfl ?_
  refine WL.step (WO.storeBA (ds := (encBad (Bad.mk r7.2.1 r7.2.2.1 r7.2.2.2.1))) (cs' := (encBad (Bad.mk r7.2.1 r7.2.2.1 r7.2.2.2.1))) cells34 (.pl rfl) (.pl rfl) rfl (oneBad _) (i := 0) rfl (lel (o := 0) (l := 3) (m := 3) (by decide) rfl rfl) (putW rfl) ?_)
  refine WL.q (Y.assign (.pl rfl)) rfl ?_
  refine WL.next hQ2 (.cons (i := 0) rfl (.cons (i := 1) rfl (.cons (i := 5) rfl (.cons (i := 6) rfl (.cons (i := 7) rfl (.nil)))))) ?_
  refine W.seq fun K3 hK3 => ?_
  -- region 2: zones.go:68
  refine W.seqR fun Q4 hQ4 => ?_
  obtain ⟨r9, hr9, hF⟩ := bnd hF
  refine WL.step (WO.callP isGo27 (.nil) rfl (fun wz hw => alibkeep_zonesLives_ok (hr9) wz ) ?_)
  refine WL.q (Y.not (.pl rfl)) rfl ?_
  refine WL.q (Y.move (.pl rfl)) rfl ?_
  refine WL.g (.pl rfl rfl rfl) (fun hg => Y.move (.pl rfl)) rfl ?_
  refine WL.g (.pl rfl rfl rfl) (fun hg => Y.neq (.gd (hg) rfl) (.pl rfl)) rfl ?_
  refine WL.q (Y.or (.pl rfl) (fun h2 => .gd (eqf h2) rfl)) rfl ?_
  refine WL.q (Y.move (.pl rfl)) rfl ?_
  refine WL.g (.pl rfl rfl rfl) (fun hg => Y.move (.pl rfl)) rfl ?_
  refine WL.g (.pl rfl rfl rfl) (fun hg => Y.lss (.gd (hg) rfl) (.pl rfl)) rfl ?_
  refine WL.q (Y.or (.pl rfl) (fun h2 => .gd (eqf h2) rfl)) rfl ?_
  refine WL.q (Y.move (.pl rfl)) rfl ?_
  refine WL.g (.pl rfl rfl rfl) (fun hg => Y.move (.pl rfl)) rfl ?_
  refine WL.g (.pl rfl rfl rfl) (fun hg => Y.gtr (.gd (hg) rfl) (.pl rfl)) rfl ?_
  refine WL.q (Y.or (.pl rfl) (fun h2 => .gd (eqf h2) rfl)) rfl ?_
  refine WL.next hQ4 (.cons (i := 0) rfl (.cons (i := 1) rfl (.cons (i := 5) rfl (.cons (i := 6) rfl (.cons (i := 36) rfl (.nil)))))) ?_
  refine W.cond (.pl rfl) (fun hC5 => ?_) (fun hC5 => ?_)
  · replace hF := cpos hC5 hF
    -- region 3: zones.go:69
    refine W.seqR fun Q6 hQ6 => ?_
    obtain ⟨r10, hr10, hF⟩ := bnd hF
    refine WL.step (WO.callP isGo27 (.nil) rfl (fun wz hw => alibkeep_zonesLives_ok (hr10) wz ) ?_)
    refine WL.q (Y.assign (.pl rfl)) rfl ?_
    refine WL.next hQ6 (.cons (i := 4) rfl (.nil)) ?_
    obtain rfl := Option.some.inj hF
    refine W.retV (fn := Try.f10) (vs := [.bool r10]) Try.results10 ⟨.tmp rfl, trivial⟩ (fun _ _ h => h) (fun wz hw => ?_)
    exact hR _ _ ⟨rfl, (hw.pick [] rfl)⟩
  · replace hF := cneg hC5 hF
    refine W.skip ?_
    refine W.go hK3 (.cons (i := 0) rfl (.cons (i := 1) rfl (.cons (i := 5) rfl (.cons (i := 6) rfl (.nil))))) ?_
    -- region 4: zones.go:71
    refine W.seqR fun Q7 hQ7 => ?_
    refine WL.step (WO.bsliceC (enc := (eI .i64)) (ys := ([1] : List Int)) Try.underlying45 bz3 (.cons (.pl rfl) (.nil)) rfl (fun _ => rfl) rfl rfl (by decide) (by decide) rfl fun b11 => ?_)
    refine WL.q (Y.move (.pl rfl)) rfl ?_
    obtain ⟨r12, hr12, hF⟩ := bnd hF
    refine WL.step (WO.callM isGo26 (.cons (.pl rfl) (.cons (.pl rfl) (.nil))) rfl (fun wz hw => history_Calls_ok (hr12) wz (SlIn.ofRow (fun _ => rfl) hw (i := 0) rfl) (hs4.mono hw)) ?_)
    rintro ⟨A13, c14⟩ -
    refine WL.q (Y.move (.pl rfl)) rfl ?_
    refine WL.q (Y.extract (.pl rfl) rfl) rfl ?_
    refine WL.q (Y.extract (.pl rfl) rfl) rfl ?_
    refine WL.q (Y.extract (.pl rfl) rfl) rfl ?_
    refine WL.q (Y.assign (.pl rfl)) rfl ?_
    refine WL.q (Y.assign (.pl rfl)) rfl ?_
    refine WL.q (Y.assign (.pl rfl)) rfl ?_
    refine WL.next hQ7 (.cons (i := 0) rfl (.cons (i := 1) rfl (.cons (i := 5) rfl (.cons (i := 6) rfl (.cons (i := 8) rfl (.cons (i := 10) rfl (.nil))))))) ?_
    -- region 5: zones.go:72
    refine W.seqR fun Q8 hQ8 => ?_
    refine WL.q (Y.move (.pl rfl)) rfl ?_
    obtain ⟨hk15, hF⟩ := ckh hF
    refine WL.step (WO.callM isGo22 (.cons (.pl rfl) (.nil)) rfl (fun wz hw => slices_Clone_api_Event_api_Event_ok (hk15) wz (hs4.mono hw)) ?_)
    rintro ⟨A16, c17⟩ -
    refine WL.q (Y.assign (.pl rfl)) rfl ?_
    refine WL.next hQ8 (.cons (i := 1) rfl (.cons (i := 5) rfl (.cons (i := 6) rfl (.cons (i := 8) rfl (.cons (i := 10) rfl (.cons (i := 11) rfl (.nil))))))) ?_
    obtain ⟨o9, hF9, hF⟩ := bnd hF
    refine W.join1 (Em := fun (m18 : (List Event)) => [(11, .slice A16 (m18).length c17)]) (M := fun m18 => [cBx b8 34 (encBad (Bad.mk r7.2.1 r7.2.2.1 r7.2.2.2.1)), cR encEvent 4 A16 c17 39 m18]) (I := fun m18 => m18 = o9) (.cons (i := 5) rfl (.cons (i := 6) rfl (.cons (i := 10) rfl (.nil)))) (fun K10 hK10 => ?_) ?_
    · -- up to
      -- region 6: zones.go:73
      refine W.seqR fun Q11 hQ11 => ?_
      refine WL.q (Y.move (.pl rfl)) rfl ?_
      refine WL.q (Y.len Try.underlying42 (.pl rfl)) rfl ?_
      refine WL.q (Y.move (.pl rfl)) rfl ?_
      refine WL.next hQ11 (.cons (i := 1) rfl (.cons (i := 5) rfl (.cons (i := 6) rfl (.cons (i := 10) rfl (.cons (i := 11) rfl (.cons (i := 47) rfl (.cons (i := 48) rfl (.cons (i := 49) rfl (.nil))))))))) ?_
      refine W.block ?_
      refine W.loop2 (Em := fun (m19 : (List Event)) (v20 : Int) => [(11, .slice A16 (m19).length c17), (49, .int .i64 v20)]) (M := fun m19 v20 => [cBx b8 34 (encBad (Bad.mk r7.2.1 r7.2.2.1 r7.2.2.2.1)), cR encEvent 4 A16 c17 39 m19, cR encCall 7 A13 c14 48 r12.1]) (I := fun m19 v20 k12 => iter (alibkeep_ZonesNames_L3 N r12 more6) k12 (m19, v20) = some o9) l1 0 N (hF9) (.cons rfl (.cons rfl (.nil))) (.cons (i := 1) rfl (.cons (i := 5) rfl (.cons (i := 6) rfl (.cons (i := 10) rfl (.cons (i := 47) rfl (.cons (i := 48) rfl (.nil))))))) (fun wz hw => hw.pick [3, 0, 1] rfl) (fun m19 v20 k12 hI K13 hK13 => ?_)
      obtain ⟨k12, t12, rfl, hF12, hN12⟩ := iter_step hI
      -- region 7: zones.go:73
      refine W.seqR fun Q14 hQ14 => ?_
      refine WL.q (Y.lss (.pl rfl) (.pl rfl)) rfl ?_
      refine WL.next hQ14 (.cons (i := 1) rfl (.cons (i := 5) rfl (.cons (i := 6) rfl (.cons (i := 10) rfl (.cons (i := 11) rfl (.cons (i := 47) rfl (.cons (i := 48) rfl (.cons (i := 49) rfl (.cons (i := 50) rfl (.nil)))))))))) ?_
      refine W.seq fun K15 hK15 => ?_
      refine W.cond (.pl rfl) (fun hC16 => ?_) (fun hC16 => ?_)
      · replace hF12 := cpos hC16 hF12
        refine W.skip ?_
        refine W.go hK15 (.cons (i := 1) rfl (.cons (i := 5) rfl (.cons (i := 6) rfl (.cons (i := 10) rfl (.cons (i := 11) rfl (.cons (i := 47) rfl (.cons (i := 48) rfl (.cons (i := 49) rfl (.nil))))))))) ?_
        refine W.seq fun K17 hK17 => ?_
        refine W.block ?_
        -- region 8: zones.go:73
        refine W.seqR fun Q18 hQ18 => ?_
        obtain ⟨x21, hx21, hF12⟩ := bnd hF12
        refine WL.q (Y.rowEl Try.underlying42 cells48 (i := 2) rfl (.pl rfl) rfl (.pl rfl) (ix_lt (hx21))) rfl ?_
        refine WL.q (Y.loadRA (enc := encCall) (ds := (encCall x21)) (a := x21) (idx := v20) (j := 0) Try.underlying48 rfl cells48 lenCall (i := 2) rfl (.pl rfl) (ix_get (hx21)) rfl rfl subW) rfl ?_
        refine WL.step (WO.alloc (cs := (encCall (Call.mk 0 0 0 0 0 0 0)).toArray) zero48 rfl rfl fun b22 => ?_)
        refine WL.step (WO.storeBA (ds := (encCall x21)) (cs' := (encCall x21)) cells48 (.pl rfl) (.pl rfl) rfl (oneCall _) (i := 0) rfl (lel (o := 0) (l := 7) (m := 7) (by decide) rfl rfl) (putW rfl) ?_)
        refine WL.next hQ18 (.cons (i := 1) rfl (.cons (i := 5) rfl (.cons (i := 6) rfl (.cons (i := 10) rfl (.cons (i := 11) rfl (.cons (i := 13) rfl (.cons (i := 47) rfl (.cons (i := 48) rfl (.cons (i := 49) rfl (.nil)))))))))) ?_
        obtain ⟨o19, hF19, hF12⟩ := bnd hF12
        refine W.join1 (Em := fun (m23 : (List Event)) => [(11, .slice A16 (m23).length c17)]) (M := fun m23 => [cBx b8 34 (encBad (Bad.mk r7.2.1 r7.2.2.1 r7.2.2.2.1)), cR encEvent 4 A16 c17 39 m23, cBx b22 48 (encCall x21), cR encCall 7 A13 c14 48 r12.1]) (I := fun m23 => m23 = o19) (.cons (i := 1) rfl (.cons (i := 5) rfl (.cons (i := 6) rfl (.cons (i := 10) rfl (.cons (i := 13) rfl (.cons (i := 47) rfl (.cons (i := 48) rfl (.cons (i := 49) rfl (.nil))))))))) (fun K20 hK20 => ?_) ?_
        · -- up to
          -- region 9: zones.go:74
          refine W.seqR fun Q21 hQ21 => ?_
          refine WL.q (Y.fieldAddr0 (off := 2) (ft := 3) Try.underlying48 rfl cells3 (.pl rfl)) rfl ?_
          refine WL.q (Y.loadB (v := .int .i64 x21.kind) Try.underlying3 rfl (.pl rfl) (i := 0) rfl (rfl)) rfl ?_
          refine WL.q (Y.eql (.pl rfl) (.pl rfl)) rfl ?_
          refine WL.next hQ21 (.cons (i := 1) rfl (.cons (i := 5) rfl (.cons (i := 6) rfl (.cons (i := 10) rfl (.cons (i := 11) rfl (.cons (i := 13) rfl (.cons (i := 47) rfl (.cons (i := 48) rfl (.cons (i := 49) rfl (.cons (i := 55) rfl (.nil))))))))))) ?_
          refine W.cond (.pl rfl) (fun hC22 => ?_) (fun hC22 => ?_)
          · replace hF19 := cpos hC22 hF19
            -- region 10: zones.go:75
            refine W.reg ?_
            refine WL.q (Y.move (.pl rfl)) rfl ?_
            refine WL.q (Y.fieldAddr0 (off := 5) (ft := 3) Try.underlying48 rfl cells3 (.pl rfl)) rfl ?_
            refine WL.q (Y.loadB (v := .int .i64 x21.from_) Try.underlying3 rfl (.pl rfl) (i := 0) rfl (rfl)) rfl ?_
            obtain ⟨x24, hx24, hF19⟩ := bnd hF19
            refine WL.q (Y.rowEl Try.underlying22 cells39 (i := 2) rfl (.pl rfl) rfl (.pl rfl) (ix_lt (hx24))) rfl ?_
            refine WL.q (Y.rowField (off := 3) (ft := 3) Try.underlying39 rfl cells3 (i' := 2) rfl (ix_lt (hx24)) (.pl rfl)) rfl ?_
            refine WL.q (Y.loadR (enc := encEvent) (v := .int .i64 x24.value) (a := x24) (idx := x21.from_) (j := 3) Try.underlying3 rfl lenEvent (i := 2) rfl (.pl rfl) (ix_get (hx24)) rfl rfl) rfl ?_
            refine WL.q (Y.move (.pl rfl)) rfl ?_
            obtain ⟨hk25, hF19⟩ := ckh hF19
            refine WL.q (Y.add (.pl rfl) (.pl rfl) (ok64_lt (hk25))) rfl ?_
            refine WL.q (Y.rowEl Try.underlying22 cells39 (i := 2) rfl (.pl rfl) rfl (.pl rfl) (ix_lt (hx24))) rfl ?_
            refine WL.q (Y.rowField (off := 3) (ft := 3) Try.underlying39 rfl cells3 (i' := 2) rfl (ix_lt (hx24)) (.pl rfl)) rfl ?_
            refine WL.step (WO.storeS (enc := encEvent) (a := x24) (a' := (Event.mk x24.who x24.thing x24.kind (x24.value + more6))) (idx := x21.from_) (j := 3) cells3 (.pl rfl) (.pl rfl) rfl lenEvent (i := 2) rfl (ix_get (hx24)) rfl (by decide) rfl ?_)
            refine WL.nil ?_
            exact W.joinAt1 hK20 (m19.set x21.from_.toNat (Event.mk x24.who x24.thing x24.kind (x24.value + more6))) (Option.some.inj hF19) (.cons (eqSl (by simp)) (.nil)) (.cons (i := 1) rfl (.cons (i := 5) rfl (.cons (i := 6) rfl (.cons (i := 10) rfl (.cons (i := 13) rfl (.cons (i := 47) rfl (.cons (i := 48) rfl (.cons (i := 49) rfl (.nil))))))))) (fun wz hw => hw.pick [1, 2, 0, 3] rfl)
          · replace hF19 := cneg hC22 hF19
            refine W.skip ?_
            exact W.joinAt1 hK20 m19 (Option.some.inj hF19) (.cons rfl (.nil)) (.cons (i := 1) rfl (.cons (i := 5) rfl (.cons (i := 6) rfl (.cons (i := 10) rfl (.cons (i := 13) rfl (.cons (i := 47) rfl (.cons (i := 48) rfl (.cons (i := 49) rfl (.nil))))))))) (fun wz hw => hw.pick [1, 2, 0, 3] rfl)
        · -- behind
          rintro m23 rfl
          -- region 11: zones.go:77
          refine W.seqR fun Q24 hQ24 => ?_
          refine WL.q (Y.fieldAddr0 (off := 2) (ft := 3) Try.underlying48 rfl cells3 (.pl rfl)) rfl ?_
          refine WL.q (Y.loadB (v := .int .i64 x21.kind) Try.underlying3 rfl (.pl rfl) (i := 2) rfl (rfl)) rfl ?_
          refine WL.q (Y.eql (.pl rfl) (.pl rfl)) rfl ?_
          refine WL.q (Y.move (.pl rfl)) rfl ?_
          refine WL.g (.pl rfl rfl rfl) (fun hg => Y.fieldAddr0 (off := 6) (ft := 3) Try.underlying48 rfl cells3 (.pl rfl)) rfl ?_
          refine WL.g (.pl rfl rfl rfl) (fun hg => Y.loadB (v := .int .i64 x21.to_) Try.underlying3 rfl (.gd (hg) rfl) (i := 2) rfl (rfl)) rfl ?_
          refine WL.g (.pl rfl rfl rfl) (fun hg => Y.neq (.gd (hg) rfl) (.pl rfl)) rfl ?_
          refine WL.q (Y.and (.pl rfl) (fun h2 => .gd (eqt h2) rfl)) rfl ?_
          refine WL.q (Y.move (.pl rfl)) rfl ?_
          refine WL.g (.pl rfl rfl rfl) (fun hg => Y.fieldAddr0 (off := 4) (ft := 3) Try.underlying48 rfl cells3 (.pl rfl)) rfl ?_
          refine WL.g (.pl rfl rfl rfl) (fun hg => Y.loadB (v := .int .i64 x21.res) Try.underlying3 rfl (.gd (hg) rfl) (i := 2) rfl (rfl)) rfl ?_
          refine WL.g (.pl rfl rfl rfl) (fun hg => Y.neq (.gd (hg) rfl) (.pl rfl)) rfl ?_
          refine WL.q (Y.and (.pl rfl) (fun h2 => .gd (eqt h2) rfl)) rfl ?_
          refine WL.next hQ24 (.cons (i := 1) rfl (.cons (i := 5) rfl (.cons (i := 6) rfl (.cons (i := 10) rfl (.cons (i := 11) rfl (.cons (i := 13) rfl (.cons (i := 47) rfl (.cons (i := 48) rfl (.cons (i := 49) rfl (.cons (i := 78) rfl (.nil))))))))))) ?_
          refine W.cond (.pl rfl) (fun hC25 => ?_) (fun hC25 => ?_)
          · replace hF12 := cpos hC25 hF12
            -- region 12: zones.go:78
            refine W.reg ?_
            refine WL.q (Y.move (.pl rfl)) rfl ?_
            refine WL.q (Y.fieldAddr0 (off := 6) (ft := 3) Try.underlying48 rfl cells3 (.pl rfl)) rfl ?_
            refine WL.q (Y.loadB (v := .int .i64 x21.to_) Try.underlying3 rfl (.pl rfl) (i := 2) rfl (rfl)) rfl ?_
            obtain ⟨x26, hx26, hF12⟩ := bnd hF12
            refine WL.q (Y.rowEl Try.underlying22 cells39 (i := 1) rfl (.pl rfl) rfl (.pl rfl) (ix_lt (hx26))) rfl ?_
            refine WL.q (Y.rowField (off := 3) (ft := 3) Try.underlying39 rfl cells3 (i' := 1) rfl (ix_lt (hx26)) (.pl rfl)) rfl ?_
            refine WL.q (Y.loadR (enc := encEvent) (v := .int .i64 x26.value) (a := x26) (idx := x21.to_) (j := 3) Try.underlying3 rfl lenEvent (i := 1) rfl (.pl rfl) (ix_get (hx26)) rfl rfl) rfl ?_
            refine WL.q (Y.move (.pl rfl)) rfl ?_
            obtain ⟨hk27, hF12⟩ := ckh hF12
            refine WL.q (Y.add (.pl rfl) (.pl rfl) (ok64_lt (hk27))) rfl ?_
            refine WL.q (Y.rowEl Try.underlying22 cells39 (i := 1) rfl (.pl rfl) rfl (.pl rfl) (ix_lt (hx26))) rfl ?_
            refine WL.q (Y.rowField (off := 3) (ft := 3) Try.underlying39 rfl cells3 (i' := 1) rfl (ix_lt (hx26)) (.pl rfl)) rfl ?_
            refine WL.step (WO.storeS (enc := encEvent) (a := x26) (a' := (Event.mk x26.who x26.thing x26.kind (x26.value + more6))) (idx := x21.to_) (j := 3) cells3 (.pl rfl) (.pl rfl) rfl lenEvent (i := 1) rfl (ix_get (hx26)) rfl (by decide) rfl ?_)
            refine WL.nil ?_
            refine W.go hK17 (.cons (i := 1) rfl (.cons (i := 5) rfl (.cons (i := 6) rfl (.cons (i := 10) rfl (.cons (i := 11) rfl (.cons (i := 47) rfl (.cons (i := 48) rfl (.cons (i := 49) rfl (.nil))))))))) ?_
            -- region 13: zones.go:73
            refine W.reg ?_
            obtain ⟨hk28, hF12⟩ := ckh hF12
            refine WL.q (Y.add (.pl rfl) (.pl rfl) (ok64_lt (hk28))) rfl ?_
            refine WL.q (Y.move (.pl rfl)) rfl ?_
            refine WL.nil ?_
            obtain rfl := Option.some.inj hF12
            exact W.again2 hK13 (m23.set x21.to_.toNat (Event.mk x26.who x26.thing x26.kind (x26.value + more6))) (v20 + 1) k12 hN12 (Nat.lt_succ_self _) (.cons (eqSl (by simp)) (.cons rfl (.nil))) (.cons (i := 1) rfl (.cons (i := 5) rfl (.cons (i := 6) rfl (.cons (i := 10) rfl (.cons (i := 47) rfl (.cons (i := 48) rfl (.nil))))))) (fun wz hw => hw.pick [0, 1, 3] rfl)
          · replace hF12 := cneg hC25 hF12
            refine W.skip ?_
            refine W.go hK17 (.cons (i := 1) rfl (.cons (i := 5) rfl (.cons (i := 6) rfl (.cons (i := 10) rfl (.cons (i := 11) rfl (.cons (i := 47) rfl (.cons (i := 48) rfl (.cons (i := 49) rfl (.nil))))))))) ?_
            -- region 13: zones.go:73
            refine W.reg ?_
            obtain ⟨hk29, hF12⟩ := ckh hF12
            refine WL.q (Y.add (.pl rfl) (.pl rfl) (ok64_lt (hk29))) rfl ?_
            refine WL.q (Y.move (.pl rfl)) rfl ?_
            refine WL.nil ?_
            obtain rfl := Option.some.inj hF12
            exact W.again2 hK13 m23 (v20 + 1) k12 hN12 (Nat.lt_succ_self _) (.cons rfl (.cons rfl (.nil))) (.cons (i := 1) rfl (.cons (i := 5) rfl (.cons (i := 6) rfl (.cons (i := 10) rfl (.cons (i := 47) rfl (.cons (i := 48) rfl (.nil))))))) (fun wz hw => hw.pick [0, 1, 3] rfl)
      · replace hF12 := cneg hC16 hF12
        refine W.exit ?_
        obtain rfl := Option.some.inj hF12
        exact W.joinAt1 hK10 m19 (einr hN12) (.cons rfl (.nil)) (.cons (i := 5) rfl (.cons (i := 6) rfl (.cons (i := 10) rfl (.nil)))) (fun wz hw => hw.pick [0, 1] rfl)
    · -- behind
      rintro m18 rfl
      -- region 14: zones.go:81
      refine W.seqR fun Q29 hQ29 => ?_
      refine WL.q (Y.move (.pl rfl)) rfl ?_
      obtain ⟨r30, hr30, hF⟩ := bnd hF
      refine WL.step (WO.callP isGo25 (.cons (.pl rfl) (.nil)) rfl (fun wz hw => zones_Check_ok (hr30) wz (SlIn.ofRow lenEvent hw (i := 1) rfl)) ?_)
      refine WL.q (Y.move (.pl rfl)) rfl ?_
      refine WL.q (Y.extract (.pl rfl) rfl) rfl ?_
      refine WL.q (Y.extract (.pl rfl) rfl) rfl ?_
      refine WL.q (Y.extract (.pl rfl) rfl) rfl ?_
      refine WL.step (WO.alloc (cs := (encBad (Bad.mk 0 0 0)).toArray) zero34 rfl rfl fun b31 => ?_)
      refine WL.q (Y.assign (.pl rfl)) rfl ?_
      refine WL.step (WO.storeBA (ds := (encBad (Bad.mk r30.2.1 r30.2.2.1 r30.2.2.2.1))) (cs' := (encBad (Bad.mk r30.2.1 r30.2.2.1 r30.2.2.2.1))) cells34 (.pl rfl) (.pl rfl) rfl (oneBad _) (i := 0) rfl (lel (o := 0) (l := 3) (m := 3) (by decide) rfl rfl) (putW rfl) ?_)
      refine WL.q (Y.assign (.pl rfl)) rfl ?_
      refine WL.next hQ29 (.cons (i := 5) rfl (.cons (i := 6) rfl (.cons (i := 10) rfl (.cons (i := 14) rfl (.cons (i := 15) rfl (.cons (i := 16) rfl (.nil))))))) ?_
      -- region 15: zones.go:82
      refine W.seqR fun Q30 hQ30 => ?_
      refine WL.q (Y.move (.pl rfl)) rfl ?_
      refine WL.q (Y.eql (.pl rfl) (.pl rfl)) rfl ?_
      refine WL.q (Y.move (.pl rfl)) rfl ?_
      refine WL.g (.pl rfl rfl rfl) (fun hg => Y.move (.pl rfl)) rfl ?_
      refine WL.g (.pl rfl rfl rfl) (fun hg => Y.neq (.gd (hg) rfl) (.pl rfl)) rfl ?_
      refine WL.g (.pl rfl rfl rfl) (fun hg => Y.move (.gd (hg) rfl)) rfl ?_
      refine WL.g (.gd rfl rfl rfl) (fun hg => Y.move (.pl rfl)) rfl ?_
      refine WL.g (.gd rfl rfl rfl) (fun hg => Y.move (.pl rfl)) rfl ?_
      refine WL.g (.gd rfl rfl rfl) (fun hg => Y.eqlB Try.underlying4 (.gd (hg) rfl) (.gd (hg) rfl)) rfl ?_
      refine WL.g (.gd rfl rfl rfl) (fun hg => Y.move (.gd (hg) rfl)) rfl ?_
      refine WL.g (.gd rfl rfl rfl) (fun hg => Y.fieldAddr0 (off := 0) (ft := 3) Try.underlying34 rfl cells3 (.pl rfl)) rfl ?_
      refine WL.g (.gd rfl rfl rfl) (fun hg => Y.loadB (v := .int .i64 r30.2.1) Try.underlying3 rfl (.gd (hg) rfl) (i := 0) rfl (rfl)) rfl ?_
      refine WL.g (.gd rfl rfl rfl) (fun hg => Y.fieldAddr0 (off := 0) (ft := 3) Try.underlying34 rfl cells3 (.pl rfl)) rfl ?_
      refine WL.g (.gd rfl rfl rfl) (fun hg => Y.loadB (v := .int .i64 r7.2.1) Try.underlying3 rfl (.gd (hg) rfl) (i := 1) rfl (rfl)) rfl ?_
      refine WL.g (.gd rfl rfl rfl) (fun hg => Y.eql (.gd (hg) rfl) (.gd (hg) rfl)) rfl ?_
      refine WL.g (.gd rfl rfl rfl) (fun hg => Y.and (.gd (hg) rfl) (fun h2 => .gd (band hg (eqt h2)) rfl)) rfl ?_
      refine WL.g (.pl rfl rfl rfl) (fun hg => Y.or (.gd (hg) rfl) (fun h2 => .gd (band hg (eqf h2)) rfl)) rfl ?_
      refine WL.q (Y.and (.pl rfl) (fun h2 => .gd (eqt h2) rfl)) rfl ?_
      refine WL.q (Y.assign (.pl rfl)) rfl ?_
      refine WL.next hQ30 (.cons (i := 4) rfl (.nil)) ?_
      obtain rfl := Option.some.inj hF
      refine W.retV (fn := Try.f10) (vs := [.bool ((decide (r12.2.2 = 0)) && ((!(decide (r30.2.2.2.2 = 0))) || ((r30.1 == r7.1) && (decide (r30.2.1 = r7.2.1)))))]) Try.results10 ⟨.tmp rfl, trivial⟩ (fun _ _ h => h) (fun wz hw => ?_)
      exact hR _ _ ⟨rfl, (hw.pick [] rfl)⟩

end Go.Proofs.Ytolneilkgjglkaa
