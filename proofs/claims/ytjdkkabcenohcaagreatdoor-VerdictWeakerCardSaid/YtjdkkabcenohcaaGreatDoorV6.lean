/- read, at whatever length. -/
import Derived.Test.YtjdkkabcenohcaaGreatDoorAuto
import Derived.Test.YtjdkkabcenohcaaGreatDoorV5
import Derived.Test.YtjdkkabcenohcaaGreatDoorSort
set_option linter.unusedVariables false
set_option linter.defProp false
set_option linter.unusedSimpArgs false
set_option linter.unusedSectionVars false
set_option maxRecDepth 100000
namespace Go.Proofs.YtjdkkabcenohcaaGreatDoor
open Go.RowKit
attribute [local irreducible] Yd Evs Evl

def ren128 : Go.Shelf.Ren := ⟨fun x => match x with | 6 => 128 | 14 => 162 | 15 => 159 | 20 => 189 | 21 => 190 | 22 => 191 | 23 => 192 | 24 => 193 | 25 => 194 | 26 => 195 | 27 => 196 | 28 => 188 | 29 => 176 | 46 => 210 | 47 => 206 | 48 => 207 | 49 => 211 | 50 => 212 | 57 => 225 | n => n, fun x => match x with | 0 => 0 | 3 => 3 | 4 => 4 | 5 => 5 | 9 => 9 | 22 => 230 | 24 => 236 | 25 => 238 | 39 => 176 | 45 => 288 | 46 => 289 | 50 => 158 | 53 => 255 | 55 => 263 | 66 => 312 | 70 => 316 | 76 => 331 | 77 => 332 | n => n, fun x => x⟩
theorem lays128 : SlLaysF0.n6 Tryz.prog ren128 where
  mixed := by kernel_rfl
  f6 := ⟨Tryz.f128.name, by kernel_rfl, Tryz.func128.trans (congrArg some (by kernel_rfl))⟩
  f14 := ⟨Tryz.f162.name, by kernel_rfl, Tryz.func162.trans (congrArg some (by kernel_rfl))⟩
  f15 := Tryz.func159.trans (congrArg some (by kernel_rfl))
  f20 := ⟨Tryz.f189.name, by kernel_rfl, Tryz.func189.trans (congrArg some (by kernel_rfl))⟩
  f21 := ⟨Tryz.f190.name, by kernel_rfl, Tryz.func190.trans (congrArg some (by kernel_rfl))⟩
  f22 := ⟨Tryz.f191.name, by kernel_rfl, Tryz.func191.trans (congrArg some (by kernel_rfl))⟩
  f23 := ⟨Tryz.f192.name, by kernel_rfl, Tryz.func192.trans (congrArg some (by kernel_rfl))⟩
  f24 := ⟨Tryz.f193.name, by kernel_rfl, Tryz.func193.trans (congrArg some (by kernel_rfl))⟩
  f25 := ⟨Tryz.f194.name, by kernel_rfl, Tryz.func194.trans (congrArg some (by kernel_rfl))⟩
  f26 := ⟨Tryz.f195.name, by kernel_rfl, Tryz.func195.trans (congrArg some (by kernel_rfl))⟩
  f27 := ⟨Tryz.f196.name, by kernel_rfl, Tryz.func196.trans (congrArg some (by kernel_rfl))⟩
  f28 := Tryz.func188.trans (congrArg some (by kernel_rfl))
  f29 := Tryz.func176.trans (congrArg some (by kernel_rfl))
  f46 := ⟨Tryz.f210.name, by kernel_rfl, Tryz.func210.trans (congrArg some (by kernel_rfl))⟩
  f47 := Tryz.func206.trans (congrArg some (by kernel_rfl))
  f48 := Tryz.func207.trans (congrArg some (by kernel_rfl))
  f49 := ⟨Tryz.f211.name, by kernel_rfl, Tryz.func211.trans (congrArg some (by kernel_rfl))⟩
  f50 := ⟨Tryz.f212.name, by kernel_rfl, Tryz.func212.trans (congrArg some (by kernel_rfl))⟩
  f57 := ⟨Tryz.f225.name, by kernel_rfl, Tryz.func225.trans (congrArg some (by kernel_rfl))⟩
  t0 := Tryz.underlying0
  a0 := Tryz.isAgg0
  z0 := Tryz.sizeOf0
  v0 := Tryz.zeroValue0
  t3 := Tryz.underlying3
  a3 := Tryz.isAgg3
  z3 := Tryz.sizeOf3
  v3 := Tryz.zeroValue3
  t4 := Tryz.underlying4
  a4 := Tryz.isAgg4
  z4 := Tryz.sizeOf4
  v4 := Tryz.zeroValue4
  t5 := Tryz.underlying5
  a5 := Tryz.isAgg5
  z5 := Tryz.sizeOf5
  v5 := Tryz.zeroValue5
  t9 := Tryz.underlying9
  a9 := Tryz.isAgg9
  z9 := Tryz.sizeOf9
  v9 := Tryz.zeroValue9
  t22 := Tryz.underlying230
  a22 := Tryz.isAgg230
  z22 := Tryz.sizeOf230
  v22 := Tryz.zeroValue230
  t25 := Tryz.underlying238
  a25 := Tryz.isAgg238
  z25 := Tryz.sizeOf238
  v25 := Tryz.zeroValue238
  t39 := Tryz.underlying176
  a39 := Tryz.isAgg176
  z39 := Tryz.sizeOf176
  v39 := Tryz.zeroValue176
  t45 := Tryz.underlying288
  a45 := Tryz.isAgg288
  z45 := Tryz.sizeOf288
  v45 := Tryz.zeroValue288
  t46 := Tryz.underlying289
  a46 := Tryz.isAgg289
  z46 := Tryz.sizeOf289
  v46 := Tryz.zeroValue289
  t50 := Tryz.underlying158
  a50 := Tryz.isAgg158
  z50 := Tryz.sizeOf158
  v50 := Tryz.zeroValue158
  t53 := Tryz.underlying255
  a53 := Tryz.isAgg255
  z53 := Tryz.sizeOf255
  v53 := Tryz.zeroValue255
  t55 := Tryz.underlying263
  a55 := Tryz.isAgg263
  z55 := Tryz.sizeOf263
  v55 := Tryz.zeroValue263
  t66 := Tryz.underlying312
  a66 := Tryz.isAgg312
  z66 := Tryz.sizeOf312
  v66 := Tryz.zeroValue312
  t70 := Tryz.underlying316
  a70 := Tryz.isAgg316
  z70 := Tryz.sizeOf316
  v70 := Tryz.zeroValue316
  t76 := Tryz.underlying331
  a76 := Tryz.isAgg331
  z76 := Tryz.sizeOf331
  v76 := Tryz.zeroValue331
  t77 := Tryz.underlying332
  a77 := Tryz.isAgg332
  z77 := Tryz.sizeOf332
  v77 := Tryz.zeroValue332
def sort128S : RowsValue → Bool := fun x => decide (-4611686018427387904 ≤ x.n ∧ x.n ≤ 4611686018427387903)
instance : Inhabited (SubT sort128S) := ⟨⟨RowsValue.z, rfl⟩⟩
abbrev sort128C : RowsValue → RowsValue → Int := fun a b => a.n - b.n
theorem sort128_swo : Go.Sort.SWO (ltOf fun a b : SubT sort128S => sort128C a.1 b.1) := by
  refine ⟨fun x => ?_, fun x y z h1 h2 => ?_, fun x y z h1 h2 => ?_⟩
  · exact decide_eq_false (by show ¬ x.1.n - x.1.n < 0; omega)
  · have h1 : x.1.n - y.1.n < 0 := of_decide_eq_true h1
    have h2 : y.1.n - z.1.n < 0 := of_decide_eq_true h2
    exact decide_eq_true (by show x.1.n - z.1.n < 0; omega)
  · have h1 : ¬ x.1.n - y.1.n < 0 := of_decide_eq_false h1
    have h2 : ¬ y.1.n - z.1.n < 0 := of_decide_eq_false h2
    exact decide_eq_false (by show ¬ x.1.n - z.1.n < 0; omega)
theorem sort128_cmp (x y : RowsValue) (hx : sort128S x = true) (hy : sort128S y = true) (W : World) : Calls Tryz.prog 129 #[.agg (encRowsValue x).toArray, .agg (encRowsValue y).toArray] W fun e w' => e = .returned (.int .i64 (sort128C x y)) ∧ ∃ q os', w' = Go.Sort.grow (W.drewN q) os' := by
  have hx := of_decide_eq_true hx
  have hy := of_decide_eq_true hy
  have hwr : IntKind.i64.wrap (x.n - y.n) = x.n - y.n := by simp [IntKind.wrap, IntKind.bits, IntKind.signed]; omega
  obtain ⟨a, b, c⟩ := x
  obtain ⟨a2, b2, c2⟩ := y
  show Calls Tryz.prog 129 #[.agg #[.int .i64 a, .int .i64 b, .int .i64 c], .agg #[.int .i64 a2, .int .i64 b2, .int .i64 c2]] W _
  go_enter Tryz.func129, Tryz.ntmps129
  go_wp2
  go_ret
  exact ⟨rfl, 0, _, by rw [Go.Sort.alloc_eq_grow, Go.Sort.alloc_eq_grow, Go.Sort.grow_grow]; rfl⟩
def sort128 (N : Nat) (xs : List RowsValue) : Option (List RowsValue) := sortO sort128S sort128C xs
theorem sort128_ok {N : Nat} {sI1 : (List RowsValue)} {AI4 : Option Addr} {cI5 : Nat} {res : (List RowsValue)} (hF : sort128 N sI1 = some res) {w0 w : World} {T : List Chunk} (hw : St w0.heap.size w0 (cR encRowsValue 3 AI4 cI5 236 sI1 :: T) w) :
    Calls Tryz.prog 128 (List.toArray [.slice AI4 (sI1).length cI5, .func (.func 129) #[] #[]]) w (fun e w' => ∃ g : Unit, ((res).length = (sI1).length) ∧ e = .returned (.tuple #[]) ∧ St w0.heap.size w0 (cR encRowsValue 3 AI4 cI5 236 res :: T) w') :=
  sort_calls lays128 Tryz.isAgg236 Tryz.sizeOf236 lenRowsValue oneRowsValue sort128_swo (enters_of Tryz.func129 (by kernel_rfl) rfl) sort128_cmp (fun cap A _ _ _ hw => ((slices_SortFunc_rows_value_rows_value_ok (N := 100) (x3 := []) (by kernel_rfl) hw).mono fun _ _ ⟨_, _, h1, h2⟩ => ⟨h1, h2⟩)) hF hw

def rows_read_2_L5 (N:Nat) (r7:((List Call) × Int × Int)):((List RowsValue) × Int)→Option (((List RowsValue) × Int) ⊕ ((List RowsValue) ⊕ (Bool × (List Call) × (List RowsValue) × Int))) | (values16,v17)=>cond (decide (v17 < ((r7.1).length:Int))) (bd (ix r7.1 v17) fun x18=>cond ((decide (x18.kind = 4))&&(decide (x18.to_ = (-1)))) (some (.inr (.inr (false,[],[],6)))) (bd (α:=Bool) (cond ((decide (x18.kind = 3)) == true) (bd (rows_log_find N r7.1 values16 x18.arg) fun r21=>some ((decide (x18.kind = 3))&&(!(decide (r21 < 0))))) (some ((decide (x18.kind = 3))&&false))) <| fun v20=>cond v20 (some (.inr (.inr (false,[],[],6)))) (cond (decide (x18.kind = 3)) (ck (limB 24 ((values16).length + (([(RowsValue.mk x18.arg v17 (-1))]:List RowsValue)).length)) <| ck (ok64 (v17 + 1)) <| some (.inl ((values16++([(RowsValue.mk x18.arg v17 (-1))]:List RowsValue)),(v17 + 1)))) (ck (ok64 (v17 + 1)) <| some (.inl (values16,(v17 + 1))))))) (some (.inr (.inl values16)))
def rows_read_2_L7 (N:Nat) (r7:((List Call) × Int × Int)):((List RowsValue) × Int)→Option (((List RowsValue) × Int) ⊕ (List RowsValue)) | (values31,v32)=>cond (decide (v32 < ((r7.1).length:Int))) (bd (ix r7.1 v32) fun x33=>bd (rows_log_find N r7.1 values31 x33.res) fun r35=>bd ((cond (((decide (x33.kind = 4))&&(!(decide (r35 < 0)))) == true) (ix values31 r35) (some RowsValue.z))) fun x36=>cond (((decide (x33.kind = 4))&&(!(decide (r35 < 0))))&&(decide (x36.deq < 0))) (bd (ix values31 r35) fun x37=>ck (ok64 (v32 + 1)) <| some (.inl ((values31.set r35.toNat (RowsValue.mk x37.n x37.enq v32)),(v32 + 1)))) (ck (ok64 (v32 + 1)) <| some (.inl (values31,(v32 + 1))))) (some (.inr values31))
def rows_read_2 (N:Nat) (l1:(List Event)):Option (Bool × (List Call) × (List RowsValue) × Int):=bd (history_Calls N ([2]:List Int) l1) fun r7=>cond (!(decide (r7.2.2 = 0))) (some (false,[],[],r7.2.2)) (bd (α:=((List RowsValue) ⊕ (Bool × (List Call) × (List RowsValue) × Int))) (iter (rows_read_2_L5 N r7) N ([],0)) <| Sum.elim (fun values13=>bd (sort128 N values13) fun r28=>bd (α:=(List RowsValue)) (iter (rows_read_2_L7 N r7) N (r28,0)) <| fun values30=>some (true,r7.1,values30,0)) (fun p=>some p))
theorem rows_read_2_ok {N l1 res} (hF:rows_read_2 N l1 = some res) (w:World) {v5} (hs4:SlIn encEvent 4 w v5 l1):Made Tryz.prog 91 [v5] w (fun g:(Option Nat × Option Addr × Nat × Option Addr × Nat)=>.tuple #[.pointer (ptO g.1),.int .i64 res.2.2.2]) (fun g=>[cBo g.1 232 (Value.slice g.2.1 (res.2.1).length g.2.2.1::(Value.slice g.2.2.2.1 (res.2.2.1).length g.2.2.2.2::[])),cR encCall 7 g.2.1 g.2.2.1 162 res.2.1,cR encRowsValue 3 g.2.2.2.1 g.2.2.2.2 236 res.2.2.1]) (fun g=>res.1 = (g.1).isSome):=by
  obtain ⟨A2,c3,rfl,hcc3,hs4⟩:=hs4.form;refine We 107 Tryz.func91 (St.start w) fun R hR=>?_;refine a_ ?_;refine WL.step (WO.bsliceC (enc:=(eI .i64)) (ys:=([2]:List Int)) Tryz.underlying29 bz3 (.cons (.pl rfl) (.nil)) rfl (fun _=>rfl) rfl rfl (by decide) (by decide) rfl fun b6=>?_);obtain ⟨r7,hr7,hF⟩:=bnd hF;refine a_ ?_;refine kM isGo24 (v2 rfl rfl) (fun wz hw=>history_Calls_ok hr7 wz (so hw) (hs4.mono hw)) ?_;rintro ⟨A8,c9⟩ -;refine a_ ?_;refine Wc hF (fun hC5 hF=>?_) (fun hC5 hF=>?_)
  · obtain rfl:=oi hF;refine a_ ?_;refine W.retV (fn:=Tryz.f91) (vs:=[.pointer none,.int .i64 r7.2.2]) Tryz.results91 ⟨.tmp rfl,⟨.tmp rfl,trivial⟩⟩ (fun _ _ h=>h) (fun wz hw=>?_);exact hR _ _ ⟨(none,none,0,none,0),rfl,rfl,((St.nilR (St.nilR (St.nilO (hw.pick [] rfl) 232 (Value.slice none 0 0::(Value.slice none 0 0::[]))) encCall 7 162) encRowsValue 3 236).pick [2,1,0] rfl)⟩
  · refine a_ ?_;refine WL.q (Y.build (cs:=(Value.slice A8 (r7.1).length c9::(Value.slice none 0 0::[])).toArray) shape232 (.cons (.pl rfl) (.nil)) (one_parts ⟨rfl,trivial⟩) rfl) rfl ?_;refine WL.step (WO.boxA (.pl rfl) rfl fun b10=>?_);obtain ⟨o8,hF8,hF⟩:=bnd hF;refine b_ ?_;refine W.join3 (fun a b c=>[]) (fun a b c=>[cR encCall 7 A8 c9 162 r7.1,cBx b10 232 (Value.slice A8 (r7.1).length c9::(Value.slice b (a).length c::[])),cR encRowsValue 3 b c 236 a]) (fun a b c=>(.inl a) = o8) (ks2 4 7) (fun K9 hK9=>?_) ?_
    · refine a_ ?_;refine l2_2 hF8 (fun a b c d=>[(28,.int .i64 b)]) (fun a b c d=>[cR encCall 7 A8 c9 162 r7.1,cBx b10 232 (Value.slice A8 (r7.1).length c9::(Value.slice c (a).length d::[])),cR encRowsValue 3 c d 236 a]) (ks4 4 7 26 27) fun values16 v17 A14 c15 k11 t11 hF11 hN11 K12 hK12=>?_;refine a_ ?_;refine Wc hF11 (fun hC15 hF11=>?_) (fun hC15 hF11=>?_)
      · obtain ⟨x18,hx18,hF11⟩:=bnd hF11;refine a_ ?_;refine mA fun b19=>?_;refine a_ ?_;refine Wc hF11 (fun hC19 hF11=>?_) (fun hC19 hF11=>?_)
        · obtain rfl:=oi hF11;obtain rfl:=einr hN11;obtain rfl:=oi hF;refine a_ ?_;refine W.retV (fn:=Tryz.f91) (vs:=[.pointer none,.int .i64 6]) Tryz.results91 ⟨.tmp rfl,⟨.tmp rfl,trivial⟩⟩ (fun _ _ h=>h) (fun wz hw=>?_);exact hR _ _ ⟨(none,none,0,none,0),rfl,rfl,((St.nilR (St.nilR (St.nilO (hw.pick [] rfl) 232 (Value.slice none 0 0::(Value.slice none 0 0::[]))) encCall 7 162) encRowsValue 3 236).pick [2,1,0] rfl)⟩
        · obtain ⟨o21,hF21,hF11⟩:=bnd hF11;refine W.join1 (fun a=>[(42,.bool a)]) (fun a=>[cR encCall 7 A8 c9 162 r7.1,cBx b10 232 (Value.slice A8 (r7.1).length c9::(Value.slice A14 (values16).length c15::[])),cR encRowsValue 3 A14 c15 236 values16,cBx b19 162 (encCall x18)]) (fun a=>a = o21) (ks7 4 7 8 9 26 27 28) (fun K22 hK22=>?_) ?_
          · refine a_ ?_;refine bsplit ((decide (x18.kind = 3)) == true) (fun hg23=>?_) (fun hg23=>?_)
            · replace hF21:=cpos hg23 hF21;refine WL.gd (.pl rfl rfl rfl) (hg23) ?_;obtain ⟨r21,hr21,hF21⟩:=bnd hF21;refine WL.step (WO.call (γ:=Unit) (fun g=>.pointer (oel A14 r21 3)) (fun g=>[cBx b10 232 (Value.slice A8 (r7.1).length c9::(Value.slice A14 (values16).length c15::[])),cR encCall 7 A8 c9 162 r7.1,cR encRowsValue 3 A14 c15 236 values16,cBx b19 162 (encCall x18)]) (fun g=>True) isGo127 (.cons (.gd (hg23) rfl) (.cons (.gd (hg23) rfl) (.nil))) rfl (fun wz hw=>rows_log_find_ok (T:=[cBx b19 162 (encCall x18)]) (hr21) (hw.pick [2,1,3,0] rfl) ) ?_);rintro _ -;refine WL.gd (.pl rfl rfl rfl) (hg23) ?_;refine WL.q (Y.neqO Tryz.underlying233 (.pl rfl)) rfl ?_;refine a_ ?_;exact h1 hK22 (oi hF21)
            · replace hF21:=cneg hg23 hF21;refine WL.gn (.pl rfl rfl rfl) hg23 rfl ?_;refine WL.gn (.pl rfl rfl rfl) hg23 rfl ?_;refine WL.q (Y.and (b:=false) (.pl rfl) (fun h2=>(gabsA hg23 h2).elim)) rfl ?_;refine a_ ?_;exact h1 hK22 (oi hF21)
          · rintro v20 rfl;refine Wc hF11 (fun hC24 hF11=>?_) (fun hC24 hF11=>?_)
            · obtain rfl:=oi hF11;obtain rfl:=einr hN11;obtain rfl:=oi hF;refine a_ ?_;refine W.retV (fn:=Tryz.f91) (vs:=[.pointer none,.int .i64 6]) Tryz.results91 ⟨.tmp rfl,⟨.tmp rfl,trivial⟩⟩ (fun _ _ h=>h) (fun wz hw=>?_);exact hR _ _ ⟨(none,none,0,none,0),rfl,rfl,((St.nilR (St.nilR (St.nilO (hw.pick [] rfl) 232 (Value.slice none 0 0::(Value.slice none 0 0::[]))) encCall 7 162) encRowsValue 3 236).pick [2,1,0] rfl)⟩
            · refine a_ ?_;refine Wc hF11 (fun hC27 hF11=>?_) (fun hC27 hF11=>?_)
              · refine W.regX 10 (by kernel_rfl) ?_;refine Xp 0 rfl (fun _ _=>ym) ?_;refine Xp 1 rfl (fun _ _=>ym) ?_;refine Xp 2 rfl (fun _ _=>yc) ?_;refine Xp 3 rfl (fun _ _=>yf) ?_;refine Xt 4 rfl (yb1) ?_;refine Xp 5 rfl (fun _ _=>yf) ?_;refine Xt 6 rfl (yb3) ?_;refine Xp 7 rfl (fun _ _=>ym) ?_;refine Xp 8 rfl (fun _ _=>Y.build (cs:=(encRowsValue (RowsValue.mk x18.arg v17 (-1))).toArray) shape236 (.cons (.pl rfl) (.cons (.pl rfl) (.cons (.pl rfl) (.nil)))) (one_parts ⟨rfl,⟨rfl,⟨rfl,trivial⟩⟩⟩) rfl) ?_;refine Xo 9 rfl (WO.bsliceC (enc:=encRowsValue) (ys:=([(RowsValue.mk x18.arg v17 (-1))]:List RowsValue)) Tryz.underlying230 bz236 (.cons (.pl rfl) (.nil)) rfl lenRowsValue rfl rfl (by decide) (by decide) rfl fun b22=>?_);obtain ⟨hk25,hF11⟩:=ckh hF11;refine Xs rfl (WO.appendC (enc:=encRowsValue) Tryz.underlying230 ap236 lenRowsValue oneRowsValue (.pl rfl) rfl (.pl rfl) (i:=3) rfl (m2:=0) rfl (hk25) rfl fun A23 c24=>?_) (fun _ hw=>St.tail [_] hw);refine WA.take 11 #[true,true,true,true,true,true,true,true,true,true,true,true,false,false] rfl (by kernel_rfl) (fun _ _=>Y.nilCheck (.pl rfl)) rfl ?_;refine WA.take 12 #[true,true,true,true,true,true,true,true,true,true,true,true,true,false] rfl (by kernel_rfl) (fun _ _=>Y.fieldAddr0 (off:=1) (ft:=230) Tryz.underlying232 rfl cells230 (.pl rfl)) rfl ?_;refine WA.branch [13] (by kernel_rfl) ⟨?_,trivial⟩;refine WI.step #[true,true,true,true,true,true,true,true,true,true,true,true,true,true] rfl rfl (WO.storeB (cs':=(Value.slice A8 (r7.1).length c9::(Value.slice A23 ((values16++([(RowsValue.mk x18.arg v17 (-1))]:List RowsValue))).length c24::[]))) cells230 (.pl rfl) (.pl rfl) rfl (i:=2) rfl (ltl (m:=2) (by decide) rfl) (rfl) ?_);refine WA.done (by kernel_rfl) ?_;obtain ⟨hk26,hF11⟩:=ckh hF11;refine a_ ?_;exact g4 hK12 (oj hF11 hN11)
              · obtain ⟨hk27,hF11⟩:=ckh hF11;refine a_ ?_;exact g4 hK12 (oj hF11 hN11)
      · refine a_ ?_;exact h3 hK9 (oj hF11 hN11)
    · rintro values13 A11 c12 rfl;obtain ⟨r28,hr28,hF⟩:=bnd hF;refine a_ ?_;refine kC isGo128 (v2 rfl rfl) (fun _ hw=>sort128_ok hr28 (sw hw)) ?_;rintro _ hl29;obtain ⟨o32,hF32,hF⟩:=bnd hF;refine b_ ?_;refine W.join1 (fun a=>[]) (fun a=>[cBx b10 232 (Value.slice A8 (r7.1).length c9::(Value.slice A11 (a).length c12::[])),cR encCall 7 A8 c9 162 r7.1,cR encRowsValue 3 A11 c12 236 a]) (fun a=>a = o32) (ks1 7) (fun K33 hK33=>?_) ?_
      · refine a_ ?_;refine W.loop2 (Em:=fun (values31:(List RowsValue)) (v32:Int)=>[(78,.int .i64 v32)]) (M:=fun values31 v32=>[cBx b10 232 (Value.slice A8 (r7.1).length c9::(Value.slice A11 (values31).length c12::[])),cR encCall 7 A8 c9 162 r7.1,cR encRowsValue 3 A11 c12 236 values31]) (I:=fun values31 v32 k35=>iter (rows_read_2_L7 N r7) k35 (values31,v32) = some o32) r28 0 N (hF32) (.cons rfl (.nil)) (ks3 7 76 77) (fun wz hw=>St.cong (L:=[cBx b10 232 (Value.slice A8 (r7.1).length c9::(Value.slice A11 (values13).length c12::[])),cR encCall 7 A8 c9 162 r7.1,cR encRowsValue 3 A11 c12 236 r28]) (hw.pick [2,1,0] rfl) (by simp only [List.length_set,List.nil_append,List.cons_append,hl29])) (fun values31 v32 k35 hI K36 hK36=>?_);obtain ⟨k35,t35,rfl,hF35,hN35⟩:=iter_step hI;refine a_ ?_;refine Wc hF35 (fun hC39 hF35=>?_) (fun hC39 hF35=>?_)
        · obtain ⟨x33,hx33,hF35⟩:=bnd hF35;refine a_ ?_;refine mA fun b34=>?_;obtain ⟨r35,hr35,hF35⟩:=bnd hF35;refine a_ ?_;refine kC isGo127 (v2 rfl rfl) (fun _ hw=>rows_log_find_ok hr35 (sw hw)) ?_;rintro _ -;refine a_ ?_;refine WL.g (.pl rfl rfl rfl) (fun hg=>Y.neqO Tryz.underlying233 (.gd (hg) rfl)) rfl ?_;obtain ⟨x36,hx36,hF35⟩:=bnd hF35;refine a_ ?_;refine WL.g (.pl rfl rfl rfl) (fun hg=>Y.nilCheckO (ix_lt (gpos hg hx36)).1 (.gd (hg) rfl)) rfl ?_;refine a_ ?_;refine Wc hF35 (fun hC44 hF35=>?_) (fun hC44 hF35=>?_)
          · obtain ⟨x37,hx37,hF35⟩:=bnd hF35;refine a_ ?_;refine WL.q (Y.nilCheckO (ix_lt (hx37)).1 (.pl rfl)) rfl ?_;refine a_ ?_;refine WL.step (WO.storeS (enc:=encRowsValue) (a:=x37) (a':=(RowsValue.mk x37.n x37.enq v32)) (idx:=r35) (j:=2) cells3 (.pl rfl) (.pl rfl) rfl lenRowsValue (i:=2) rfl (ix_get (hx37)) rfl (by decide) rfl ?_);obtain ⟨hk38,hF35⟩:=ckh hF35;obtain rfl:=oi hF35;refine a_ ?_;exact ⟨W.again2 hK36 (values31.set r35.toNat (RowsValue.mk x37.n x37.enq v32)) (v32 + 1) k35 hN35 nl kr kr (fun wz hw=>St.cong (L:=[cBx b10 232 (Value.slice A8 (r7.1).length c9::(Value.slice A11 (values31).length c12::[])),cR encCall 7 A8 c9 162 r7.1,cR encRowsValue 3 A11 c12 236 (values31.set r35.toNat (RowsValue.mk x37.n x37.enq v32))]) (hw.pick [0,1,2] rfl) (by simp only [List.length_set,List.nil_append,List.cons_append,hl29]))⟩
          · obtain ⟨hk39,hF35⟩:=ckh hF35;refine a_ ?_;exact g2 hK36 (oj hF35 hN35)
        · refine a_ ?_;exact h1 hK33 (oj hF35 hN35)
      · rintro values30 rfl;obtain rfl:=oi hF;refine a_ ?_;refine W.retV (fn:=Tryz.f91) (vs:=[.pointer (some ⟨b10,0,none⟩),.int .i64 0]) Tryz.results91 ⟨.tmp rfl,⟨.tmp rfl,trivial⟩⟩ (fun _ _ h=>h) (fun wz hw=>?_);exact hR _ _ ⟨((some b10),A8,c9,A11,c12),rfl,rfl,(hw.pick [0,1,2] rfl)⟩
end Go.Proofs.YtjdkkabcenohcaaGreatDoor
