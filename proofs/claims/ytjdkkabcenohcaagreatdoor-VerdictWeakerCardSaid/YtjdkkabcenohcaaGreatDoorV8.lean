/- Tickets, bags: what Check computes, and the walks. -/
import Derived.Test.YtjdkkabcenohcaaGreatDoorAuto
import Derived.Test.YtjdkkabcenohcaaGreatDoorV7
import Derived.Test.YtjdkkabcenohcaaGreatDoorKeys
import Derived.Test.YtjdkkabcenohcaaGreatDoorMapR
set_option linter.unusedVariables false
set_option linter.defProp false
set_option linter.unusedSimpArgs false
set_option linter.unusedSectionVars false
set_option maxRecDepth 100000
namespace Go.Proofs.YtjdkkabcenohcaaGreatDoor
open Go.RowKit
attribute [local irreducible] Yd Evs Evl
theorem cells277 : Tryz.prog.cellsOf 277 = 7 + 1 := by kernel_rfl
def isGo51:=gg Tryz.func51
def isGo97:=gg Tryz.func97
def isGo98:=gg Tryz.func98
def isGo138:=gg Tryz.func138
def isGo139:=gg Tryz.func139
def isGo140:=gg Tryz.func140
def isGo141:=gg Tryz.func141
def isGo142:=gg Tryz.func142
def isGo164:=gg Tryz.func164
def isGo165:=gg Tryz.func165
def isGo197:=gg Tryz.func197
theorem zero277 : ∃ i, Tryz.prog.info? 277 = some i ∧ i.zero = some (Value.agg #[(Value.bool false), (Value.bool false), (Value.bool false), (Value.bool false), (Value.bool false), (Value.bool false), (Value.bool false), (Value.bool false)]) := ⟨_, rfl, by kernel_rfl⟩
instance : FT Tryz.prog 248 1 1 29 := ⟨_, Tryz.underlying248, rfl⟩
instance : FT Tryz.prog 248 2 2 29 := ⟨_, Tryz.underlying248, rfl⟩
@[reducible,instance] def u189 := UT.mk Tryz.underlying189
instance : FT Tryz.prog 248 0 0 58 := ⟨_, Tryz.underlying248, rfl⟩
@[reducible,instance] def z277 := ZI.mk zero277
@[reducible,instance] def u277 := UT.mk Tryz.underlying277
theorem shape248 : Shape Tryz.prog 248 [(0, 1), (1, 1), (2, 1)] #[(Value.slice none 0 0), (Value.slice none 0 0), (Value.slice none 0 0)] := ⟨_, _, Value.agg #[(Value.slice none 0 0), (Value.slice none 0 0), (Value.slice none 0 0)], Tryz.underlying248, rfl, by kernel_rfl, rfl, by kernel_rfl, by decide⟩
theorem azero277 : ∃ i zv, Tryz.prog.info? 277 = some i ∧ i.zero = some zv ∧ zv.cells = #[(Value.bool false), (Value.bool false), (Value.bool false), (Value.bool false), (Value.bool false), (Value.bool false), (Value.bool false), (Value.bool false)] := ⟨_, (Value.agg #[(Value.bool false), (Value.bool false), (Value.bool false), (Value.bool false), (Value.bool false), (Value.bool false), (Value.bool false), (Value.bool false)]), rfl, by kernel_rfl, rfl⟩
def tickets_read_L5 (N:Nat) (r7:((List Call) × Int × Int)):((List Int) × Int × (List (Int × Bool)) × Int)→Option (((List Int) × Int × (List (Int × Bool)) × Int) ⊕ ((List Int) × Int × (List (Int × Bool)))) | (pending19,most20,has21,v22)=>cond (decide (v22 < ((r7.1).length:Int))) (bd (ix r7.1 v22) fun x23=>cond (decide (x23.to_ = (-1))) (ck (limB 8 ((pending19).length + (([v22]:List Int)).length)) <| ck (ok64 (v22 + 1)) <| some (.inl ((pending19++([v22]:List Int)),most20,has21,(v22 + 1)))) (ck (ok64 (v22 + 1)) <| some (.inl (pending19,(max most20 x23.res),(mput has21 x23.res true),(v22 + 1))))) (some (.inr (pending19,most20,has21)))
def tickets_read_L7 (N:Nat) (most15:Int) (has16:(List (Int × Bool))):((List Int) × Int)→Option (((List Int) × Int) ⊕ (List Int)) | (missing37,v38)=>cond (decide (v38 < (most15 + 1))) (cond (!((mget has16 v38).getD false)) (ck (limB 8 ((missing37).length + (([v38]:List Int)).length)) <| ck (ok64 (v38 + 1)) <| some (.inl ((missing37++([v38]:List Int)),(v38 + 1)))) (ck (ok64 (v38 + 1)) <| some (.inl (missing37,(v38 + 1))))) (some (.inr missing37))
def tickets_read (N:Nat) (l1:(List Event)):Option (Bool × (List Call) × (List Int) × (List Int) × Int):=bd (history_Calls N ([5]:List Int) l1) fun r7=>cond (!(decide (r7.2.2 = 0))) (some (false,[],[],[],r7.2.2)) (bd (α:=((List Int) × Int × (List (Int × Bool)))) (iter (tickets_read_L5 N r7) N ([],(-1),([]:List (Int × Bool)),0)) <| fun (pending14,most15,has16)=>bd (α:=(List Int)) (ck (ok64 (most15 + 1)) <| iter (tickets_read_L7 N most15 has16) N ([],0)) <| fun missing33=>some (true,r7.1,pending14,missing33,0))
theorem tickets_read_ok {N l1 res} (hF:tickets_read N l1 = some res) (w:World) {v5} (hs4:SlIn encEvent 4 w v5 l1):Made Tryz.prog 97 [v5] w (fun g:(Option Nat × Option Addr × Nat × Option Addr × Nat × Option Addr × Nat)=>.tuple #[.pointer (ptO g.1),.int .i64 res.2.2.2.2]) (fun g=>[cBo g.1 248 (Value.slice g.2.1 (res.2.1).length g.2.2.1::(Value.slice g.2.2.2.1 (res.2.2.1).length g.2.2.2.2.1::(Value.slice g.2.2.2.2.2.1 (res.2.2.2.1).length g.2.2.2.2.2.2::[]))),cR encCall 7 g.2.1 g.2.2.1 162 res.2.1,cR (eI .i64) 1 g.2.2.2.1 g.2.2.2.2.1 3 res.2.2.1,cR (eI .i64) 1 g.2.2.2.2.2.1 g.2.2.2.2.2.2 3 res.2.2.2.1]) (fun g=>res.1 = (g.1).isSome):=by
  obtain ⟨A2,c3,rfl,hcc3,hs4⟩:=hs4.form;refine We 76 Tryz.func97 (St.start w) fun R hR=>?_;refine a_ ?_;refine WL.step (WO.bsliceC (enc:=(eI .i64)) (ys:=([5]:List Int)) Tryz.underlying29 bz3 (.cons (.pl rfl) (.nil)) rfl (fun _=>rfl) rfl rfl (by decide) (by decide) rfl fun b6=>?_);obtain ⟨r7,hr7,hF⟩:=bnd hF;refine a_ ?_;refine kM isGo24 (v2 rfl rfl) (fun wz hw=>history_Calls_ok hr7 wz (so hw) (hs4.mono hw)) ?_;rintro ⟨A8,c9⟩ -;refine a_ ?_;refine Wc hF (fun hC5 hF=>?_) (fun hC5 hF=>?_)
  · obtain rfl:=oi hF;refine a_ ?_;refine W.retV (fn:=Tryz.f97) (vs:=[.pointer none,.int .i64 r7.2.2]) Tryz.results97 ⟨.tmp rfl,⟨.tmp rfl,trivial⟩⟩ (fun _ _ h=>h) (fun wz hw=>?_);exact hR _ _ ⟨(none,none,0,none,0,none,0),rfl,rfl,((St.nilR (St.nilR (St.nilR (St.nilO (hw.pick [] rfl) 248 (Value.slice none 0 0::(Value.slice none 0 0::(Value.slice none 0 0::[])))) encCall 7 162) (eI .i64) 1 3) (eI .i64) 1 3).pick [3,2,1,0] rfl)⟩
  · refine a_ ?_;refine WL.q (Y.build (cs:=(Value.slice A8 (r7.1).length c9::(Value.slice none 0 0::(Value.slice none 0 0::[]))).toArray) shape248 (.cons (.pl rfl) (.nil)) (one_parts ⟨rfl,trivial⟩) rfl) rfl ?_;refine WL.step (WO.boxA (.pl rfl) rfl fun b10=>?_);refine a_ ?_;refine WL.step (WO.mmake Value.bool rfl fun b11=>?_);obtain ⟨o10,hF10,hF⟩:=bnd hF;refine b_ ?_;refine W.join5 (fun a b c d f=>[(8,.int .i64 b)]) (fun a b c d f=>[cBx b10 248 (Value.slice A8 (r7.1).length c9::(Value.slice d (a).length f::(Value.slice none 0 0::[]))),cR encCall 7 A8 c9 162 r7.1,cR (eI .i64) 1 d f 3 a,cM Value.bool (some b11) c]) (fun a b c d f=>(a,b,c) = o10) (ks2 7 9) (fun K11 hK11=>?_) ?_
    · refine a_ ?_;refine l4_2 hF10 (fun a b c d f g=>[(8,.int .i64 b),(29,.int .i64 d)]) (fun a b c d f g=>[cBx b10 248 (Value.slice A8 (r7.1).length c9::(Value.slice f (a).length g::(Value.slice none 0 0::[]))),cR encCall 7 A8 c9 162 r7.1,cR (eI .i64) 1 f g 3 a,cM Value.bool (some b11) c]) (ks4 7 9 27 28) fun pending19 most20 has21 v22 A17 c18 k13 t13 hF13 hN13 K14 hK14=>?_;refine a_ ?_;refine Wc hF13 (fun hC17 hF13=>?_) (fun hC17 hF13=>?_)
      · obtain ⟨x23,hx23,hF13⟩:=bnd hF13;refine a_ ?_;refine mA fun b24=>?_;refine a_ ?_;refine Wc hF13 (fun hC21 hF13=>?_) (fun hC21 hF13=>?_)
        · refine a_ ?_;refine WL.step (WO.bsliceC (enc:=(eI .i64)) (ys:=([v22]:List Int)) Tryz.underlying29 bz3 (.cons (.pl rfl) (.nil)) rfl (fun _=>rfl) rfl rfl (by decide) (by decide) rfl fun b25=>?_);obtain ⟨hk28,hF13⟩:=ckh hF13;refine WL.step (WO.appendC (enc:=(eI .i64)) Tryz.underlying29 ap3 (fun _=>rfl) oneI (.pl rfl) rfl (.pl rfl) (i:=4) rfl (m2:=0) rfl (hk28) rfl fun A26 c27=>?_);refine a_ ?_;refine WL.step (WO.storeB (cs':=(Value.slice A8 (r7.1).length c9::(Value.slice A26 ((pending19++([v22]:List Int))).length c27::(Value.slice none 0 0::[])))) cells29 (.pl rfl) (.pl rfl) rfl (i:=2) rfl (ltl (m:=3) (by decide) rfl) (rfl) ?_);obtain ⟨hk29,hF13⟩:=ckh hF13;refine a_ ?_;exact g6 hK14 (oj hF13 hN13)
        · refine a_ ?_;refine WL.step (WO.mset (f:=Value.bool) (a:=true) Tryz.underlying219 Tryz.underlying3 (.pl rfl) (.pl rfl) (.pl rfl) (i:=4) rfl ?_);obtain ⟨hk30,hF13⟩:=ckh hF13;refine a_ ?_;exact g6 hK14 (oj hF13 hN13)
      · refine a_ ?_;exact h5 hK11 (oj hF13 hN13)
    · rintro pending14 most15 has16 A12 c13 rfl;obtain ⟨o27,hF27,hF⟩:=bnd hF;refine W.join3 (fun a b c=>[]) (fun a b c=>[cBx b10 248 (Value.slice A8 (r7.1).length c9::(Value.slice A12 (pending14).length c13::(Value.slice b (a).length c::[]))),cR encCall 7 A8 c9 162 r7.1,cR (eI .i64) 1 A12 c13 3 pending14,cR (eI .i64) 1 b c 3 a]) (fun a b c=>a = o27) (ks1 7) (fun K28 hK28=>?_) ?_
      · obtain ⟨hk34,hF27⟩:=ckh hF27;refine a_ ?_;refine l2_2 hF27 (fun a b c d=>[(57,.int .i64 b)]) (fun a b c d=>[cBx b10 248 (Value.slice A8 (r7.1).length c9::(Value.slice A12 (pending14).length c13::(Value.slice c (a).length d::[]))),cR encCall 7 A8 c9 162 r7.1,cR (eI .i64) 1 A12 c13 3 pending14,cR (eI .i64) 1 c d 3 a,cM Value.bool (some b11) has16]) (ks3 7 9 56) fun missing37 v38 A35 c36 k30 t30 hF30 hN30 K31 hK31=>?_;refine a_ ?_;refine Wc hF30 (fun hC34 hF30=>?_) (fun hC34 hF30=>?_)
        · refine a_ ?_;refine WL.q (Y.mget (f:=Value.bool) (dv:=false) Tryz.underlying219 Tryz.underlying3 zero4 (.pl rfl) (.pl rfl) (i:=4) rfl) rfl ?_;refine a_ ?_;refine Wc hF30 (fun hC38 hF30=>?_) (fun hC38 hF30=>?_)
          · refine a_ ?_;refine WL.step (WO.bsliceC (enc:=(eI .i64)) (ys:=([v38]:List Int)) Tryz.underlying29 bz3 (.cons (.pl rfl) (.nil)) rfl (fun _=>rfl) rfl rfl (by decide) (by decide) rfl fun b39=>?_);obtain ⟨hk42,hF30⟩:=ckh hF30;refine WL.step (WO.appendC (enc:=(eI .i64)) Tryz.underlying29 ap3 (fun _=>rfl) oneI (.pl rfl) rfl (.pl rfl) (i:=4) rfl (m2:=0) rfl (hk42) rfl fun A40 c41=>?_);refine a_ ?_;refine WL.step (WO.storeB (cs':=(Value.slice A8 (r7.1).length c9::(Value.slice A12 (pending14).length c13::(Value.slice A40 ((missing37++([v38]:List Int))).length c41::[])))) cells29 (.pl rfl) (.pl rfl) rfl (i:=1) rfl (ltl (m:=3) (by decide) rfl) (rfl) ?_);obtain ⟨hk43,hF30⟩:=ckh hF30;refine a_ ?_;exact g4 hK31 (oj hF30 hN30)
          · obtain ⟨hk44,hF30⟩:=ckh hF30;refine a_ ?_;exact g4 hK31 (oj hF30 hN30)
        · refine a_ ?_;exact h3 hK28 (oj hF30 hN30)
      · rintro missing33 A31 c32 rfl;obtain rfl:=oi hF;refine a_ ?_;refine W.retV (fn:=Tryz.f97) (vs:=[.pointer (some ⟨b10,0,none⟩),.int .i64 0]) Tryz.results97 ⟨.tmp rfl,⟨.tmp rfl,trivial⟩⟩ (fun _ _ h=>h) (fun wz hw=>?_);exact hR _ _ ⟨((some b10),A8,c9,A12,c13,A31,c32),rfl,rfl,(hw.pick [0,1,2,3] rfl)⟩
def tickets_log_can_1 (N:Nat) (x1:Call) (calls6:(List Call)) (pending9:(List Int)) (missing12:(List Int)) (a14:Int) (a16:Int):Option Bool:=bd ((cond ((!(decide (x1.to_ = (-1)))) == true) (ix calls6 a14) (some Call.z))) fun x18=>some (((!(decide (x1.to_ = (-1))))&&(decide (x1.to_ < x18.from_)))&&(decide (a16 ≤ x1.res)))
theorem tickets_log_can_1_ok {N x1 calls6 pending9 missing12 a14 a16 b2 b3 A4 c5 A7 c8 A10 c11 b13 b15 res} (hF:tickets_log_can_1 N x1 calls6 pending9 missing12 a14 a16 = some res) {w0 w T} (hw:St w0.heap.size w0 (cBx b2 189 [.pointer (some ⟨b3,0,none⟩)]::cBx b3 248 (Value.slice A4 (calls6).length c5::(Value.slice A7 (pending9).length c8::(Value.slice A10 (missing12).length c11::[])))::cR encCall 7 A4 c5 162 calls6::cR (eI .i64) 1 A7 c8 3 pending9::cR (eI .i64) 1 A10 c11 3 missing12::cBx b13 3 [.int .i64 a14]::cBx b15 3 [.int .i64 a16]::T) w):Calls Tryz.prog 165 (List.toArray [.agg (encCall x1).toArray,.pointer (some ⟨b2,0,none⟩),.pointer (some ⟨b13,0,none⟩),.pointer (some ⟨b15,0,none⟩)]) w (fun e w'=>∃ g:Unit,(True)∧e = .returned (.bool res)∧St w0.heap.size w0 (cBx b2 189 [.pointer (some ⟨b3,0,none⟩)]::cBx b3 248 (Value.slice A4 (calls6).length c5::(Value.slice A7 (pending9).length c8::(Value.slice A10 (missing12).length c11::[])))::cR encCall 7 A4 c5 162 calls6::cR (eI .i64) 1 A7 c8 3 pending9::cR (eI .i64) 1 A10 c11 3 missing12::cBx b13 3 [.int .i64 a14]::cBx b15 3 [.int .i64 a16]::T) w'):=by
  refine We 28 Tryz.func165 hw fun R hR=>?_;refine a_ ?_;refine WL.step (WO.boxA (.pl rfl) rfl fun b17=>?_);refine b_ ?_;refine W.seqD (by kernel_rfl) (by kernel_rfl) fun R2 hR2=>?_;refine Dq yf ?_;refine Dq yb0 ?_;refine Dq yn ?_;refine Dq ym ?_;refine Dg gfp ?_;refine Dg gb0g ?_;refine Dg gb1p ?_;refine Dg gcg ?_;refine Dg gfg ?_;refine Dg gb2g ?_;refine Dg gb6p ?_;obtain ⟨x18,hx18,hF⟩:=bnd hF;refine WD.g (.pl rfl rfl rfl) (fun hg=>Y.rowEl Tryz.underlying58 cells162 (i:=3) rfl (.gd (hg) rfl) rfl (.gd (hg) rfl) (ix_lt (gpos hg hx18))) rfl ?_;refine WD.g (.pl rfl rfl rfl) (fun hg=>Y.rowField (off:=5) (ft:=3) Tryz.underlying162 rfl cells3 (i':=3) rfl (ix_lt (gpos hg hx18)) (.gd (hg) rfl)) rfl ?_;refine WD.g (.pl rfl rfl rfl) (fun hg=>Y.loadR (enc:=encCall) (v:=.int .i64 x18.from_) (a:=x18) (idx:=a14) (j:=5) Tryz.underlying3 rfl lenCall (i:=3) rfl (.gd (hg) rfl) (ix_get (gpos hg hx18)) rfl rfl) rfl ?_;refine Dg glgg ?_;refine Dq yd ?_;refine Dq ym ?_;refine Dg gfp ?_;refine Dg gb0g ?_;refine Dg gb7p ?_;refine Dg gjgg ?_;refine Dq yd ?_;refine Dq ya ?_;refine WD.next hR2 (ks1 5) ?_;obtain rfl:=oi hF;exact rG ()
def slices_IndexFunc_api_Call_api_Call_L3 (N:Nat) (s3:(List Call)) (pending8:(List Int)) (missing11:(List Int)) (c13:Int) (c15:Int):Int→Option (Int ⊕ (Unit ⊕ Int)) | v16=>cond (decide (v16 < ((s3).length:Int))) (bd (ix s3 v16) fun x17=>bd (tickets_log_can_1 N x17 s3 pending8 missing11 c13 c15) fun r18=>cond r18 (some (.inr (.inr v16))) (ck (ok64 (v16 + 1)) <| some (.inl (v16 + 1)))) (some (.inr (.inl ())))
def slices_IndexFunc_api_Call_api_Call (N:Nat) (s3:(List Call)) (pending8:(List Int)) (missing11:(List Int)) (c13:Int) (c15:Int):Option Int:=bd (α:=(Unit ⊕ Int)) (iter (slices_IndexFunc_api_Call_api_Call_L3 N s3 pending8 missing11 c13 c15) N 0) <| Sum.elim (fun _=>some (-1)) (fun p=>some p)
theorem slices_IndexFunc_api_Call_api_Call_ok {N s3 pending8 missing11 c13 c15 A1 c2 b4 b5 A6 c7 A9 c10 b12 b14 res} (hF:slices_IndexFunc_api_Call_api_Call N s3 pending8 missing11 c13 c15 = some res) {w0 w T} (hw:St w0.heap.size w0 (cR encCall 7 A1 c2 162 s3::cBx b4 189 [.pointer (some ⟨b5,0,none⟩)]::cBx b5 248 (Value.slice A1 (s3).length c2::(Value.slice A6 (pending8).length c7::(Value.slice A9 (missing11).length c10::[])))::cR (eI .i64) 1 A6 c7 3 pending8::cR (eI .i64) 1 A9 c10 3 missing11::cBx b12 3 [.int .i64 c13]::cBx b14 3 [.int .i64 c15]::T) w):Calls Tryz.prog 197 (List.toArray [.slice A1 (s3).length c2,.func (.func 165) #[] #[.pointer (some ⟨b4,0,none⟩),.pointer (some ⟨b12,0,none⟩),.pointer (some ⟨b14,0,none⟩)]]) w (fun e w'=>∃ g:Unit,(True)∧e = .returned (.int .i64 res)∧St w0.heap.size w0 (cR encCall 7 A1 c2 162 s3::cBx b4 189 [.pointer (some ⟨b5,0,none⟩)]::cBx b5 248 (Value.slice A1 (s3).length c2::(Value.slice A6 (pending8).length c7::(Value.slice A9 (missing11).length c10::[])))::cR (eI .i64) 1 A6 c7 3 pending8::cR (eI .i64) 1 A9 c10 3 missing11::cBx b12 3 [.int .i64 c13]::cBx b14 3 [.int .i64 c15]::T) w'):=by
  refine We 19 Tryz.func197 hw fun R hR=>?_;obtain ⟨o2,hF2,hF⟩:=bnd hF;refine b_ ?_;refine W.join0 [] ((cR encCall 7 A1 c2 162 s3::cBx b4 189 [.pointer (some ⟨b5,0,none⟩)]::cBx b5 248 (Value.slice A1 (s3).length c2::(Value.slice A6 (pending8).length c7::(Value.slice A9 (missing11).length c10::[])))::cR (eI .i64) 1 A6 c7 3 pending8::cR (eI .i64) 1 A9 c10 3 missing11::cBx b12 3 [.int .i64 c13]::cBx b14 3 [.int .i64 c15]::T)) ((.inl ()) = o2) (.nil) (fun K3 hK3=>?_) ?_
  · refine a_ ?_;refine l1_0 hF2 (fun a=>[(8,.int .i64 a)]) (fun a=>(cR encCall 7 A1 c2 162 s3::cBx b4 189 [.pointer (some ⟨b5,0,none⟩)]::cBx b5 248 (Value.slice A1 (s3).length c2::(Value.slice A6 (pending8).length c7::(Value.slice A9 (missing11).length c10::[])))::cR (eI .i64) 1 A6 c7 3 pending8::cR (eI .i64) 1 A9 c10 3 missing11::cBx b12 3 [.int .i64 c13]::cBx b14 3 [.int .i64 c15]::T)) (ks3 0 1 7) fun v16 k5 t5 hF5 hN5 K6 hK6=>?_;refine a_ ?_;refine Wc hF5 (fun hC9 hF5=>?_) (fun hC9 hF5=>?_)
    · obtain ⟨x17,hx17,hF5⟩:=bnd hF5;obtain ⟨r18,hr18,hF5⟩:=bnd hF5;refine a_ ?_;refine WL.step (WO.callG (γ:=Unit) (first:=[]) (cap:=[.pointer (some ⟨b4,0,none⟩),.pointer (some ⟨b12,0,none⟩),.pointer (some ⟨b14,0,none⟩)]) (fun g=>.bool r18) (fun g=>(cBx b4 189 [.pointer (some ⟨b5,0,none⟩)]::cBx b5 248 (Value.slice A1 (s3).length c2::(Value.slice A6 (pending8).length c7::(Value.slice A9 (missing11).length c10::[])))::cR encCall 7 A1 c2 162 s3::cR (eI .i64) 1 A6 c7 3 pending8::cR (eI .i64) 1 A9 c10 3 missing11::cBx b12 3 [.int .i64 c13]::cBx b14 3 [.int .i64 c15]::T)) (fun g=>True) isGo165 (.pl rfl) (.cons (.pl rfl) (.nil)) rfl (fun wz hw=>(by have h:=tickets_log_can_1_ok (T:=(T)) (b2:=b4) (b3:=b5) (A4:=A1) (c5:=c2) (A7:=A6) (c8:=c7) (A10:=A9) (c11:=c10) (b13:=b12) (b15:=b14) (hr18) (hw.pickK 7 [1,2,0,3,4,5,6] rfl);unfold Calls at h ⊢;intro cs;obtain ⟨e,w2,fr,h1,h2⟩:=h cs;exact ⟨e,w2,fr,h1,h2⟩)) ?_);rintro _ -;refine a_ ?_;refine Wc hF5 (fun hC13 hF5=>?_) (fun hC13 hF5=>?_)
      · obtain rfl:=oi hF5;obtain rfl:=einr hN5;obtain rfl:=oi hF;refine a_ ?_;exact rG ()
      · obtain ⟨hk19,hF5⟩:=ckh hF5;refine a_ ?_;exact g1 hK6 (oj hF5 hN5)
    · refine a_ ?_;exact h0 hK3 (oj hF5 hN5)
  · rintro  rfl;obtain rfl:=oi hF;refine a_ ?_;exact rG ()
def slices_ContainsFunc_api_Call_api_Call (N:Nat) (s3:(List Call)) (pending8:(List Int)) (missing11:(List Int)) (c13:Int) (c15:Int):Option Bool:=bd (slices_IndexFunc_api_Call_api_Call N s3 pending8 missing11 c13 c15) fun r16=>some (decide (0 ≤ r16))
theorem slices_ContainsFunc_api_Call_api_Call_ok {N s3 pending8 missing11 c13 c15 A1 c2 b4 b5 A6 c7 A9 c10 b12 b14 res} (hF:slices_ContainsFunc_api_Call_api_Call N s3 pending8 missing11 c13 c15 = some res) {w0 w T} (hw:St w0.heap.size w0 (cR encCall 7 A1 c2 162 s3::cBx b4 189 [.pointer (some ⟨b5,0,none⟩)]::cBx b5 248 (Value.slice A1 (s3).length c2::(Value.slice A6 (pending8).length c7::(Value.slice A9 (missing11).length c10::[])))::cR (eI .i64) 1 A6 c7 3 pending8::cR (eI .i64) 1 A9 c10 3 missing11::cBx b12 3 [.int .i64 c13]::cBx b14 3 [.int .i64 c15]::T) w):Calls Tryz.prog 164 (List.toArray [.slice A1 (s3).length c2,.func (.func 165) #[] #[.pointer (some ⟨b4,0,none⟩),.pointer (some ⟨b12,0,none⟩),.pointer (some ⟨b14,0,none⟩)]]) w (fun e w'=>∃ g:Unit,(True)∧e = .returned (.bool res)∧St w0.heap.size w0 (cR encCall 7 A1 c2 162 s3::cBx b4 189 [.pointer (some ⟨b5,0,none⟩)]::cBx b5 248 (Value.slice A1 (s3).length c2::(Value.slice A6 (pending8).length c7::(Value.slice A9 (missing11).length c10::[])))::cR (eI .i64) 1 A6 c7 3 pending8::cR (eI .i64) 1 A9 c10 3 missing11::cBx b12 3 [.int .i64 c13]::cBx b14 3 [.int .i64 c15]::T) w'):=by
  refine We 9 Tryz.func164 hw fun R hR=>?_;obtain ⟨r16,hr16,hF⟩:=bnd hF;refine a_ ?_;refine kC isGo197 (v2 rfl rfl) (fun _ hw=>slices_IndexFunc_api_Call_api_Call_ok hr16 (sw hw)) ?_;rintro _ -;obtain rfl:=oi hF;refine a_ ?_;exact rG ()
def tickets_log_can (N:Nat) (calls4:(List Call)) (pending7:(List Int)) (missing10:(List Int)) (i11:Int) (n12:Int):Option Bool:=bd (slices_ContainsFunc_api_Call_api_Call N calls4 pending7 missing10 i11 n12) fun r16=>some (!r16)
theorem tickets_log_can_ok {N calls4 pending7 missing10 i11 n12 b1 A2 c3 A5 c6 A8 c9 res} (hF:tickets_log_can N calls4 pending7 missing10 i11 n12 = some res) {w0 w T} (hw:St w0.heap.size w0 (cBx b1 248 (Value.slice A2 (calls4).length c3::(Value.slice A5 (pending7).length c6::(Value.slice A8 (missing10).length c9::[])))::cR encCall 7 A2 c3 162 calls4::cR (eI .i64) 1 A5 c6 3 pending7::cR (eI .i64) 1 A8 c9 3 missing10::T) w):Calls Tryz.prog 138 (List.toArray [.pointer (some ⟨b1,0,none⟩),.int .i64 i11,.int .i64 n12]) w (fun e w'=>∃ g:Unit,(True)∧e = .returned (.bool res)∧St w0.heap.size w0 (cBx b1 248 (Value.slice A2 (calls4).length c3::(Value.slice A5 (pending7).length c6::(Value.slice A8 (missing10).length c9::[])))::cR encCall 7 A2 c3 162 calls4::cR (eI .i64) 1 A5 c6 3 pending7::cR (eI .i64) 1 A8 c9 3 missing10::T) w'):=by
  refine We 14 Tryz.func138 hw fun R hR=>?_;refine a_ ?_;refine WL.step (WO.box1 (.pl rfl) rfl rfl fun b13=>?_);refine WL.step (WO.box1 (.pl rfl) rfl rfl fun b14=>?_);refine WL.step (WO.box1 (.pl rfl) rfl rfl fun b15=>?_);obtain ⟨r16,hr16,hF⟩:=bnd hF;refine a_ ?_;refine kC isGo164 (v2 rfl rfl) (fun _ hw=>slices_ContainsFunc_api_Call_api_Call_ok hr16 (sw hw)) ?_;rintro _ -;obtain rfl:=oi hF;refine a_ ?_;exact rG ()
def tickets_log_check_L43 (N:Nat) (calls4:(List Call)) (v12:Int) (x13:Call):Int→Option (Int ⊕ (Unit ⊕ (Int × Int × Int))) | v16=>cond (decide (v16 < (((calls4.take v12.toNat)).length:Int))) (bd (ix (calls4.take v12.toNat) v16) fun x17=>cond (((!(decide (x13.to_ = (-1))))&&(!(decide (x17.to_ = (-1)))))&&(decide (x13.res = x17.res))) (some (.inr (.inr (2,v12,v16)))) (ck (ok64 (v16 + 1)) <| some (.inl (v16 + 1)))) (some (.inr (.inl ())))
def tickets_log_check_L41 (N:Nat) (calls4:(List Call)):Int→Option (Int ⊕ (Unit ⊕ (Int × Int × Int))) | v12=>cond (decide (v12 < ((calls4).length:Int))) (bd (α:=(Unit ⊕ (Int × Int × Int))) (bd (ix calls4 v12) fun x13=>ck (slB (calls4).length 0 v12) <| iter (tickets_log_check_L43 N calls4 v12 x13) N 0) <| Sum.elim (fun _=>ck (ok64 (v12 + 1)) <| some (.inl (v12 + 1))) (fun p=>some (.inr (.inr p)))) (some (.inr (.inl ())))
def tickets_log_check_L57 (N:Nat) (calls4:(List Call)) (x22:Call) (v21:Int):Int→Option (Int ⊕ (Unit ⊕ (Int × Int × Int))) | v24=>cond (decide (v24 < ((calls4).length:Int))) (bd (ix calls4 v24) fun x25=>cond ((((!(decide (x22.to_ = (-1))))&&(!(decide (x25.to_ = (-1)))))&&(decide (x22.to_ < x25.from_)))&&(decide (x25.res < x22.res))) (some (.inr (.inr (6,v21,v24)))) (ck (ok64 (v24 + 1)) <| some (.inl (v24 + 1)))) (some (.inr (.inl ())))
def tickets_log_check_L55 (N:Nat) (calls4:(List Call)):Int→Option (Int ⊕ (Unit ⊕ (Int × Int × Int))) | v21=>cond (decide (v21 < ((calls4).length:Int))) (bd (α:=(Unit ⊕ (Int × Int × Int))) (bd (ix calls4 v21) fun x22=>iter (tickets_log_check_L57 N calls4 x22 v21) N 0) <| Sum.elim (fun _=>ck (ok64 (v21 + 1)) <| some (.inl (v21 + 1))) (fun p=>some (.inr (.inr p)))) (some (.inr (.inl ())))
def tickets_log_check_L59 (N:Nat) (missing10:(List Int)) (pending7:(List Int)) (calls4:(List Call)):Int→Option (Int ⊕ (Unit ⊕ (Int × Int × Int))) | v29=>cond (decide (v29 < ((missing10).length:Int))) (bd (ix missing10 v29) fun x30=>bd (α:=Bool) (bd ((cond ((decide (((pending7).length:Int) ≤ v29)) == false) (ix pending7 v29) (some 0))) fun x32=>cond ((decide (((pending7).length:Int) ≤ v29)) == false) (bd (tickets_log_can N calls4 pending7 missing10 x32 x30) fun r33=>some ((decide (((pending7).length:Int) ≤ v29))||(!r33))) (some ((decide (((pending7).length:Int) ≤ v29))||false))) <| fun v31=>cond v31 (some (.inr (.inr (8,x30,0)))) (ck (ok64 (v29 + 1)) <| some (.inl (v29 + 1)))) (some (.inr (.inl ())))
def tickets_log_check (N:Nat) (calls4:(List Call)) (pending7:(List Int)) (missing10:(List Int)):Option (Int × Int × Int):=bd (α:=(Unit ⊕ (Int × Int × Int))) (iter (tickets_log_check_L41 N calls4) N 0) <| Sum.elim (fun _=>bd (α:=(Unit ⊕ (Int × Int × Int))) (iter (tickets_log_check_L55 N calls4) N 0) <| Sum.elim (fun _=>bd (α:=(Unit ⊕ (Int × Int × Int))) (iter (tickets_log_check_L59 N missing10 pending7 calls4) N 0) <| Sum.elim (fun _=>some (0,0,0)) (fun p=>some p)) (fun p=>some p)) (fun p=>some p)
theorem tickets_log_check_ok {N calls4 pending7 missing10 b1 A2 c3 A5 c6 A8 c9 res} (hF:tickets_log_check N calls4 pending7 missing10 = some res) {w0 w T} (hw:St w0.heap.size w0 (cBx b1 248 (Value.slice A2 (calls4).length c3::(Value.slice A5 (pending7).length c6::(Value.slice A8 (missing10).length c9::[])))::cR encCall 7 A2 c3 162 calls4::cR (eI .i64) 1 A5 c6 3 pending7::cR (eI .i64) 1 A8 c9 3 missing10::T) w):Calls Tryz.prog 98 (List.toArray [.pointer (some ⟨b1,0,none⟩)]) w (fun e w'=>∃ g:Unit,(True)∧e = .returned (.agg (encBad (Bad.mk res.1 res.2.1 res.2.2)).toArray)∧St w0.heap.size w0 (cBx b1 248 (Value.slice A2 (calls4).length c3::(Value.slice A5 (pending7).length c6::(Value.slice A8 (missing10).length c9::[])))::cR encCall 7 A2 c3 162 calls4::cR (eI .i64) 1 A5 c6 3 pending7::cR (eI .i64) 1 A8 c9 3 missing10::T) w'):=by
  refine We 136 Tryz.func98 hw fun R hR=>?_;refine a_ ?_;refine mA fun b11=>?_;obtain ⟨o2,hF2,hF⟩:=bnd hF;refine b_ ?_;refine W.join0 [] ((cBx b1 248 (Value.slice A2 (calls4).length c3::(Value.slice A5 (pending7).length c6::(Value.slice A8 (missing10).length c9::[])))::cR encCall 7 A2 c3 162 calls4::cR (eI .i64) 1 A5 c6 3 pending7::cR (eI .i64) 1 A8 c9 3 missing10::cBx b11 131 (encBad (Bad.mk 0 0 0))::T)) ((.inl ()) = o2) (ks2 0 2) (fun K3 hK3=>?_) ?_
  · refine a_ ?_;refine l1_0 hF2 (fun a=>[(18,.int .i64 a)]) (fun a=>(cBx b1 248 (Value.slice A2 (calls4).length c3::(Value.slice A5 (pending7).length c6::(Value.slice A8 (missing10).length c9::[])))::cR encCall 7 A2 c3 162 calls4::cR (eI .i64) 1 A5 c6 3 pending7::cR (eI .i64) 1 A8 c9 3 missing10::cBx b11 131 (encBad (Bad.mk 0 0 0))::T)) (ks4 0 2 16 17) fun v12 k5 t5 hF5 hN5 K6 hK6=>?_;refine a_ ?_;refine Wc hF5 (fun hC9 hF5=>?_) (fun hC9 hF5=>?_)
    · obtain ⟨o10,hF10,hF5⟩:=bnd hF5;refine b_ ?_;refine W.join0 [] ((cBx b1 248 (Value.slice A2 (calls4).length c3::(Value.slice A5 (pending7).length c6::(Value.slice A8 (missing10).length c9::[])))::cR encCall 7 A2 c3 162 calls4::cR (eI .i64) 1 A5 c6 3 pending7::cR (eI .i64) 1 A8 c9 3 missing10::cBx b11 131 (encBad (Bad.mk 0 0 0))::T)) ((.inl ()) = o10) (ks5 0 2 16 17 18) (fun K11 hK11=>?_) ?_
      · obtain ⟨x13,hx13,hF10⟩:=bnd hF10;refine a_ ?_;refine mA fun b14=>?_;obtain ⟨hk15,hF10⟩:=ckh hF10;refine a_ ?_;refine WL.q (Y.sliceR0 Tryz.underlying58 cells162 (i:=2) rfl (.pl rfl) rfl (.pl rfl) (hk15)) rfl ?_;refine a_ ?_;refine l1_0 hF10 (fun a=>[(30,.int .i64 a)]) (fun a=>(cBx b1 248 (Value.slice A2 (calls4).length c3::(Value.slice A5 (pending7).length c6::(Value.slice A8 (missing10).length c9::[])))::cR encCall 7 A2 c3 162 calls4::cR (eI .i64) 1 A5 c6 3 pending7::cR (eI .i64) 1 A8 c9 3 missing10::cBx b11 131 (encBad (Bad.mk 0 0 0))::cBx b14 162 (encCall x13)::T)) (ks9 0 2 3 4 16 17 18 28 29) fun v16 k14 t14 hF14 hN14 K15 hK15=>?_;refine a_ ?_;refine Wc hF14 (fun hC18 hF14=>?_) (fun hC18 hF14=>?_)
        · obtain ⟨x17,hx17,hF14⟩:=bnd hF14;refine a_ ?_;refine WL.q (Y.viewEl0 (xs:=calls4) Tryz.underlying58 cells162 (i:=1) rfl (.pl rfl) (.pl rfl) (ix_lt (hx17)) (ix_lt (ix_view0 (hx17))).2) rfl ?_;refine WL.q (Y.loadRA (enc:=encCall) (ds:=(encCall x17)) (a:=x17) (idx:=v16) (j:=0) Tryz.underlying162 rfl cells162 lenCall (i:=1) rfl (.pl rfl) (ix_get (ix_view0 (hx17))) rfl rfl subW) rfl ?_;refine mA fun b18=>?_;refine a_ ?_;refine Wc hF14 (fun hC22 hF14=>?_) (fun hC22 hF14=>?_)
          · refine a_ ?_;refine WL.q (Y.build (cs:=(encBad (Bad.mk 2 v12 v16)).toArray) shape131 (.cons (.pl rfl) (.cons (.pl rfl) (.cons (.pl rfl) (.nil)))) (one_parts ⟨rfl,⟨rfl,⟨rfl,trivial⟩⟩⟩) rfl) rfl ?_;obtain rfl:=oi hF14;obtain rfl:=einr hN14;obtain rfl:=oi hF5;obtain rfl:=einr hN5;obtain rfl:=oi hF;refine a_ ?_;exact rG ()
          · obtain ⟨hk19,hF14⟩:=ckh hF14;refine a_ ?_;exact g1 hK15 (oj hF14 hN14)
        · refine a_ ?_;exact h0 hK11 (oj hF14 hN14)
      · rintro  rfl;obtain ⟨hk20,hF5⟩:=ckh hF5;refine a_ ?_;exact g1 hK6 (oj hF5 hN5)
    · refine a_ ?_;exact h0 hK3 (oj hF5 hN5)
  · rintro  rfl;obtain ⟨o26,hF26,hF⟩:=bnd hF;refine W.join0 [] ((cBx b1 248 (Value.slice A2 (calls4).length c3::(Value.slice A5 (pending7).length c6::(Value.slice A8 (missing10).length c9::[])))::cR encCall 7 A2 c3 162 calls4::cR (eI .i64) 1 A5 c6 3 pending7::cR (eI .i64) 1 A8 c9 3 missing10::cBx b11 131 (encBad (Bad.mk 0 0 0))::T)) ((.inl ()) = o26) (ks2 0 2) (fun K27 hK27=>?_) ?_
    · refine a_ ?_;refine l1_0 hF26 (fun a=>[(60,.int .i64 a)]) (fun a=>(cBx b1 248 (Value.slice A2 (calls4).length c3::(Value.slice A5 (pending7).length c6::(Value.slice A8 (missing10).length c9::[])))::cR encCall 7 A2 c3 162 calls4::cR (eI .i64) 1 A5 c6 3 pending7::cR (eI .i64) 1 A8 c9 3 missing10::cBx b11 131 (encBad (Bad.mk 0 0 0))::T)) (ks4 0 2 58 59) fun v21 k29 t29 hF29 hN29 K30 hK30=>?_;refine a_ ?_;refine Wc hF29 (fun hC33 hF29=>?_) (fun hC33 hF29=>?_)
      · obtain ⟨o34,hF34,hF29⟩:=bnd hF29;refine b_ ?_;refine W.join0 [] ((cBx b1 248 (Value.slice A2 (calls4).length c3::(Value.slice A5 (pending7).length c6::(Value.slice A8 (missing10).length c9::[])))::cR encCall 7 A2 c3 162 calls4::cR (eI .i64) 1 A5 c6 3 pending7::cR (eI .i64) 1 A8 c9 3 missing10::cBx b11 131 (encBad (Bad.mk 0 0 0))::T)) ((.inl ()) = o34) (ks5 0 2 58 59 60) (fun K35 hK35=>?_) ?_
        · obtain ⟨x22,hx22,hF34⟩:=bnd hF34;refine a_ ?_;refine mA fun b23=>?_;refine a_ ?_;refine l1_0 hF34 (fun a=>[(70,.int .i64 a)]) (fun a=>(cBx b1 248 (Value.slice A2 (calls4).length c3::(Value.slice A5 (pending7).length c6::(Value.slice A8 (missing10).length c9::[])))::cR encCall 7 A2 c3 162 calls4::cR (eI .i64) 1 A5 c6 3 pending7::cR (eI .i64) 1 A8 c9 3 missing10::cBx b11 131 (encBad (Bad.mk 0 0 0))::cBx b23 162 (encCall x22)::T)) (ks9 0 2 7 8 58 59 60 68 69) fun v24 k38 t38 hF38 hN38 K39 hK39=>?_;refine a_ ?_;refine Wc hF38 (fun hC42 hF38=>?_) (fun hC42 hF38=>?_)
          · obtain ⟨x25,hx25,hF38⟩:=bnd hF38;refine a_ ?_;refine mA fun b26=>?_;refine a_ ?_;refine Wc hF38 (fun hC46 hF38=>?_) (fun hC46 hF38=>?_)
            · refine a_ ?_;refine WL.q (Y.build (cs:=(encBad (Bad.mk 6 v21 v24)).toArray) shape131 (.cons (.pl rfl) (.cons (.pl rfl) (.cons (.pl rfl) (.nil)))) (one_parts ⟨rfl,⟨rfl,⟨rfl,trivial⟩⟩⟩) rfl) rfl ?_;obtain rfl:=oi hF38;obtain rfl:=einr hN38;obtain rfl:=oi hF29;obtain rfl:=einr hN29;obtain rfl:=oi hF;refine a_ ?_;exact rG ()
            · obtain ⟨hk27,hF38⟩:=ckh hF38;refine a_ ?_;exact g1 hK39 (oj hF38 hN38)
          · refine a_ ?_;exact h0 hK35 (oj hF38 hN38)
        · rintro  rfl;obtain ⟨hk28,hF29⟩:=ckh hF29;refine a_ ?_;exact g1 hK30 (oj hF29 hN29)
      · refine a_ ?_;exact h0 hK27 (oj hF29 hN29)
    · rintro  rfl;obtain ⟨o50,hF50,hF⟩:=bnd hF;refine W.join0 [] ((cBx b1 248 (Value.slice A2 (calls4).length c3::(Value.slice A5 (pending7).length c6::(Value.slice A8 (missing10).length c9::[])))::cR encCall 7 A2 c3 162 calls4::cR (eI .i64) 1 A5 c6 3 pending7::cR (eI .i64) 1 A8 c9 3 missing10::cBx b11 131 (encBad (Bad.mk 0 0 0))::T)) ((.inl ()) = o50) (ks1 2) (fun K51 hK51=>?_) ?_
      · refine a_ ?_;refine l1_0 hF50 (fun a=>[(107,.int .i64 a)]) (fun a=>(cBx b1 248 (Value.slice A2 (calls4).length c3::(Value.slice A5 (pending7).length c6::(Value.slice A8 (missing10).length c9::[])))::cR encCall 7 A2 c3 162 calls4::cR (eI .i64) 1 A5 c6 3 pending7::cR (eI .i64) 1 A8 c9 3 missing10::cBx b11 131 (encBad (Bad.mk 0 0 0))::T)) (ks4 0 2 105 106) fun v29 k53 t53 hF53 hN53 K54 hK54=>?_;refine a_ ?_;refine Wc hF53 (fun hC57 hF53=>?_) (fun hC57 hF53=>?_)
        · obtain ⟨x30,hx30,hF53⟩:=bnd hF53;obtain ⟨o60,hF60,hF53⟩:=bnd hF53;refine c_ ?_;refine iS ?_;refine c_ ?_;refine iR ?_;refine c_ ?_;refine W.join1 (fun a=>[(131,.bool a)]) (fun a=>(cBx b1 248 (Value.slice A2 (calls4).length c3::(Value.slice A5 (pending7).length c6::(Value.slice A8 (missing10).length c9::[])))::cR encCall 7 A2 c3 162 calls4::cR (eI .i64) 1 A5 c6 3 pending7::cR (eI .i64) 1 A8 c9 3 missing10::cBx b11 131 (encBad (Bad.mk 0 0 0))::T)) (fun a=>a = o60) (ks6 0 2 12 105 106 107) (fun K61 hK61=>?_) ?_
          · obtain ⟨x32,hx32,hF60⟩:=bnd hF60;refine a_ ?_;refine bsplit ((decide (((pending7).length:Int) ≤ v29)) == false) (fun hg62=>?_) (fun hg62=>?_)
            · replace hF60:=cpos hg62 hF60;refine WL.gd (.pl rfl rfl rfl) (hg62) ?_;obtain ⟨r33,hr33,hF60⟩:=bnd hF60;refine WL.step (WO.call (γ:=Unit) (fun g=>.bool r33) (fun g=>(cBx b1 248 (Value.slice A2 (calls4).length c3::(Value.slice A5 (pending7).length c6::(Value.slice A8 (missing10).length c9::[])))::cR encCall 7 A2 c3 162 calls4::cR (eI .i64) 1 A5 c6 3 pending7::cR (eI .i64) 1 A8 c9 3 missing10::cBx b11 131 (encBad (Bad.mk 0 0 0))::T)) (fun g=>True) isGo138 (.cons (.gd (hg62) rfl) (.cons (.gd (hg62) rfl) (.cons (.gd (hg62) rfl) (.nil)))) rfl (fun wz hw=>tickets_log_can_ok (T:=(cBx b11 131 (encBad (Bad.mk 0 0 0))::T)) (hr33) (hw.pickK 5 [0,1,2,3,4] rfl) ) ?_);rintro _ -;refine WL.gd (.pl rfl rfl rfl) (hg62) ?_;refine a_ ?_;exact h1 hK61 (oi hF60)
            · replace hF60:=cneg hg62 hF60;refine WL.gn (.pl rfl rfl rfl) hg62 rfl ?_;refine WL.gn (.pl rfl rfl rfl) hg62 rfl ?_;refine WL.q (Y.or (b:=false) (.pl rfl) (fun h2=>(gabsO hg62 h2).elim)) rfl ?_;refine a_ ?_;exact h1 hK61 (oi hF60)
          · rintro v31 rfl;refine Wc hF53 (fun hC63 hF53=>?_) (fun hC63 hF53=>?_)
            · refine a_ ?_;refine WL.q (Y.build (cs:=(encBad (Bad.mk 8 x30 0)).toArray) shape131 (.cons (.pl rfl) (.cons (.pl rfl) (.nil))) (one_parts ⟨rfl,⟨rfl,trivial⟩⟩) rfl) rfl ?_;obtain rfl:=oi hF53;obtain rfl:=einr hN53;obtain rfl:=oi hF;refine a_ ?_;exact rG ()
            · obtain ⟨hk34,hF53⟩:=ckh hF53;refine a_ ?_;exact g1 hK54 (oj hF53 hN53)
        · refine a_ ?_;exact h0 hK51 (oj hF53 hN53)
      · rintro  rfl;refine a_ ?_;refine WL.q (Y.build (cs:=(encBad (Bad.mk 0 0 0)).toArray) shape131 (.nil) (one_parts trivial) rfl) rfl ?_;obtain rfl:=oi hF;refine a_ ?_;exact rG ()
def tickets_Check (N:Nat) (l1:(List Event)):Option (Bool × Int × Int × Int × Int):=bd (tickets_read N l1) fun r7=>cond (!(decide (r7.2.2.2.2 = 0))) (some (false,0,0,0,r7.2.2.2.2)) (ck (r7.1) <| bd (tickets_log_check N r7.2.1 r7.2.2.1 r7.2.2.2.1) fun r18=>some ((decide (r18.1 = 0)),r18.1,r18.2.1,r18.2.2,0))
theorem tickets_Check_ok {N l1 res} (hF:tickets_Check N l1 = some res) (w:World) {v5} (hs4:SlIn encEvent 4 w v5 l1):Pure Tryz.prog 58 [v5] w (.tuple #[.bool res.1,.agg (encBad (Bad.mk res.2.1 res.2.2.1 res.2.2.2.1)).toArray,.int .i64 res.2.2.2.2]):=by
  obtain ⟨A2,c3,rfl,hcc3,hs4⟩:=hs4.form;refine We 23 Tryz.func58 (St.start w) fun R hR=>?_;refine a_ ?_;refine mA fun b6=>?_;obtain ⟨r7,hr7,hF⟩:=bnd hF;refine a_ ?_;refine kM isGo97 (v1 rfl) (fun wz hw=>tickets_read_ok hr7 wz (hs4.mono hw)) ?_;rintro ⟨b8,A9,c10,A11,c12,A13,c14⟩ hl15;refine a_ ?_;refine Wc hF (fun hC5 hF=>?_) (fun hC5 hF=>?_)
  · refine a_ ?_;refine WL.q (Y.build (cs:=(encBad (Bad.mk 0 0 0)).toArray) shape131 (.nil) (one_parts trivial) rfl) rfl ?_;obtain rfl:=oi hF;refine a_ ?_;exact rP
  · obtain ⟨hk16,hF⟩:=ckh hF;refine a_ ?_;obtain ⟨b17,rfl⟩:=Option.isSome_iff_exists.1 (hl15.symm.trans hk16);obtain ⟨r18,hr18,hF⟩:=bnd hF;refine a_ ?_;refine kC isGo98 (v1 rfl) (fun _ hw=>tickets_log_check_ok hr18 (sw hw)) ?_;rintro _ -;refine mA fun b19=>?_;refine b_ ?_;refine W.seqT 5 (by kernel_rfl) (by kernel_rfl) fun Q8 hQ8=>?_;refine Sq yf ?_;refine Sq yb0 ?_;refine Sq ye ?_;refine WS.q (Y.loadBA (ds:=(encBad (Bad.mk r18.1 r18.2.1 r18.2.2))) Tryz.underlying131 rfl cells131 (.pl rfl) (i:=0) rfl rfl subW) rfl ?_;refine Sq ya ?_;refine WS.tail ?_;refine a_ ?_;refine xQ hQ8 ?_;obtain rfl:=oi hF;exact rP
def bags_types (N:Nat):Option Unit:=some ()
theorem bags_types_ok {N res} (hF:bags_types N = some res) (w:World):Made Tryz.prog 139 [] w (fun g:Option Addr=>.slice g (([4]:List Int)).length (([4]:List Int)).length) (fun g=>[cR (eI .i64) 1 g (([4]:List Int)).length 3 ([4]:List Int)]) (fun g=>True):=by
  refine We 2 Tryz.func139 (St.start w) fun R hR=>?_;refine a_ ?_;refine WL.step (WO.bsliceC (enc:=(eI .i64)) (ys:=([4]:List Int)) Tryz.underlying29 bz3 (.cons (.pl rfl) (.nil)) rfl (fun _=>rfl) rfl rfl (by decide) (by decide) rfl fun b1=>?_);obtain rfl:=oi hF;refine a_ ?_;exact rG (some (Addr.mk b1 0 none))
def maps_Keys_map_int_int_int_int (N:Nat) (m2:(List (Int × Int))):Option Unit:=some ()
theorem maps_Keys_map_int_int_int_int_ok {N m2 b1 res} (hF:maps_Keys_map_int_int_int_int N m2 = some res) {w0 w T} (hw:St w0.heap.size w0 (cM (Value.int .i64) (some b1) m2::T) w):Calls Tryz.prog 141 (List.toArray [.map (some b1)]) w (fun e w'=>∃ g:Nat,(True)∧e = .returned (.func (.func 168) #[] #[.pointer (some ⟨g,0,none⟩)])∧St w0.heap.size w0 (cM (Value.int .i64) (some b1) m2::cBx g 249 [.map (some b1)]::T) w'):=by
  refine We 4 Tryz.func141 hw fun R hR=>?_;refine a_ ?_;refine WL.step (WO.box1 (.pl rfl) rfl rfl fun b3=>?_);obtain rfl:=oi hF;refine a_ ?_;exact rG b3
def layS140_ren : Go.Shelf.Ren := ⟨fun x => match x with | 6 => 140 | 8 => 166 | 9 => 167 | 11 => 198 | n => n, fun x => match x with | 0 => 0 | 3 => 3 | 4 => 4 | 23 => 249 | 24 => 29 | 26 => 3 | 27 => 251 | 28 => 252 | 33 => 147 | n => n, fun x => x⟩
theorem layS140 : SlLaysZI.n6 Tryz.prog layS140_ren where
  mixed := by kernel_rfl
  f6 := ⟨Tryz.f140.name, by kernel_rfl, Tryz.func140.trans (congrArg some (by kernel_rfl))⟩
  f8 := ⟨Tryz.f166.name, by kernel_rfl, Tryz.func166.trans (congrArg some (by kernel_rfl))⟩
  f11 := ⟨Tryz.f198.name, by kernel_rfl, Tryz.func198.trans (congrArg some (by kernel_rfl))⟩
  t0 := Tryz.underlying0
  a0 := Tryz.isAgg0
  z0 := Tryz.sizeOf0
  v0 := Tryz.zeroValue0
  t24 := Tryz.underlying29
  a24 := Tryz.isAgg29
  z24 := Tryz.sizeOf29
  v24 := Tryz.zeroValue29
  t26 := Tryz.underlying3
  a26 := Tryz.isAgg3
  z26 := Tryz.sizeOf3
  v26 := Tryz.zeroValue3
  t28 := Tryz.underlying252
  a28 := Tryz.isAgg252
  z28 := Tryz.sizeOf252
  v28 := Tryz.zeroValue252
  i26 := by kernel_rfl
def layK140_ren : Go.Shelf.Ren := ⟨fun x => match x with | 10 => 168 | n => n, fun x => match x with | 0 => 0 | 3 => 3 | 4 => 4 | 23 => 249 | 24 => 29 | 26 => 3 | 27 => 251 | 28 => 252 | 33 => 147 | n => n, fun x => x⟩
theorem layK140 : SlLaysZI.n10 Tryz.prog layK140_ren where
  mixed := by kernel_rfl
  f10 := ⟨Tryz.f168.name, by kernel_rfl, Tryz.func168.trans (congrArg some (by kernel_rfl))⟩
  t0 := Tryz.underlying0
  a0 := Tryz.isAgg0
  z0 := Tryz.sizeOf0
  v0 := Tryz.zeroValue0
  t4 := Tryz.underlying4
  a4 := Tryz.isAgg4
  z4 := Tryz.sizeOf4
  v4 := Tryz.zeroValue4
  t23 := Tryz.underlying249
  a23 := Tryz.isAgg249
  z23 := Tryz.sizeOf249
  v23 := Tryz.zeroValue249
  t26 := Tryz.underlying3
  a26 := Tryz.isAgg3
  z26 := Tryz.sizeOf3
  v26 := Tryz.zeroValue3
  t33 := Tryz.underlying147
  a33 := Tryz.isAgg147
  z33 := Tryz.sizeOf147
  v33 := Tryz.zeroValue147
def layM140_ren : Go.Shelf.Ren := ⟨fun x => match x with | 5 => 167 | 7 => 199 | 8 => 159 | 10 => 213 | 11 => 214 | 12 => 215 | 13 => 216 | 14 => 217 | 15 => 218 | 16 => 219 | 17 => 220 | 18 => 221 | 19 => 188 | 20 => 176 | 30 => 226 | 31 => 206 | 32 => 207 | 33 => 227 | 34 => 228 | 35 => 148 | 40 => 229 | n => n, fun x => match x with | 0 => 0 | 3 => 3 | 4 => 4 | 5 => 5 | 9 => 9 | 22 => 29 | 23 => 29 | 25 => 3 | 32 => 176 | 35 => 288 | 36 => 289 | 41 => 158 | 44 => 255 | 46 => 263 | 53 => 312 | 57 => 316 | 63 => 331 | 64 => 332 | n => n, fun x => x⟩
theorem layM140 : SlLaysM.n5 Tryz.prog layM140_ren where
  mixed := by kernel_rfl
  f5 := ⟨Tryz.f167.name, by kernel_rfl, Tryz.func167.trans (congrArg some (by kernel_rfl))⟩
  f7 := ⟨Tryz.f199.name, by kernel_rfl, Tryz.func199.trans (congrArg some (by kernel_rfl))⟩
  f8 := Tryz.func159.trans (congrArg some (by kernel_rfl))
  f10 := ⟨Tryz.f213.name, by kernel_rfl, Tryz.func213.trans (congrArg some (by kernel_rfl))⟩
  f11 := ⟨Tryz.f214.name, by kernel_rfl, Tryz.func214.trans (congrArg some (by kernel_rfl))⟩
  f12 := ⟨Tryz.f215.name, by kernel_rfl, Tryz.func215.trans (congrArg some (by kernel_rfl))⟩
  f13 := ⟨Tryz.f216.name, by kernel_rfl, Tryz.func216.trans (congrArg some (by kernel_rfl))⟩
  f14 := ⟨Tryz.f217.name, by kernel_rfl, Tryz.func217.trans (congrArg some (by kernel_rfl))⟩
  f15 := ⟨Tryz.f218.name, by kernel_rfl, Tryz.func218.trans (congrArg some (by kernel_rfl))⟩
  f16 := ⟨Tryz.f219.name, by kernel_rfl, Tryz.func219.trans (congrArg some (by kernel_rfl))⟩
  f17 := ⟨Tryz.f220.name, by kernel_rfl, Tryz.func220.trans (congrArg some (by kernel_rfl))⟩
  f18 := ⟨Tryz.f221.name, by kernel_rfl, Tryz.func221.trans (congrArg some (by kernel_rfl))⟩
  f19 := Tryz.func188.trans (congrArg some (by kernel_rfl))
  f20 := Tryz.func176.trans (congrArg some (by kernel_rfl))
  f30 := ⟨Tryz.f226.name, by kernel_rfl, Tryz.func226.trans (congrArg some (by kernel_rfl))⟩
  f31 := Tryz.func206.trans (congrArg some (by kernel_rfl))
  f32 := Tryz.func207.trans (congrArg some (by kernel_rfl))
  f33 := ⟨Tryz.f227.name, by kernel_rfl, Tryz.func227.trans (congrArg some (by kernel_rfl))⟩
  f34 := ⟨Tryz.f228.name, by kernel_rfl, Tryz.func228.trans (congrArg some (by kernel_rfl))⟩
  f35 := ⟨Tryz.f148.name, by kernel_rfl, Tryz.func148.trans (congrArg some (by kernel_rfl))⟩
  f40 := ⟨Tryz.f229.name, by kernel_rfl, Tryz.func229.trans (congrArg some (by kernel_rfl))⟩
  t0 := Tryz.underlying0
  a0 := Tryz.isAgg0
  z0 := Tryz.sizeOf0
  v0 := Tryz.zeroValue0
  t3 := Tryz.underlying3
  a3 := Tryz.isAgg3
  z3 := Tryz.sizeOf3
  v3 := Tryz.zeroValue3
  t4 := Tryz.underlying4
  a4 := Tryz.isAgg4
  z4 := Tryz.sizeOf4
  v4 := Tryz.zeroValue4
  t5 := Tryz.underlying5
  a5 := Tryz.isAgg5
  z5 := Tryz.sizeOf5
  v5 := Tryz.zeroValue5
  t9 := Tryz.underlying9
  a9 := Tryz.isAgg9
  z9 := Tryz.sizeOf9
  v9 := Tryz.zeroValue9
  t22 := Tryz.underlying29
  a22 := Tryz.isAgg29
  z22 := Tryz.sizeOf29
  v22 := Tryz.zeroValue29
  t23 := Tryz.underlying29
  a23 := Tryz.isAgg29
  z23 := Tryz.sizeOf29
  v23 := Tryz.zeroValue29
  t25 := Tryz.underlying3
  a25 := Tryz.isAgg3
  z25 := Tryz.sizeOf3
  v25 := Tryz.zeroValue3
  t32 := Tryz.underlying176
  a32 := Tryz.isAgg176
  z32 := Tryz.sizeOf176
  v32 := Tryz.zeroValue176
  t35 := Tryz.underlying288
  a35 := Tryz.isAgg288
  z35 := Tryz.sizeOf288
  v35 := Tryz.zeroValue288
  t36 := Tryz.underlying289
  a36 := Tryz.isAgg289
  z36 := Tryz.sizeOf289
  v36 := Tryz.zeroValue289
  t41 := Tryz.underlying158
  a41 := Tryz.isAgg158
  z41 := Tryz.sizeOf158
  v41 := Tryz.zeroValue158
  t44 := Tryz.underlying255
  a44 := Tryz.isAgg255
  z44 := Tryz.sizeOf255
  v44 := Tryz.zeroValue255
  t46 := Tryz.underlying263
  a46 := Tryz.isAgg263
  z46 := Tryz.sizeOf263
  v46 := Tryz.zeroValue263
  t53 := Tryz.underlying312
  a53 := Tryz.isAgg312
  z53 := Tryz.sizeOf312
  v53 := Tryz.zeroValue312
  t57 := Tryz.underlying316
  a57 := Tryz.isAgg316
  z57 := Tryz.sizeOf316
  v57 := Tryz.zeroValue316
  t63 := Tryz.underlying331
  a63 := Tryz.isAgg331
  z63 := Tryz.sizeOf331
  v63 := Tryz.zeroValue331
  t64 := Tryz.underlying332
  a64 := Tryz.isAgg332
  z64 := Tryz.sizeOf332
  v64 := Tryz.zeroValue332
theorem sortsI140 (m : Nat) : AnyZI.SortsIn Tryz.prog layS140_ren Fence.wide m :=
  ⟨fun blk off cap ss W hH hblk hsz => callsIn_wide.2 (AnyM.slices_Sort_int layM140 blk off cap ss W hH hblk hsz), fun p cap W => callsIn_wide.2 (AnyM.slices_Sort_int_none layM140 p cap W)⟩
def sortedKeys140 (N : Nat) (m : List (Int × Int)) : Option (List Int) := skeys m
theorem sortedKeys140_ok {N : Nat} {sI1 : (List (Int × Int))} {bI2 : Nat} {bI3 : Nat} {res : (List Int)} (hF : sortedKeys140 N sI1 = some res) {w0 w : World} {T : List Chunk} (hw : St w0.heap.size w0 (cBx bI2 249 [.map (some bI3)] :: cM (Value.int .i64) (some bI3) sI1 :: T) w) :
    Calls Tryz.prog 140 (List.toArray [.func (.func 168) #[] #[.pointer (some ⟨bI2, 0, none⟩)]]) w (fun e w' => ∃ g : (Option Addr × Nat), (True) ∧ e = .returned (.slice g.1 (res).length g.2) ∧ St w0.heap.size w0 (cR (eI .i64) 1 g.1 g.2 3 res :: cBx bI2 249 [.map (some bI3)] :: cM (Value.int .i64) (some bI3) sI1 :: T) w') :=
  sorted_calls layS140 layK140 sortsI140 (enters_of Tryz.func167 (by kernel_rfl) rfl) (enters_of Tryz.func168 (by kernel_rfl) rfl) Tryz.underlying3 Tryz.underlying3 hF hw

def bags_part_L3 (N:Nat) (l1:(List Event)) (n6:Int):((List Event) × (List Bool) × Int)→Option (((List Event) × (List Bool) × Int) ⊕ (List Event)) | (out13,in14,v15)=>cond (decide (v15 < ((l1).length:Int))) (bd (ix l1 v15) fun x16=>bd (α:=(List Bool)) (cond (!(decide (x16.kind = 0))) (bd (ax 8 false in14 x16.who) fun x19=>some (setA 8 false in14 x16.who (decide (x16.value = n6)))) (some in14)) <| fun in18=>bd (ax 8 false in18 x16.who) fun x20=>cond x20 (ck (limB 32 ((out13).length + (([x16]:List Event)).length)) <| ck (ok64 (v15 + 1)) <| some (.inl ((out13++([x16]:List Event)),in18,(v15 + 1)))) (ck (ok64 (v15 + 1)) <| some (.inl (out13,in18,(v15 + 1))))) (some (.inr out13))
def bags_part (N:Nat) (l1:(List Event)) (n6:Int):Option (List Event):=bd (α:=(List Event)) (iter (bags_part_L3 N l1 n6) N ([],[false,false,false,false,false,false,false,false],0)) <| fun out10=>some out10
theorem bags_part_ok {N l1 n6 res} (hF:bags_part N l1 n6 = some res) (w:World) {v5} (hs4:SlIn encEvent 4 w v5 l1):Made Tryz.prog 142 [v5,.int .i64 n6] w (fun g:(Option Addr × Nat)=>.slice g.1 (res).length g.2) (fun g=>[cR encEvent 4 g.1 g.2 108 res]) (fun g=>True):=by
  obtain ⟨A2,c3,rfl,hcc3,hs4⟩:=hs4.form;refine We 36 Tryz.func142 (St.start w) fun R hR=>?_;refine a_ ?_;refine WL.q (Y.buildA (cs:=((encA 8 eB false) [false,false,false,false,false,false,false,false]).toArray) Tryz.underlying277 cells4 azero277 (.nil) rfl) rfl ?_;refine mA fun b7=>?_;refine WL.step (WO.storeBA (ds:=((encA 8 eB false) [false,false,false,false,false,false,false,false])) (cs':=((encA 8 eB false) [false,false,false,false,false,false,false,false])) cells277 (.pl rfl) (.pl rfl) rfl ((oneA oneB) _) (i:=0) rfl (lel (o:=0) (l:=8) (m:=8) (by decide) rfl rfl) (putW rfl) ?_);obtain ⟨o4,hF4,hF⟩:=bnd hF;refine b_ ?_;refine W.join3 (fun a b c=>[(5,.slice b (a).length c)]) (fun a b c=>[cR encEvent 4 b c 108 a]) (fun a b c=>a = o4) (.nil) (fun K5 hK5=>?_) ?_
  · refine a_ ?_;refine l3_2 hF4 (fun a b c d f=>[(5,.slice d (a).length f),(12,.int .i64 c)]) (fun a b c d f=>[cR encEvent 4 d f 108 a,cBx b7 277 ((encA 8 eB false) b)]) (ks4 1 6 10 11) fun out13 in14 v15 A11 c12 k7 t7 hF7 hN7 K8 hK8=>?_;refine a_ ?_;refine Wc hF7 (fun hC11 hF7=>?_) (fun hC11 hF7=>?_)
    · obtain ⟨x16,hx16,hF7⟩:=bnd hF7;refine a_ ?_;refine mA fun b17=>?_;obtain ⟨o14,hF14,hF7⟩:=bnd hF7;refine b_ ?_;refine W.join1 (fun a=>[]) (fun a=>[cR encEvent 4 A11 c12 108 out13,cBx b7 277 ((encA 8 eB false) a),cBx b17 108 (encEvent x16)]) (fun a=>a = o14) (ks7 1 5 6 8 10 11 12) (fun K15 hK15=>?_) ?_
      · refine a_ ?_;refine Wc hF14 (fun hC17 hF14=>?_) (fun hC17 hF14=>?_)
        · obtain ⟨x19,hx19,hF14⟩:=bnd hF14;refine a_ ?_;refine WL.step (WO.storeB (cs':=((encA 8 eB false) (setA 8 false in14 x16.who (decide (x16.value = n6))))) cells4 (.pl rfl) (.pl rfl) rfl (i:=2) rfl (ltl (m:=8) (offlt (off:=0) (sz:=1) (j:=0) (ax_nat (hx19)) (by decide)) rfl) (cellsSet (pre:=[]) (off:=0) (post:=[]) (a:=in14) (enc:=eB) (d:=false) (n:=8) (sz:=1) (j:=0) (x:=x19) (x':=(decide (x16.value = n6))) (fun _=>rfl) rfl (ax_lt (hx19)) (ax_get (hx19)) (by decide) rfl rfl) ?_);refine a_ ?_;exact h1 hK15 (oi hF14)
        · refine a_ ?_;exact h1 hK15 (oi hF14)
      · rintro in18 rfl;obtain ⟨x20,hx20,hF7⟩:=bnd hF7;refine a_ ?_;refine WL.q (Y.loadB (v:=.bool x20) Tryz.underlying4 rfl (.pl rfl) (i:=1) rfl (cellsA (pre:=[]) (off:=0) (post:=[]) (a:=in18) (enc:=eB) (d:=false) (n:=8) (sz:=1) (j:=0) (fun _=>rfl) rfl (ax_nat (hx20)) (ax_get (hx20)) rfl)) rfl ?_;refine a_ ?_;refine Wc hF7 (fun hC20 hF7=>?_) (fun hC20 hF7=>?_)
        · refine a_ ?_;refine WL.step (WO.bsliceC (enc:=encEvent) (ys:=([x16]:List Event)) Tryz.underlying31 bz108 (.cons (.pl rfl) (.nil)) rfl lenEvent rfl rfl (by decide) (by decide) rfl fun b21=>?_);obtain ⟨hk24,hF7⟩:=ckh hF7;refine WL.step (WO.appendC (enc:=encEvent) Tryz.underlying31 ap108 lenEvent oneEvent (.pl rfl) rfl (.pl rfl) (i:=1) rfl (m2:=0) rfl (hk24) rfl fun A22 c23=>?_);obtain ⟨hk25,hF7⟩:=ckh hF7;refine a_ ?_;exact g5 hK8 (oj hF7 hN7)
        · obtain ⟨hk26,hF7⟩:=ckh hF7;refine a_ ?_;exact g5 hK8 (oj hF7 hN7)
    · refine a_ ?_;exact h3 hK5 (oj hF7 hN7)
  · rintro out10 A8 c9 rfl;obtain rfl:=oi hF;refine a_ ?_;exact rG (A8,c9)
def bags_Check_L5 (N:Nat) (r8:((List Call) × Int × Int)):((List (Int × Int)) × Int)→Option (((List (Int × Int)) × Int) ⊕ ((List (Int × Int)) ⊕ ((List Int) × Int))) | (count13,v14)=>cond (decide (v14 < ((r8.1).length:Int))) (bd (ix r8.1 v14) fun x15=>ck (ok64 (((mget count13 x15.arg).getD 0) + 1)) <| cond (decide (9 < ((mget (mput count13 x15.arg (((mget count13 x15.arg).getD 0) + 1)) x15.arg).getD 0))) (some (.inr (.inr ([],2)))) (ck (ok64 (v14 + 1)) <| some (.inl ((mput count13 x15.arg (((mget count13 x15.arg).getD 0) + 1)),(v14 + 1))))) (some (.inr (.inl count13)))
def bags_Check_L7 (N:Nat) (r24:(List Int)) (l1:(List Event)):((List Int) × Int)→Option (((List Int) × Int) ⊕ (List Int)) | (out29,v30)=>cond (decide (v30 < ((r24).length:Int))) (bd (ix r24 v30) fun x31=>bd (bags_types N) fun r32=>bd (bags_part N l1 x31) fun r34=>bd (search_Find N ([4]:List Int) r34) fun r37=>cond (!r37.2.1) (ck (limB 8 ((out29).length + (([x31]:List Int)).length)) <| ck (ok64 (v30 + 1)) <| some (.inl ((out29++([x31]:List Int)),(v30 + 1)))) (ck (ok64 (v30 + 1)) <| some (.inl (out29,(v30 + 1))))) (some (.inr out29))
def bags_Check (N:Nat) (l1:(List Event)):Option ((List Int) × Int):=bd (bags_types N) fun r6=>bd (history_Calls N ([4]:List Int) l1) fun r8=>cond (!(decide (r8.2.2 = 0))) (some ([],r8.2.2)) (bd (α:=((List (Int × Int)) ⊕ ((List Int) × Int))) (iter (bags_Check_L5 N r8) N (([]:List (Int × Int)),0)) <| Sum.elim (fun count12=>bd (α:=(List Int)) (bd (maps_Keys_map_int_int_int_int N count12) fun r22=>bd (sortedKeys140 N count12) fun r24=>iter (bags_Check_L7 N r24 l1) N ([],0)) <| fun out21=>some (out21,0)) (fun p=>some p))
theorem bags_Check_ok {N l1 res} (hF:bags_Check N l1 = some res) (w:World) {v5} (hs4:SlIn encEvent 4 w v5 l1):Made Tryz.prog 99 [v5] w (fun g:(Option Addr × Nat)=>.tuple #[.slice g.1 (res.1).length g.2,.int .i64 res.2]) (fun g=>[cR (eI .i64) 1 g.1 g.2 3 res.1]) (fun g=>True):=by
  obtain ⟨A2,c3,rfl,hcc3,hs4⟩:=hs4.form;refine We 69 Tryz.func99 (St.start w) fun R hR=>?_;obtain ⟨r6,hr6,hF⟩:=bnd hF;refine a_ ?_;refine kM isGo139 v0 (fun wz hw=>bags_types_ok hr6 wz) ?_;rintro A7 -;obtain ⟨r8,hr8,hF⟩:=bnd hF;refine a_ ?_;refine kM isGo24 (v2 rfl rfl) (fun wz hw=>history_Calls_ok hr8 wz (so hw) (hs4.mono hw)) ?_;rintro ⟨A9,c10⟩ -;refine a_ ?_;refine Wc hF (fun hC5 hF=>?_) (fun hC5 hF=>?_)
  · obtain rfl:=oi hF;refine a_ ?_;exact rG (none,0)
  · refine a_ ?_;refine WL.step (WO.mmake (Value.int .i64) rfl fun b11=>?_);obtain ⟨o8,hF8,hF⟩:=bnd hF;refine b_ ?_;refine W.join1 (fun a=>[]) (fun a=>[cM (Value.int .i64) (some b11) a]) (fun a=>(.inl a) = o8) (ks2 0 7) (fun K9 hK9=>?_) ?_
    · refine a_ ?_;refine l2_0 hF8 (fun a b=>[(29,.int .i64 b)]) (fun a b=>[cM (Value.int .i64) (some b11) a,cR encCall 7 A9 c10 162 r8.1]) (ks4 0 7 27 28) fun count13 v14 k11 t11 hF11 hN11 K12 hK12=>?_;refine a_ ?_;refine Wc hF11 (fun hC15 hF11=>?_) (fun hC15 hF11=>?_)
      · obtain ⟨x15,hx15,hF11⟩:=bnd hF11;refine a_ ?_;refine mA fun b16=>?_;refine a_ ?_;refine WL.q (Y.mget (f:=(Value.int .i64)) (dv:=0) Tryz.underlying249 Tryz.underlying3 zero3 (.pl rfl) (.pl rfl) (i:=1) rfl) rfl ?_;obtain ⟨hk17,hF11⟩:=ckh hF11;refine a_ ?_;refine WL.step (WO.mset (f:=(Value.int .i64)) (a:=(((mget count13 x15.arg).getD 0) + 1)) Tryz.underlying249 Tryz.underlying3 (.pl rfl) (.pl rfl) (.pl rfl) (i:=1) rfl ?_);refine a_ ?_;refine WL.q (Y.mget (f:=(Value.int .i64)) (dv:=0) Tryz.underlying249 Tryz.underlying3 zero3 (.pl rfl) (.pl rfl) (i:=1) rfl) rfl ?_;refine a_ ?_;refine Wc hF11 (fun hC20 hF11=>?_) (fun hC20 hF11=>?_)
        · obtain rfl:=oi hF11;obtain rfl:=einr hN11;obtain rfl:=oi hF;refine a_ ?_;exact rG (none,0)
        · obtain ⟨hk18,hF11⟩:=ckh hF11;refine a_ ?_;exact g2 hK12 (oj hF11 hN11)
      · refine a_ ?_;exact h1 hK9 (oj hF11 hN11)
    · rintro count12 rfl;replace hF:=elimL hF;obtain ⟨o24,hF24,hF⟩:=bnd hF;refine b_ ?_;refine W.join3 (fun a b c=>[(10,.slice b (a).length c)]) (fun a b c=>[cR (eI .i64) 1 b c 3 a]) (fun a b c=>a = o24) (.nil) (fun K25 hK25=>?_) ?_
      · obtain ⟨r22,hr22,hF24⟩:=bnd hF24;refine a_ ?_;refine kC isGo141 (v1 rfl) (fun _ hw=>maps_Keys_map_int_int_int_int_ok hr22 (sw hw)) ?_;rintro b23 -;obtain ⟨r24,hr24,hF24⟩:=bnd hF24;refine kC isGo140 (v1 rfl) (fun _ hw=>sortedKeys140_ok hr24 (sw hw)) ?_;rintro ⟨AI25,cI26⟩ -;refine a_ ?_;refine l2_2 hF24 (fun a b c d=>[(10,.slice c (a).length d),(48,.int .i64 b)]) (fun a b c d=>[cR (eI .i64) 1 c d 3 a,cR (eI .i64) 1 AI25 cI26 3 r24]) (ks3 0 46 47) fun out29 v30 A27 c28 k27 t27 hF27 hN27 K28 hK28=>?_;refine a_ ?_;refine Wc hF27 (fun hC31 hF27=>?_) (fun hC31 hF27=>?_)
        · obtain ⟨x31,hx31,hF27⟩:=bnd hF27;obtain ⟨r32,hr32,hF27⟩:=bnd hF27;refine a_ ?_;refine kM isGo139 v0 (fun wz hw=>bags_types_ok hr32 wz) ?_;rintro A33 -;obtain ⟨r34,hr34,hF27⟩:=bnd hF27;refine a_ ?_;refine kM isGo142 (v2 rfl rfl) (fun wz hw=>bags_part_ok hr34 wz (hs4.mono hw)) ?_;rintro ⟨A35,c36⟩ -;obtain ⟨r37,hr37,hF27⟩:=bnd hF27;refine kM isGo51 (v2 rfl rfl) (fun wz hw=>search_Find_ok hr37 wz (so hw) (so hw)) ?_;rintro ⟨A38,c39⟩ -;refine a_ ?_;refine Wc hF27 (fun hC36 hF27=>?_) (fun hC36 hF27=>?_)
          · refine a_ ?_;refine WL.step (WO.bsliceC (enc:=(eI .i64)) (ys:=([x31]:List Int)) Tryz.underlying29 bz3 (.cons (.pl rfl) (.nil)) rfl (fun _=>rfl) rfl rfl (by decide) (by decide) rfl fun b40=>?_);obtain ⟨hk43,hF27⟩:=ckh hF27;refine WL.step (WO.appendC (enc:=(eI .i64)) Tryz.underlying29 ap3 (fun _=>rfl) oneI (.pl rfl) rfl (.pl rfl) (i:=4) rfl (m2:=0) rfl (hk43) rfl fun A41 c42=>?_);obtain ⟨hk44,hF27⟩:=ckh hF27;refine a_ ?_;exact g4 hK28 (oj hF27 hN27)
          · obtain ⟨hk45,hF27⟩:=ckh hF27;refine a_ ?_;exact g4 hK28 (oj hF27 hN27)
        · refine a_ ?_;exact h3 hK25 (oj hF27 hN27)
      · rintro out21 A19 c20 rfl;obtain rfl:=oi hF;refine a_ ?_;exact rG (A19,c20)
end Go.Proofs.YtjdkkabcenohcaaGreatDoor
