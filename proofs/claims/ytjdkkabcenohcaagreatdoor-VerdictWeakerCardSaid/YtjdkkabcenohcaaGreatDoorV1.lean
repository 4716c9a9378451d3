/- Text: what Read computes, and the walks. -/
import Derived.Test.YtjdkkabcenohcaaGreatDoorAuto
import Derived.Test.YtjdkkabcenohcaaGreatDoorChecked
import Derived.Test.YtjdkkabcenohcaaGreatDoorText
import Derived.Test.YtjdkkabcenohcaaGreatDoorOpt
import Derived.Test.YtjdkkabcenohcaaGreatDoorStrMap
set_option linter.unusedVariables false
set_option linter.defProp false
set_option linter.unusedSimpArgs false
set_option linter.unusedSectionVars false
set_option maxRecDepth 100000
namespace Go.Proofs.YtjdkkabcenohcaaGreatDoor
open Go.RowKit
attribute [local irreducible] Yd Evs Evl
structure Event where
  who : Int
  thing : Int
  kind : Int
  value : Int
deriving DecidableEq
def Event.z : Event := ⟨0, 0, 0, 0⟩
def encEvent (x : Event) : List Value := (Value.int .i64 x.who :: (Value.int .i64 x.thing :: (Value.int .i64 x.kind :: (Value.int .i64 x.value :: []))))
theorem lenEvent (x : Event) : (encEvent x).length = 4 := rfl
theorem oneEvent : ∀ x, ∀ v ∈ encEvent x, v.oneCell' = true := fun x => (one_cons rfl (one_cons rfl (one_cons rfl (one_cons rfl one_nil))))
structure Call where
  who : Int
  thing : Int
  kind : Int
  arg : Int
  res : Int
  from_ : Int
  to_ : Int
deriving DecidableEq
def Call.z : Call := ⟨0, 0, 0, 0, 0, 0, 0⟩
def encCall (x : Call) : List Value := (Value.int .i64 x.who :: (Value.int .i64 x.thing :: (Value.int .i64 x.kind :: (Value.int .i64 x.arg :: (Value.int .i64 x.res :: (Value.int .i64 x.from_ :: (Value.int .i64 x.to_ :: [])))))))
theorem lenCall (x : Call) : (encCall x).length = 7 := rfl
theorem oneCall : ∀ x, ∀ v ∈ encCall x, v.oneCell' = true := fun x => (one_cons rfl (one_cons rfl (one_cons rfl (one_cons rfl (one_cons rfl (one_cons rfl (one_cons rfl one_nil)))))))
theorem cells3 : Tryz.prog.cellsOf 3 = 0 + 1 := by kernel_rfl
theorem cells9 : Tryz.prog.cellsOf 9 = 0 + 1 := by kernel_rfl
theorem cells29 : Tryz.prog.cellsOf 29 = 0 + 1 := by kernel_rfl
theorem cells58 : Tryz.prog.cellsOf 58 = 0 + 1 := by kernel_rfl
theorem cells108 : Tryz.prog.cellsOf 108 = 3 + 1 := by kernel_rfl
theorem cells120 : Tryz.prog.cellsOf 120 = 7 + 1 := by kernel_rfl
theorem cells162 : Tryz.prog.cellsOf 162 = 6 + 1 := by kernel_rfl
def isGo24:=gg Tryz.func24
def isGo32:=gg Tryz.func32
def isGo45:=gg Tryz.func45
def isGo46:=gg Tryz.func46
def isGo48:=gg Tryz.func48
def isGo49:=gg Tryz.func49
def isGo50:=gg Tryz.func50
def isGo63:=gg Tryz.func63
def isGo64:=gg Tryz.func64
def isGo67:=gg Tryz.func67
def isGo68:=gg Tryz.func68
def isGo69:=gg Tryz.func69
def isGo74:=gg Tryz.func74
def isGo75:=gg Tryz.func75
def isGo78:=gg Tryz.func78
def isGo79:=gg Tryz.func79
def isGo80:=gg Tryz.func80
def isGo105:=gg Tryz.func105
def isGo116:=gg Tryz.func116
def isGo119:=gg Tryz.func119
theorem zero108 : ∃ i, Tryz.prog.info? 108 = some i ∧ i.zero = some (Value.agg #[(Value.int .i64 0), (Value.int .i64 0), (Value.int .i64 0), (Value.int .i64 0)]) := ⟨_, rfl, by kernel_rfl⟩
@[reducible,instance] def u65 := UT.mk Tryz.underlying65
@[reducible,instance] def c9 := CT.mk cells9
@[reducible,instance] def u9 := UT.mk Tryz.underlying9
@[reducible,instance] def z108 := ZI.mk zero108
@[reducible,instance] def c108 := CT.mk cells108
instance : ON encEvent := ⟨oneEvent⟩
@[reducible,instance] def c3 := CT.mk cells3
instance : FT Tryz.prog 108 2 2 3 := ⟨_, Tryz.underlying108, rfl⟩
@[reducible,instance] def u3 := UT.mk Tryz.underlying3
@[reducible,instance] def u108 := UT.mk Tryz.underlying108
instance : FT Tryz.prog 108 3 3 3 := ⟨_, Tryz.underlying108, rfl⟩
@[reducible,instance] def u29 := UT.mk Tryz.underlying29
instance : FT Tryz.prog 108 0 0 3 := ⟨_, Tryz.underlying108, rfl⟩
instance : FT Tryz.prog 108 1 1 3 := ⟨_, Tryz.underlying108, rfl⟩
instance : FT Tryz.prog 122 0 0 29 := ⟨_, Tryz.underlying122, rfl⟩
@[reducible,instance] def c29 := CT.mk cells29
instance : FT Tryz.prog 122 2 2 120 := ⟨_, Tryz.underlying122, rfl⟩
@[reducible,instance] def c120 := CT.mk cells120
instance : FT Tryz.prog 122 1 1 58 := ⟨_, Tryz.underlying122, rfl⟩
@[reducible,instance] def c58 := CT.mk cells58
@[reducible,instance] def u58 := UT.mk Tryz.underlying58
@[reducible,instance] def c162 := CT.mk cells162
instance : FT Tryz.prog 162 4 4 3 := ⟨_, Tryz.underlying162, rfl⟩
@[reducible,instance] def u31 := UT.mk Tryz.underlying31
instance : EN encEvent 4 := ⟨lenEvent⟩
theorem bz3 : ∃ i, Tryz.prog.info? 3 = some i ∧ i.zero = some (Value.int .i64 0) ∧ i.size = 1 := ⟨_, rfl, by kernel_rfl, by kernel_rfl⟩
theorem bz9 : ∃ i, Tryz.prog.info? 9 = some i ∧ i.zero = some (Value.string ⟨#[]⟩) ∧ i.size = 1 := ⟨_, rfl, by kernel_rfl, by kernel_rfl⟩
theorem bz108 : ∃ i, Tryz.prog.info? 108 = some i ∧ i.zero = some (Value.agg #[(Value.int .i64 0), (Value.int .i64 0), (Value.int .i64 0), (Value.int .i64 0)]) ∧ i.size = 4 := ⟨_, rfl, by kernel_rfl, by kernel_rfl⟩
theorem bz162 : ∃ i, Tryz.prog.info? 162 = some i ∧ i.zero = some (Value.agg #[(Value.int .i64 0), (Value.int .i64 0), (Value.int .i64 0), (Value.int .i64 0), (Value.int .i64 0), (Value.int .i64 0), (Value.int .i64 0)]) ∧ i.size = 7 := ⟨_, rfl, by kernel_rfl, by kernel_rfl⟩
theorem ap3 : ∃ i z, Tryz.prog.info? 3 = some i ∧ i.zero = some z ∧ i.size = 1 ∧ i.bytes = 8 ∧ z.cells.size = 1 ∧ 0 < 1 := ⟨_, (Value.int .i64 0), rfl, by kernel_rfl, by kernel_rfl, by kernel_rfl, by kernel_rfl, by decide⟩
theorem ap108 : ∃ i z, Tryz.prog.info? 108 = some i ∧ i.zero = some z ∧ i.size = 4 ∧ i.bytes = 32 ∧ z.cells.size = 4 ∧ 0 < 4 := ⟨_, (Value.agg #[(Value.int .i64 0), (Value.int .i64 0), (Value.int .i64 0), (Value.int .i64 0)]), rfl, by kernel_rfl, by kernel_rfl, by kernel_rfl, by kernel_rfl, by decide⟩
theorem ap162 : ∃ i z, Tryz.prog.info? 162 = some i ∧ i.zero = some z ∧ i.size = 7 ∧ i.bytes = 56 ∧ z.cells.size = 7 ∧ 0 < 7 := ⟨_, (Value.agg #[(Value.int .i64 0), (Value.int .i64 0), (Value.int .i64 0), (Value.int .i64 0), (Value.int .i64 0), (Value.int .i64 0), (Value.int .i64 0)]), rfl, by kernel_rfl, by kernel_rfl, by kernel_rfl, by kernel_rfl, by decide⟩
theorem shape108 : Shape Tryz.prog 108 [(0, 1), (1, 1), (2, 1), (3, 1)] #[(Value.int .i64 0), (Value.int .i64 0), (Value.int .i64 0), (Value.int .i64 0)] := ⟨_, _, Value.agg #[(Value.int .i64 0), (Value.int .i64 0), (Value.int .i64 0), (Value.int .i64 0)], Tryz.underlying108, rfl, by kernel_rfl, rfl, by kernel_rfl, by decide⟩
theorem shape122 : Shape Tryz.prog 122 [(0, 1), (1, 1), (2, 8)] #[(Value.slice none 0 0), (Value.slice none 0 0), (Value.int .i64 0), (Value.int .i64 0), (Value.int .i64 0), (Value.int .i64 0), (Value.int .i64 0), (Value.int .i64 0), (Value.int .i64 0), (Value.int .i64 0)] := ⟨_, _, Value.agg #[(Value.slice none 0 0), (Value.slice none 0 0), (Value.int .i64 0), (Value.int .i64 0), (Value.int .i64 0), (Value.int .i64 0), (Value.int .i64 0), (Value.int .i64 0), (Value.int .i64 0), (Value.int .i64 0)], Tryz.underlying122, rfl, by kernel_rfl, rfl, by kernel_rfl, by decide⟩
theorem shape162 : Shape Tryz.prog 162 [(0, 1), (1, 1), (2, 1), (3, 1), (4, 1), (5, 1), (6, 1)] #[(Value.int .i64 0), (Value.int .i64 0), (Value.int .i64 0), (Value.int .i64 0), (Value.int .i64 0), (Value.int .i64 0), (Value.int .i64 0)] := ⟨_, _, Value.agg #[(Value.int .i64 0), (Value.int .i64 0), (Value.int .i64 0), (Value.int .i64 0), (Value.int .i64 0), (Value.int .i64 0), (Value.int .i64 0)], Tryz.underlying162, rfl, by kernel_rfl, rfl, by kernel_rfl, by decide⟩
def shren : Go.Shelf.Ren := ⟨fun x => match x with | 129 => 176 | 171 => 48 | 243 => 77 | 246 => 118 | 283 => 151 | 284 => 152 | 285 => 153 | 286 => 154 | 317 => 175 | 318 => 177 | 319 => 178 | 320 => 179 | 337 => 203 | 338 => 204 | 172 => 116 | 205 => 202 | 244 => 149 | 245 => 150 | 247 => 170 | 279 => 171 | 280 => 172 | 281 => 173 | 282 => 174 | 287 => 200 | 316 => 201 | 321 => 222 | 322 => 223 | 138 => 10 | 143 => 29 | 146 => 32 | 195 => 27 | 197 => 145 | 217 => 100 | 218 => 28 | 219 => 60 | 221 => 61 | 224 => 102 | 225 => 101 | 260 => 169 | 266 => 143 | 267 => 103 | 268 => 104 | 314 => 144 | 100 => 12 | 207 => 30 | 99 => 13 | 206 => 31 | 103 => 33 | 210 => 62 | 144 => 39 | 166 => 47 | 240 => 76 | 276 => 117 | n => n, fun x => match x with | 37 => 49 | 46 => 176 | 51 => 255 | 53 => 263 | 171 => 262 | 173 => 266 | 212 => 285 | 213 => 286 | 232 => 329 | 233 => 330 | 75 => 113 | 76 => 114 | 80 => 57 | 85 => 279 | 127 => 117 | 143 => 326 | 145 => 328 | 167 => 278 | 168 => 281 | 175 => 307 | 210 => 310 | 31 => 65 | 105 => 258 | 119 => 303 | 138 => 305 | 139 => 306 | 146 => 256 | 24 => 27 | 70 => 48 | 72 => 51 | 164 => 210 | n => n, fun x => match x with | 17 => 1 | 18 => 6 | 19 => 7 | 15 => 4 | 16 => 5 | 1 => 0 | 3 => 2 | 4 => 3 | n => n⟩
abbrev GOkS (w : World) : Prop := GOk Tryz.prog 4 5 0 w

theorem lay_LaysM_n146 : LaysM.n146 Tryz.prog shren where
  mixed := by kernel_rfl
  f138 := Tryz.func10.trans (congrArg some (by kernel_rfl))
  f143 := Tryz.func29.trans (congrArg some (by kernel_rfl))
  f146 := Tryz.func32.trans (congrArg some (by kernel_rfl))
  f195 := Tryz.func27.trans (congrArg some (by kernel_rfl))
  f197 := Tryz.func145.trans (congrArg some (by kernel_rfl))
  f217 := Tryz.func100.trans (congrArg some (by kernel_rfl))
  f218 := Tryz.func28.trans (congrArg some (by kernel_rfl))
  f219 := Tryz.func60.trans (congrArg some (by kernel_rfl))
  f221 := Tryz.func61.trans (congrArg some (by kernel_rfl))
  f224 := Tryz.func102.trans (congrArg some (by kernel_rfl))
  f225 := Tryz.func101.trans (congrArg some (by kernel_rfl))
  f260 := Tryz.func169.trans (congrArg some (by kernel_rfl))
  f266 := Tryz.func143.trans (congrArg some (by kernel_rfl))
  f267 := Tryz.func103.trans (congrArg some (by kernel_rfl))
  f268 := Tryz.func104.trans (congrArg some (by kernel_rfl))
  f314 := Tryz.func144.trans (congrArg some (by kernel_rfl))
  t0 := Tryz.underlying0
  a0 := Tryz.isAgg0
  z0 := Tryz.sizeOf0
  v0 := Tryz.zeroValue0
  t3 := Tryz.underlying3
  a3 := Tryz.isAgg3
  z3 := Tryz.sizeOf3
  v3 := Tryz.zeroValue3
  t4 := Tryz.underlying4
  a4 := Tryz.isAgg4
  z4 := Tryz.sizeOf4
  v4 := Tryz.zeroValue4
  t5 := Tryz.underlying5
  a5 := Tryz.isAgg5
  z5 := Tryz.sizeOf5
  v5 := Tryz.zeroValue5
  t9 := Tryz.underlying9
  a9 := Tryz.isAgg9
  z9 := Tryz.sizeOf9
  v9 := Tryz.zeroValue9
  t21 := Tryz.underlying21
  a21 := Tryz.isAgg21
  z21 := Tryz.sizeOf21
  v21 := Tryz.zeroValue21
  t31 := Tryz.underlying65
  a31 := Tryz.isAgg65
  z31 := Tryz.sizeOf65
  v31 := Tryz.zeroValue65
  t46 := Tryz.underlying176
  a46 := Tryz.isAgg176
  z46 := Tryz.sizeOf176
  v46 := Tryz.zeroValue176
  t51 := Tryz.underlying255
  a51 := Tryz.isAgg255
  z51 := Tryz.sizeOf255
  v51 := Tryz.zeroValue255
  t105 := Tryz.underlying258
  a105 := Tryz.isAgg258
  z105 := Tryz.sizeOf258
  v105 := Tryz.zeroValue258
  t119 := Tryz.underlying303
  a119 := Tryz.isAgg303
  z119 := Tryz.sizeOf303
  t138 := Tryz.underlying305
  a138 := Tryz.isAgg305
  z138 := Tryz.sizeOf305
  v138 := Tryz.zeroValue305
  t139 := Tryz.underlying306
  a139 := Tryz.isAgg306
  z139 := Tryz.sizeOf306
  v139 := Tryz.zeroValue306
  t146 := Tryz.underlying256
  a146 := Tryz.isAgg256
  z146 := Tryz.sizeOf256
  v146 := Tryz.zeroValue256
  g1 := by kernel_rfl
  g3 := by kernel_rfl
  g4 := by kernel_rfl
  i0 := by kernel_rfl
  i3 := by kernel_rfl
  i4 := by kernel_rfl
  i5 := by kernel_rfl
  i9 := by kernel_rfl
  i21 := by kernel_rfl
  i31 := by kernel_rfl
  i46 := by kernel_rfl
  i51 := by kernel_rfl
  i105 := by kernel_rfl
  i138 := by kernel_rfl
  i139 := by kernel_rfl
  i146 := by kernel_rfl
  m1 := by kernel_rfl
  s1_3 := fun w h => Go.Proofs.cell_of_shapedOpen_int (zero := #[.int .i64 0]) (t := 3) h (of_decide_eq_true (by kernel_rfl)) (by kernel_rfl) rfl (by kernel_rfl) (by kernel_rfl) Tryz.underlying3
  m3 := by kernel_rfl
  m4 := by kernel_rfl

theorem strings_Split_ok {N : Nat} {sI1 pI2 : ByteArray} {res : List ByteArray} (hF : splitO N sI1 pI2 = some res) (w : World) (hG : GOkS w) : Made Tryz.prog 32 [.string sI1, .string pI2] w (fun g : (Option Addr × Nat) => .slice g.1 (res).length g.2) (fun g => [cR eS 1 g.1 g.2 9 res]) (fun g => True) := split_made lay_LaysM_n146 hF w hG

def text_typeWords (N:Nat):Option Unit:=some ()
theorem text_typeWords_ok {N res} (hF:text_typeWords N = some res) (w:World):Made Tryz.prog 67 [] w (fun g:Option Addr=>.slice g (([(⟨#[]⟩ : ByteArray),(⟨#[114,101,103]⟩ : ByteArray),(⟨#[113,117,101,117,101]⟩ : ByteArray),(⟨#[115,116,97,99,107]⟩ : ByteArray),(⟨#[115,101,116]⟩ : ByteArray),(⟨#[116,105,99,107,101,116]⟩ : ByteArray)]:List ByteArray)).length (([(⟨#[]⟩ : ByteArray),(⟨#[114,101,103]⟩ : ByteArray),(⟨#[113,117,101,117,101]⟩ : ByteArray),(⟨#[115,116,97,99,107]⟩ : ByteArray),(⟨#[115,101,116]⟩ : ByteArray),(⟨#[116,105,99,107,101,116]⟩ : ByteArray)]:List ByteArray)).length) (fun g=>[cR eS 1 g (([(⟨#[]⟩ : ByteArray),(⟨#[114,101,103]⟩ : ByteArray),(⟨#[113,117,101,117,101]⟩ : ByteArray),(⟨#[115,116,97,99,107]⟩ : ByteArray),(⟨#[115,101,116]⟩ : ByteArray),(⟨#[116,105,99,107,101,116]⟩ : ByteArray)]:List ByteArray)).length 9 ([(⟨#[]⟩ : ByteArray),(⟨#[114,101,103]⟩ : ByteArray),(⟨#[113,117,101,117,101]⟩ : ByteArray),(⟨#[115,116,97,99,107]⟩ : ByteArray),(⟨#[115,101,116]⟩ : ByteArray),(⟨#[116,105,99,107,101,116]⟩ : ByteArray)]:List ByteArray)]) (fun g=>True):=by
  refine We 2 Tryz.func67 (St.start w) fun R hR=>?_;refine a_ ?_;refine WL.step (WO.bsliceC (enc:=eS) (ys:=([(⟨#[]⟩ : ByteArray),(⟨#[114,101,103]⟩ : ByteArray),(⟨#[113,117,101,117,101]⟩ : ByteArray),(⟨#[115,116,97,99,107]⟩ : ByteArray),(⟨#[115,101,116]⟩ : ByteArray),(⟨#[116,105,99,107,101,116]⟩ : ByteArray)]:List ByteArray)) Tryz.underlying65 bz9 (.cons (.pl rfl) (.cons (.pl rfl) (.cons (.pl rfl) (.cons (.pl rfl) (.cons (.pl rfl) (.cons (.pl rfl) (.nil))))))) rfl (fun _=>rfl) rfl rfl (by decide) (by decide) rfl fun b1=>?_);obtain rfl:=oi hF;refine a_ ?_;exact rG (some (Addr.mk b1 0 none))
def slices_Index_string_string_L3 (N:Nat) (s1:(List ByteArray)) (v6:ByteArray):Int→Option (Int ⊕ (Unit ⊕ Int)) | v7=>cond (decide (v7 < ((s1).length:Int))) (bd (ix s1 v7) fun x8=>cond (decide (v6 = x8)) (some (.inr (.inr v7))) (ck (ok64 (v7 + 1)) <| some (.inl (v7 + 1)))) (some (.inr (.inl ())))
def slices_Index_string_string (N:Nat) (s1:(List ByteArray)) (v6:ByteArray):Option Int:=bd (α:=(Unit ⊕ Int)) (iter (slices_Index_string_string_L3 N s1 v6) N 0) <| Sum.elim (fun _=>some (-1)) (fun p=>some p)
theorem slices_Index_string_string_ok {N s1 v6 res} (hF:slices_Index_string_string N s1 v6 = some res) (w:World) {v5} (hs4:SlIn eS 1 w v5 s1):Pure Tryz.prog 74 [v5,.string v6] w (.int .i64 res):=by
  obtain ⟨A2,c3,rfl,hcc3,hs4⟩:=hs4.form;refine We 19 Tryz.func74 (St.start w) fun R hR=>?_;obtain ⟨o2,hF2,hF⟩:=bnd hF;refine b_ ?_;refine W.join0 [] [] ((.inl ()) = o2) (.nil) (fun K3 hK3=>?_) ?_
  · refine a_ ?_;refine l1_0 hF2 (fun a=>[(8,.int .i64 a)]) (fun a=>[]) (ks3 0 1 7) fun v7 k5 t5 hF5 hN5 K6 hK6=>?_;refine a_ ?_;refine Wc hF5 (fun hC9 hF5=>?_) (fun hC9 hF5=>?_)
    · obtain ⟨x8,hx8,hF5⟩:=bnd hF5;refine a_ ?_;refine WL.q (Y.eqlT Tryz.underlying9 (.pl rfl) (.pl rfl)) rfl ?_;refine a_ ?_;refine Wc hF5 (fun hC13 hF5=>?_) (fun hC13 hF5=>?_)
      · obtain rfl:=oi hF5;obtain rfl:=einr hN5;obtain rfl:=oi hF;refine a_ ?_;exact rP
      · obtain ⟨hk9,hF5⟩:=ckh hF5;refine a_ ?_;exact g1 hK6 (oj hF5 hN5)
    · refine a_ ?_;exact h0 hK3 (oj hF5 hN5)
  · rintro  rfl;obtain rfl:=oi hF;refine a_ ?_;exact rP
def text_things_L3 (N:Nat) (r2:(List ByteArray)):((List Int) × Int)→Option (((List Int) × Int) ⊕ ((List Int) ⊕ ((List Int) × Bool))) | (out12,v13)=>cond (decide (v13 < (((r2.drop (1:Int).toNat)).length:Int))) (bd (ix (r2.drop (1:Int).toNat) v13) fun x14=>bd (text_typeWords N) fun r15=>bd (slices_Index_string_string N ([(⟨#[]⟩ : ByteArray),(⟨#[114,101,103]⟩ : ByteArray),(⟨#[113,117,101,117,101]⟩ : ByteArray),(⟨#[115,116,97,99,107]⟩ : ByteArray),(⟨#[115,101,116]⟩ : ByteArray),(⟨#[116,105,99,107,101,116]⟩ : ByteArray)]:List ByteArray) x14) fun r17=>cond (decide (r17 < 1)) (some (.inr (.inr ([],false)))) (ck (limB 8 ((out12).length + (([r17]:List Int)).length)) <| ck (ok64 (v13 + 1)) <| some (.inl ((out12++([r17]:List Int)),(v13 + 1))))) (some (.inr (.inl out12)))
def text_things (N:Nat) (line1:ByteArray):Option ((List Int) × Bool):=bd (splitO N line1 (⟨#[32]⟩ : ByteArray)) fun r2=>bd (ix r2 0) fun x5=>cond (((!(decide (x5 = (⟨#[116,104,105,110,103,115]⟩ : ByteArray))))||(decide (((r2).length:Int) < 2)))||(decide (5 < ((r2).length:Int)))) (some ([],false)) (bd (α:=((List Int) ⊕ ((List Int) × Bool))) (ck (slB (r2).length 1 ((r2).length:Int)) <| iter (text_things_L3 N r2) N ([],0)) <| Sum.elim (fun out8=>some (out8,true)) (fun p=>some p))
theorem text_things_ok {N line1 res} (hF:text_things N line1 = some res) (w:World) (hG:GOkS w):Made Tryz.prog 45 [.string line1] w (fun g:(Option Addr × Nat)=>.tuple #[.slice g.1 (res.1).length g.2,.bool res.2]) (fun g=>[cR (eI .i64) 1 g.1 g.2 3 res.1]) (fun g=>True):=by
  refine We 43 Tryz.func45 (St.start w) fun R hR=>?_;obtain ⟨r2,hr2,hF⟩:=bnd hF;refine a_ ?_;refine kM isGo32 (v2 rfl rfl) (fun wz hw=>strings_Split_ok hr2 wz (hG.mono hw)) ?_;rintro ⟨AI3,cI4⟩ -;obtain ⟨x5,hx5,hF⟩:=bnd hF;refine a_ ?_;refine WL.q (Y.neqT Tryz.underlying9 (.pl rfl) (.pl rfl)) rfl ?_;refine a_ ?_;refine Wc hF (fun hC5 hF=>?_) (fun hC5 hF=>?_)
  · obtain rfl:=oi hF;refine a_ ?_;exact rG (none,0)
  · obtain ⟨o8,hF8,hF⟩:=bnd hF;refine b_ ?_;refine W.join3 (fun a b c=>[(5,.slice b (a).length c)]) (fun a b c=>[cR (eI .i64) 1 b c 3 a]) (fun a b c=>(.inl a) = o8) (.nil) (fun K9 hK9=>?_) ?_
    · obtain ⟨hk9,hF8⟩:=ckh hF8;refine a_ ?_;refine WL.q (Y.sliceR1 Tryz.underlying65 cells9 (i:=0) rfl (.pl rfl) rfl (.pl rfl) (hk9)) rfl ?_;refine a_ ?_;refine l2_2 hF8 (fun a b c d=>[(5,.slice c (a).length d),(28,.int .i64 b)]) (fun a b c d=>[cR (eI .i64) 1 c d 3 a,cR eS 1 AI3 cI4 9 r2]) (ks2 26 27) fun out12 v13 A10 c11 k11 t11 hF11 hN11 K12 hK12=>?_;refine a_ ?_;refine Wc hF11 (fun hC15 hF11=>?_) (fun hC15 hF11=>?_)
      · obtain ⟨x14,hx14,hF11⟩:=bnd hF11;refine a_ ?_;refine WL.q (Y.viewEl (xs:=r2) Tryz.underlying65 cells9 (i:=1) rfl (.pl rfl) (.pl rfl) (slB_le (hk9)).1 (ix_lt (hx14)) (ix_lt (ix_view1 (slB_le (hk9)).1 (hx14))).2) rfl ?_;refine WL.q (Y.loadR (enc:=eS) (v:=.string x14) (a:=x14) (idx:=(1 + v13)) (j:=0) Tryz.underlying9 rfl (fun _=>rfl) (i:=1) rfl (.pl rfl) (ix_get (ix_view1 (slB_le (hk9)).1 (hx14))) rfl rfl) rfl ?_;obtain ⟨r15,hr15,hF11⟩:=bnd hF11;refine a_ ?_;refine kM isGo67 v0 (fun wz hw=>text_typeWords_ok hr15 wz) ?_;rintro A16 -;obtain ⟨r17,hr17,hF11⟩:=bnd hF11;refine a_ ?_;refine kP isGo74 (v2 rfl rfl) (fun wz hw=>slices_Index_string_string_ok hr17 wz (so hw)) ?_;refine a_ ?_;refine Wc hF11 (fun hC21 hF11=>?_) (fun hC21 hF11=>?_)
        · obtain rfl:=oi hF11;obtain rfl:=einr hN11;obtain rfl:=oi hF;refine a_ ?_;exact rG (none,0)
        · refine a_ ?_;refine WL.step (WO.bsliceC (enc:=(eI .i64)) (ys:=([r17]:List Int)) Tryz.underlying29 bz3 (.cons (.pl rfl) (.nil)) rfl (fun _=>rfl) rfl rfl (by decide) (by decide) rfl fun b18=>?_);obtain ⟨hk21,hF11⟩:=ckh hF11;refine WL.step (WO.appendC (enc:=(eI .i64)) Tryz.underlying29 ap3 (fun _=>rfl) oneI (.pl rfl) rfl (.pl rfl) (i:=2) rfl (m2:=0) rfl (hk21) rfl fun A19 c20=>?_);obtain ⟨hk22,hF11⟩:=ckh hF11;refine a_ ?_;exact g4 hK12 (oj hF11 hN11)
      · refine a_ ?_;exact h3 hK9 (oj hF11 hN11)
    · rintro out8 A6 c7 rfl;obtain rfl:=oi hF;refine a_ ?_;exact rG (A6,c7)
theorem lay_LaysC_n172 : LaysC.n172 Tryz.prog shren where
  mixed := by kernel_rfl
  f129 := Tryz.func176.trans (congrArg some (by kernel_rfl))
  f171 := Tryz.func48.trans (congrArg some (by kernel_rfl))
  f172 := Tryz.func116.trans (congrArg some (by kernel_rfl))
  f205 := Tryz.func202.trans (congrArg some (by kernel_rfl))
  f243 := Tryz.func77.trans (congrArg some (by kernel_rfl))
  f244 := Tryz.func149.trans (congrArg some (by kernel_rfl))
  f245 := Tryz.func150.trans (congrArg some (by kernel_rfl))
  f246 := Tryz.func118.trans (congrArg some (by kernel_rfl))
  f247 := Tryz.func170.trans (congrArg some (by kernel_rfl))
  f279 := Tryz.func171.trans (congrArg some (by kernel_rfl))
  f280 := Tryz.func172.trans (congrArg some (by kernel_rfl))
  f281 := Tryz.func173.trans (congrArg some (by kernel_rfl))
  f282 := Tryz.func174.trans (congrArg some (by kernel_rfl))
  f283 := Tryz.func151.trans (congrArg some (by kernel_rfl))
  f284 := Tryz.func152.trans (congrArg some (by kernel_rfl))
  f285 := Tryz.func153.trans (congrArg some (by kernel_rfl))
  f286 := Tryz.func154.trans (congrArg some (by kernel_rfl))
  f287 := Tryz.func200.trans (congrArg some (by kernel_rfl))
  f316 := Tryz.func201.trans (congrArg some (by kernel_rfl))
  f317 := Tryz.func175.trans (congrArg some (by kernel_rfl))
  f318 := Tryz.func177.trans (congrArg some (by kernel_rfl))
  f319 := Tryz.func178.trans (congrArg some (by kernel_rfl))
  f320 := Tryz.func179.trans (congrArg some (by kernel_rfl))
  f321 := Tryz.func222.trans (congrArg some (by kernel_rfl))
  f322 := Tryz.func223.trans (congrArg some (by kernel_rfl))
  f337 := Tryz.func203.trans (congrArg some (by kernel_rfl))
  f338 := Tryz.func204.trans (congrArg some (by kernel_rfl))
  t0 := Tryz.underlying0
  a0 := Tryz.isAgg0
  z0 := Tryz.sizeOf0
  v0 := Tryz.zeroValue0
  t2 := Tryz.underlying2
  a2 := Tryz.isAgg2
  z2 := Tryz.sizeOf2
  v2 := Tryz.zeroValue2
  t3 := Tryz.underlying3
  a3 := Tryz.isAgg3
  z3 := Tryz.sizeOf3
  v3 := Tryz.zeroValue3
  t4 := Tryz.underlying4
  a4 := Tryz.isAgg4
  z4 := Tryz.sizeOf4
  v4 := Tryz.zeroValue4
  t5 := Tryz.underlying5
  a5 := Tryz.isAgg5
  z5 := Tryz.sizeOf5
  v5 := Tryz.zeroValue5
  t9 := Tryz.underlying9
  a9 := Tryz.isAgg9
  z9 := Tryz.sizeOf9
  v9 := Tryz.zeroValue9
  t20 := Tryz.underlying20
  a20 := Tryz.isAgg20
  z20 := Tryz.sizeOf20
  v20 := Tryz.zeroValue20
  t21 := Tryz.underlying21
  a21 := Tryz.isAgg21
  z21 := Tryz.sizeOf21
  v21 := Tryz.zeroValue21
  t37 := Tryz.underlying49
  a37 := Tryz.isAgg49
  z37 := Tryz.sizeOf49
  v37 := Tryz.zeroValue49
  t46 := Tryz.underlying176
  a46 := Tryz.isAgg176
  z46 := Tryz.sizeOf176
  v46 := Tryz.zeroValue176
  t51 := Tryz.underlying255
  a51 := Tryz.isAgg255
  z51 := Tryz.sizeOf255
  v51 := Tryz.zeroValue255
  t53 := Tryz.underlying263
  a53 := Tryz.isAgg263
  z53 := Tryz.sizeOf263
  v53 := Tryz.zeroValue263
  t75 := Tryz.underlying113
  a75 := Tryz.isAgg113
  z75 := Tryz.sizeOf113
  v75 := Tryz.zeroValue113
  t76 := Tryz.underlying114
  a76 := Tryz.isAgg114
  z76 := Tryz.sizeOf114
  v76 := Tryz.zeroValue114
  t85 := Tryz.underlying279
  a85 := Tryz.isAgg279
  z85 := Tryz.sizeOf279
  v85 := Tryz.zeroValue279
  t127 := Tryz.underlying117
  a127 := Tryz.isAgg117
  z127 := Tryz.sizeOf117
  v127 := Tryz.zeroValue117
  t143 := Tryz.underlying326
  a143 := Tryz.isAgg326
  z143 := Tryz.sizeOf326
  v143 := Tryz.zeroValue326
  t145 := Tryz.underlying328
  a145 := Tryz.isAgg328
  z145 := Tryz.sizeOf328
  v145 := Tryz.zeroValue328
  t167 := Tryz.underlying278
  a167 := Tryz.isAgg278
  z167 := Tryz.sizeOf278
  v167 := Tryz.zeroValue278
  t168 := Tryz.underlying281
  a168 := Tryz.isAgg281
  z168 := Tryz.sizeOf281
  v168 := Tryz.zeroValue281
  t171 := Tryz.underlying262
  a171 := Tryz.isAgg262
  z171 := Tryz.sizeOf262
  v171 := Tryz.zeroValue262
  t173 := Tryz.underlying266
  a173 := Tryz.isAgg266
  z173 := Tryz.sizeOf266
  v173 := Tryz.zeroValue266
  t175 := Tryz.underlying307
  a175 := Tryz.isAgg307
  z175 := Tryz.sizeOf307
  v175 := Tryz.zeroValue307
  t210 := Tryz.underlying310
  a210 := Tryz.isAgg310
  z210 := Tryz.sizeOf310
  v210 := Tryz.zeroValue310
  t212 := Tryz.underlying285
  a212 := Tryz.isAgg285
  z212 := Tryz.sizeOf285
  v212 := Tryz.zeroValue285
  t213 := Tryz.underlying286
  a213 := Tryz.isAgg286
  z213 := Tryz.sizeOf286
  t232 := Tryz.underlying329
  a232 := Tryz.isAgg329
  z232 := Tryz.sizeOf329
  v232 := Tryz.zeroValue329
  t233 := Tryz.underlying330
  a233 := Tryz.isAgg330
  z233 := Tryz.sizeOf330
  v233 := Tryz.zeroValue330
  g15 := by kernel_rfl
  g16 := by kernel_rfl
  g17 := by kernel_rfl
  g18 := by kernel_rfl
  g19 := by kernel_rfl
  t80 := Tryz.underlying57
  a80 := Tryz.isAgg57
  z80 := Tryz.sizeOf57
  v80 := Tryz.zeroValue57
  i0 := by kernel_rfl
  i2 := by kernel_rfl
  i3 := by kernel_rfl
  i4 := by kernel_rfl
  i5 := by kernel_rfl
  i9 := by kernel_rfl
  i20 := by kernel_rfl
  i21 := by kernel_rfl
  i37 := by kernel_rfl
  i46 := by kernel_rfl
  i51 := by kernel_rfl
  i53 := by kernel_rfl
  i75 := by kernel_rfl
  i76 := by kernel_rfl
  i80 := by kernel_rfl
  i85 := by kernel_rfl
  i127 := by kernel_rfl
  i143 := by kernel_rfl
  i145 := by kernel_rfl
  i167 := by kernel_rfl
  i168 := by kernel_rfl
  i171 := by kernel_rfl
  i173 := by kernel_rfl
  i175 := by kernel_rfl
  i210 := by kernel_rfl
  i212 := by kernel_rfl
  i232 := by kernel_rfl
  i233 := by kernel_rfl
  m15 := by kernel_rfl
  m16 := by kernel_rfl
  m17 := by kernel_rfl
  m18 := by kernel_rfl
  m19 := by kernel_rfl
  c0 := by kernel_rfl
  c2 := by kernel_rfl
  c3 := by kernel_rfl
  c4 := by kernel_rfl
  c5 := by kernel_rfl
  c9 := by kernel_rfl
  c20 := by kernel_rfl
  c21 := by kernel_rfl
  c37 := by kernel_rfl
  c46 := by kernel_rfl
  c51 := by kernel_rfl
  c53 := by kernel_rfl
  c75 := by kernel_rfl
  c76 := by kernel_rfl
  c80 := by kernel_rfl
  c85 := by kernel_rfl
  c127 := by kernel_rfl
  c143 := by kernel_rfl
  c145 := by kernel_rfl
  c167 := by kernel_rfl
  c168 := by kernel_rfl
  c171 := by kernel_rfl
  c173 := by kernel_rfl
  c175 := by kernel_rfl
  c210 := by kernel_rfl
  c212 := by kernel_rfl
  c213 := by kernel_rfl
  c232 := by kernel_rfl
  c233 := by kernel_rfl

theorem strconv_Atoi_ok {N : Nat} {sI1 : ByteArray} {res : Int × Bool} (hF : atoiO N sI1 = some res) (w : World) (hG : GOkS w) : Made Tryz.prog 116 [.string sI1] w (fun g : TypeId × Value => .tuple #[.int .i64 res.1, (errV res.2 g)]) (fun g => []) (fun g => True) := atoi_made lay_LaysC_n172 hF w hG

theorem lay_LaysM_n171 : LaysM.n171 Tryz.prog shren where
  mixed := by kernel_rfl
  f129 := Tryz.func176.trans (congrArg some (by kernel_rfl))
  f171 := Tryz.func48.trans (congrArg some (by kernel_rfl))
  f243 := Tryz.func77.trans (congrArg some (by kernel_rfl))
  f246 := Tryz.func118.trans (congrArg some (by kernel_rfl))
  f283 := Tryz.func151.trans (congrArg some (by kernel_rfl))
  f284 := Tryz.func152.trans (congrArg some (by kernel_rfl))
  f285 := Tryz.func153.trans (congrArg some (by kernel_rfl))
  f286 := Tryz.func154.trans (congrArg some (by kernel_rfl))
  f317 := Tryz.func175.trans (congrArg some (by kernel_rfl))
  f318 := Tryz.func177.trans (congrArg some (by kernel_rfl))
  f319 := Tryz.func178.trans (congrArg some (by kernel_rfl))
  f320 := Tryz.func179.trans (congrArg some (by kernel_rfl))
  f337 := Tryz.func203.trans (congrArg some (by kernel_rfl))
  f338 := Tryz.func204.trans (congrArg some (by kernel_rfl))
  t0 := Tryz.underlying0
  a0 := Tryz.isAgg0
  z0 := Tryz.sizeOf0
  v0 := Tryz.zeroValue0
  t2 := Tryz.underlying2
  a2 := Tryz.isAgg2
  z2 := Tryz.sizeOf2
  v2 := Tryz.zeroValue2
  t3 := Tryz.underlying3
  a3 := Tryz.isAgg3
  z3 := Tryz.sizeOf3
  v3 := Tryz.zeroValue3
  t4 := Tryz.underlying4
  a4 := Tryz.isAgg4
  z4 := Tryz.sizeOf4
  v4 := Tryz.zeroValue4
  t5 := Tryz.underlying5
  a5 := Tryz.isAgg5
  z5 := Tryz.sizeOf5
  v5 := Tryz.zeroValue5
  t9 := Tryz.underlying9
  a9 := Tryz.isAgg9
  z9 := Tryz.sizeOf9
  v9 := Tryz.zeroValue9
  t20 := Tryz.underlying20
  a20 := Tryz.isAgg20
  z20 := Tryz.sizeOf20
  v20 := Tryz.zeroValue20
  t37 := Tryz.underlying49
  a37 := Tryz.isAgg49
  z37 := Tryz.sizeOf49
  v37 := Tryz.zeroValue49
  t46 := Tryz.underlying176
  a46 := Tryz.isAgg176
  z46 := Tryz.sizeOf176
  v46 := Tryz.zeroValue176
  t51 := Tryz.underlying255
  a51 := Tryz.isAgg255
  z51 := Tryz.sizeOf255
  v51 := Tryz.zeroValue255
  t53 := Tryz.underlying263
  a53 := Tryz.isAgg263
  z53 := Tryz.sizeOf263
  v53 := Tryz.zeroValue263
  t171 := Tryz.underlying262
  a171 := Tryz.isAgg262
  z171 := Tryz.sizeOf262
  v171 := Tryz.zeroValue262
  t173 := Tryz.underlying266
  a173 := Tryz.isAgg266
  z173 := Tryz.sizeOf266
  v173 := Tryz.zeroValue266
  t212 := Tryz.underlying285
  a212 := Tryz.isAgg285
  z212 := Tryz.sizeOf285
  v212 := Tryz.zeroValue285
  t213 := Tryz.underlying286
  a213 := Tryz.isAgg286
  z213 := Tryz.sizeOf286
  t232 := Tryz.underlying329
  a232 := Tryz.isAgg329
  z232 := Tryz.sizeOf329
  v232 := Tryz.zeroValue329
  t233 := Tryz.underlying330
  a233 := Tryz.isAgg330
  z233 := Tryz.sizeOf330
  v233 := Tryz.zeroValue330
  g17 := by kernel_rfl
  g18 := by kernel_rfl
  g19 := by kernel_rfl
  i0 := by kernel_rfl
  i2 := by kernel_rfl
  i3 := by kernel_rfl
  i4 := by kernel_rfl
  i5 := by kernel_rfl
  i9 := by kernel_rfl
  i20 := by kernel_rfl
  i37 := by kernel_rfl
  i46 := by kernel_rfl
  i51 := by kernel_rfl
  i53 := by kernel_rfl
  i171 := by kernel_rfl
  i173 := by kernel_rfl
  i212 := by kernel_rfl
  i232 := by kernel_rfl
  i233 := by kernel_rfl
  m17 := by kernel_rfl
  m18 := by kernel_rfl
  m19 := by kernel_rfl

theorem strconv_Itoa_ok {N : Nat} {nI1 : Int} {res : ByteArray} (hF : itoaO N nI1 = some res) (w : World) (hG : GOkS w) : Pure Tryz.prog 48 [.int .i64 nI1] w (.string res) := itoa_pure lay_LaysM_n171 hF w hG

def text_number (N:Nat) (s1:ByteArray):Option (Int × Bool):=bd (atoiO N s1) fun r2=>bd ((cond ((!r2.2) == true) (itoaO N r2.1) (some ⟨#[]⟩))) fun r4=>some (r2.1,((((!r2.2)&&(decide (r4 = s1)))&&(decide ((-1000000) ≤ r2.1)))&&(decide (r2.1 ≤ 1000000))))
theorem text_number_ok {N s1 res} (hF:text_number N s1 = some res) (w:World) (hG:GOkS w):Pure Tryz.prog 75 [.string s1] w (.tuple #[.int .i64 res.1,.bool res.2]):=by
  refine We 28 Tryz.func75 (St.start w) fun R hR=>?_;obtain ⟨r2,hr2,hF⟩:=bnd hF;refine a_ ?_;refine kM isGo116 (v1 rfl) (fun wz hw=>strconv_Atoi_ok hr2 wz (hG.mono hw)) ?_;rintro gI3 -;refine a_ ?_;refine WL.q (Y.eqNilE Tryz.underlying113 (.pl rfl)) rfl ?_;obtain ⟨r4,hr4,hF⟩:=bnd hF;refine a_ ?_;refine WL.gP (.pl rfl rfl rfl) isGo48 (fun hg=>(.cons (.gd (hg) rfl) (.nil))) rfl (fun hg wz hw=>strconv_Itoa_ok (gpos hg hr4) wz (hG.mono hw)) ?_;refine a_ ?_;refine WL.g (.pl rfl rfl rfl) (fun hg=>Y.eqlT Tryz.underlying9 (.gd (hg) rfl) (.gd (hg) rfl)) rfl ?_;obtain rfl:=oi hF;refine a_ ?_;exact rP
def text_kindWords (N:Nat):Option Unit:=some ()
theorem text_kindWords_ok {N res} (hF:text_kindWords N = some res) (w:World):Made Tryz.prog 68 [] w (fun g:Option Addr=>.slice g (([(⟨#[101,110,100]⟩ : ByteArray),(⟨#[119,114,105,116,101]⟩ : ByteArray),(⟨#[114,101,97,100]⟩ : ByteArray),(⟨#[101,110,113]⟩ : ByteArray),(⟨#[100,101,113]⟩ : ByteArray),(⟨#[112,117,115,104]⟩ : ByteArray),(⟨#[112,111,112]⟩ : ByteArray),(⟨#[97,100,100]⟩ : ByteArray),(⟨#[114,101,109,111,118,101]⟩ : ByteArray),(⟨#[104,97,115]⟩ : ByteArray),(⟨#[116,97,107,101]⟩ : ByteArray)]:List ByteArray)).length (([(⟨#[101,110,100]⟩ : ByteArray),(⟨#[119,114,105,116,101]⟩ : ByteArray),(⟨#[114,101,97,100]⟩ : ByteArray),(⟨#[101,110,113]⟩ : ByteArray),(⟨#[100,101,113]⟩ : ByteArray),(⟨#[112,117,115,104]⟩ : ByteArray),(⟨#[112,111,112]⟩ : ByteArray),(⟨#[97,100,100]⟩ : ByteArray),(⟨#[114,101,109,111,118,101]⟩ : ByteArray),(⟨#[104,97,115]⟩ : ByteArray),(⟨#[116,97,107,101]⟩ : ByteArray)]:List ByteArray)).length) (fun g=>[cR eS 1 g (([(⟨#[101,110,100]⟩ : ByteArray),(⟨#[119,114,105,116,101]⟩ : ByteArray),(⟨#[114,101,97,100]⟩ : ByteArray),(⟨#[101,110,113]⟩ : ByteArray),(⟨#[100,101,113]⟩ : ByteArray),(⟨#[112,117,115,104]⟩ : ByteArray),(⟨#[112,111,112]⟩ : ByteArray),(⟨#[97,100,100]⟩ : ByteArray),(⟨#[114,101,109,111,118,101]⟩ : ByteArray),(⟨#[104,97,115]⟩ : ByteArray),(⟨#[116,97,107,101]⟩ : ByteArray)]:List ByteArray)).length 9 ([(⟨#[101,110,100]⟩ : ByteArray),(⟨#[119,114,105,116,101]⟩ : ByteArray),(⟨#[114,101,97,100]⟩ : ByteArray),(⟨#[101,110,113]⟩ : ByteArray),(⟨#[100,101,113]⟩ : ByteArray),(⟨#[112,117,115,104]⟩ : ByteArray),(⟨#[112,111,112]⟩ : ByteArray),(⟨#[97,100,100]⟩ : ByteArray),(⟨#[114,101,109,111,118,101]⟩ : ByteArray),(⟨#[104,97,115]⟩ : ByteArray),(⟨#[116,97,107,101]⟩ : ByteArray)]:List ByteArray)]) (fun g=>True):=by
  refine We 2 Tryz.func68 (St.start w) fun R hR=>?_;refine a_ ?_;refine WL.step (WO.bsliceC (enc:=eS) (ys:=([(⟨#[101,110,100]⟩ : ByteArray),(⟨#[119,114,105,116,101]⟩ : ByteArray),(⟨#[114,101,97,100]⟩ : ByteArray),(⟨#[101,110,113]⟩ : ByteArray),(⟨#[100,101,113]⟩ : ByteArray),(⟨#[112,117,115,104]⟩ : ByteArray),(⟨#[112,111,112]⟩ : ByteArray),(⟨#[97,100,100]⟩ : ByteArray),(⟨#[114,101,109,111,118,101]⟩ : ByteArray),(⟨#[104,97,115]⟩ : ByteArray),(⟨#[116,97,107,101]⟩ : ByteArray)]:List ByteArray)) Tryz.underlying65 bz9 (.cons (.pl rfl) (.cons (.pl rfl) (.cons (.pl rfl) (.cons (.pl rfl) (.cons (.pl rfl) (.cons (.pl rfl) (.cons (.pl rfl) (.cons (.pl rfl) (.cons (.pl rfl) (.cons (.pl rfl) (.cons (.pl rfl) (.nil)))))))))))) rfl (fun _=>rfl) rfl rfl (by decide) (by decide) rfl fun b1=>?_);obtain rfl:=oi hF;refine a_ ?_;exact rG (some (Addr.mk b1 0 none))
def text_bare (N:Nat) (kind1:Int):Option Unit:=some ()
theorem text_bare_ok {N kind1 res} (hF:text_bare N kind1 = some res) (w:World):Pure Tryz.prog 69 [.int .i64 kind1] w (.bool ((((decide (kind1 = 2))||(decide (kind1 = 4)))||(decide (kind1 = 6)))||(decide (kind1 = 10)))):=by
  refine We 17 Tryz.func69 (St.start w) fun R hR=>?_;obtain rfl:=oi hF;refine a_ ?_;exact rP
def text_event (N:Nat) (line1:ByteArray):Option (Int × Int × Int × Int × Bool):=bd (splitO N line1 (⟨#[32]⟩ : ByteArray)) fun r3=>cond (decide (((r3).length:Int) < 3)) (some (0,0,0,0,false)) (bd (ix r3 0) fun x6=>bd (text_number N x6) fun r7=>bd (ix r3 1) fun x8=>bd (text_number N x8) fun r9=>bd (α:=Int) (bd (ix r3 2) fun x12=>bd (text_kindWords N) fun r13=>bd (slices_Index_string_string N ([(⟨#[101,110,100]⟩ : ByteArray),(⟨#[119,114,105,116,101]⟩ : ByteArray),(⟨#[114,101,97,100]⟩ : ByteArray),(⟨#[101,110,113]⟩ : ByteArray),(⟨#[100,101,113]⟩ : ByteArray),(⟨#[112,117,115,104]⟩ : ByteArray),(⟨#[112,111,112]⟩ : ByteArray),(⟨#[97,100,100]⟩ : ByteArray),(⟨#[114,101,109,111,118,101]⟩ : ByteArray),(⟨#[104,97,115]⟩ : ByteArray),(⟨#[116,97,107,101]⟩ : ByteArray)]:List ByteArray) x12) fun r15=>some r15) <| fun Kind11=>cond (((!r7.2)||(!r9.2))||(decide (Kind11 < 0))) (some (0,0,0,0,false)) (bd (text_bare N Kind11) fun r20=>cond ((((decide (Kind11 = 2))||(decide (Kind11 = 4)))||(decide (Kind11 = 6)))||(decide (Kind11 = 10))) (some (r7.1,r9.1,Kind11,0,(decide (((r3).length:Int) = 3)))) (cond (!(decide (((r3).length:Int) = 4))) (some (0,0,0,0,false)) (bd (ix r3 3) fun x21=>bd (text_number N x21) fun r22=>some (r7.1,r9.1,Kind11,r22.1,r22.2)))))
theorem text_event_ok {N line1 res} (hF:text_event N line1 = some res) (w:World) (hG:GOkS w):Pure Tryz.prog 46 [.string line1] w (.tuple #[.agg (encEvent (Event.mk res.1 res.2.1 res.2.2.1 res.2.2.2.1)).toArray,.bool res.2.2.2.2]):=by
  refine We 71 Tryz.func46 (St.start w) fun R hR=>?_;refine a_ ?_;refine mA fun b2=>?_;obtain ⟨r3,hr3,hF⟩:=bnd hF;refine a_ ?_;refine kM isGo32 (v2 rfl rfl) (fun wz hw=>strings_Split_ok hr3 wz (hG.mono hw)) ?_;rintro ⟨AI4,cI5⟩ -;refine a_ ?_;refine Wc hF (fun hC5 hF=>?_) (fun hC5 hF=>?_)
  · refine a_ ?_;refine WL.q (Y.build (cs:=(encEvent (Event.mk 0 0 0 0)).toArray) shape108 (.nil) (one_parts trivial) rfl) rfl ?_;obtain rfl:=oi hF;refine a_ ?_;exact rP
  · obtain ⟨x6,hx6,hF⟩:=bnd hF;obtain ⟨r7,hr7,hF⟩:=bnd hF;refine a_ ?_;refine kP isGo75 (v1 rfl) (fun wz hw=>text_number_ok hr7 wz (hG.mono hw)) ?_;obtain ⟨x8,hx8,hF⟩:=bnd hF;obtain ⟨r9,hr9,hF⟩:=bnd hF;refine a_ ?_;refine kP isGo75 (v1 rfl) (fun wz hw=>text_number_ok hr9 wz (hG.mono hw)) ?_;obtain ⟨o9,hF9,hF⟩:=bnd hF;refine b_ ?_;refine W.join2 (fun a b=>[(9,.pointer (some ⟨b,0,none⟩))]) (fun a b=>[cBx b2 108 (encEvent (Event.mk 0 0 0 0)),cR eS 1 AI4 cI5 9 r3,cBx b 108 (encEvent (Event.mk r7.1 r9.1 a 0))]) (fun a b=>a = o9) (ks4 2 4 6 8) (fun K10 hK10=>?_) ?_
    · refine W.regX 9 (by kernel_rfl) ?_;refine Xp 0 rfl (fun _ _=>ym) ?_;refine Xp 1 rfl (fun _ _=>ym) ?_;refine Xp 3 rfl (fun _ _=>ym) ?_;obtain ⟨x12,hx12,hF9⟩:=bnd hF9;refine Xt 4 rfl (Y.rowEl Tryz.underlying65 cells9 (i:=0) rfl (.pl rfl) rfl (.pl rfl) (ix_lt (hx12))) ?_;refine Xt 5 rfl (Y.loadR (enc:=eS) (v:=.string x12) (a:=x12) (idx:=2) (j:=0) Tryz.underlying9 rfl (fun _=>rfl) (i:=0) rfl (.pl rfl) (ix_get (hx12)) rfl rfl) ?_;obtain ⟨r13,hr13,hF9⟩:=bnd hF9;obtain ⟨r15,hr15,hF9⟩:=bnd hF9;refine WX.branch [2,8] (fun wz hw=>St.tail [] hw) (by kernel_rfl) ⟨?_,?_,trivial⟩
      · skip;refine WXI.step #[true,true,true,true,true,true,false,false,false,false] rfl rfl (WO.callM isGo68 (.nil) rfl (fun wz hw=>text_kindWords_ok (hr13) wz ) ?_);rintro A14 -;refine WX.now (fun wz hw=>St.tail [_] hw) ?_;refine WX.branch [6,8] (fun wz hw=>St.tail [] hw) (by kernel_rfl) ⟨?_,?_,trivial⟩
        · skip;refine WXI.step #[true,true,true,true,true,true,true,false,false,false] rfl rfl (WO.callP isGo74 (.cons (.pl rfl) (.cons (.pl rfl) (.nil))) rfl (fun wz hw=>slices_Index_string_string_ok (hr15) wz (SlIn.ofRow (fun _=>rfl) hw (i:=0) rfl)) ?_);refine Xp 7 rfl (fun _ _=>Y.build (cs:=(encEvent (Event.mk r7.1 r9.1 r15 0)).toArray) shape108 (.cons (.pl rfl) (.cons (.pl rfl) (.cons (.pl rfl) (.nil)))) (one_parts ⟨rfl,⟨rfl,⟨rfl,trivial⟩⟩⟩) rfl) ?_;refine Xo 8 rfl (WO.alloc (cs:=(encEvent (Event.mk 0 0 0 0)).toArray) zero108 rfl rfl fun b16=>?_);refine WX.now (fun wz hw=>St.tail [_] hw) ?_;refine Xs rfl (WO.storeBA (ds:=(encEvent (Event.mk r7.1 r9.1 r15 0))) (cs':=(encEvent (Event.mk r7.1 r9.1 r15 0))) cells108 (.pl rfl) (.pl rfl) rfl (oneEvent _) (i:=0) rfl (lel (o:=0) (l:=4) (m:=4) (by decide) rfl rfl) (putW rfl) ?_);refine WA.done (by kernel_rfl) ?_;refine a_ ?_;exact h2 hK10 (oi hF9)
        · skip;refine WXI.step #[true,true,true,true,true,true,false,false,true,false] rfl rfl (WO.alloc (cs:=(encEvent (Event.mk 0 0 0 0)).toArray) zero108 rfl rfl fun b17=>?_);refine WX.now (fun wz hw=>St.tail [_] hw) ?_;refine Xo 6 rfl (WO.callP isGo74 (.cons (.pl rfl) (.cons (.pl rfl) (.nil))) rfl (fun wz hw=>slices_Index_string_string_ok (hr15) wz (SlIn.ofRow (fun _=>rfl) hw (i:=1) rfl)) ?_);refine Xp 7 rfl (fun _ _=>Y.build (cs:=(encEvent (Event.mk r7.1 r9.1 r15 0)).toArray) shape108 (.cons (.pl rfl) (.cons (.pl rfl) (.cons (.pl rfl) (.nil)))) (one_parts ⟨rfl,⟨rfl,⟨rfl,trivial⟩⟩⟩) rfl) ?_;refine Xs rfl (WO.storeBA (ds:=(encEvent (Event.mk r7.1 r9.1 r15 0))) (cs':=(encEvent (Event.mk r7.1 r9.1 r15 0))) cells108 (.pl rfl) (.pl rfl) rfl (oneEvent _) (i:=0) rfl (lel (o:=0) (l:=4) (m:=4) (by decide) rfl rfl) (putW rfl) ?_);refine WA.done (by kernel_rfl) ?_;refine a_ ?_;exact h2 hK10 (oi hF9)
      · skip;refine WXI.step #[true,true,false,true,true,true,false,false,true,false] rfl rfl (WO.alloc (cs:=(encEvent (Event.mk 0 0 0 0)).toArray) zero108 rfl rfl fun b18=>?_);refine WX.now (fun wz hw=>St.tail [_] hw) ?_;refine Xo 2 rfl (WO.callM isGo68 (.nil) rfl (fun wz hw=>text_kindWords_ok (hr13) wz ) ?_);rintro A19 -;refine WX.now (fun wz hw=>St.tail [_] hw) ?_;refine Xo 6 rfl (WO.callP isGo74 (.cons (.pl rfl) (.cons (.pl rfl) (.nil))) rfl (fun wz hw=>slices_Index_string_string_ok (hr15) wz (SlIn.ofRow (fun _=>rfl) hw (i:=0) rfl)) ?_);refine Xp 7 rfl (fun _ _=>Y.build (cs:=(encEvent (Event.mk r7.1 r9.1 r15 0)).toArray) shape108 (.cons (.pl rfl) (.cons (.pl rfl) (.cons (.pl rfl) (.nil)))) (one_parts ⟨rfl,⟨rfl,⟨rfl,trivial⟩⟩⟩) rfl) ?_;refine Xs rfl (WO.storeBA (ds:=(encEvent (Event.mk r7.1 r9.1 r15 0))) (cs':=(encEvent (Event.mk r7.1 r9.1 r15 0))) cells108 (.pl rfl) (.pl rfl) rfl (oneEvent _) (i:=1) rfl (lel (o:=0) (l:=4) (m:=4) (by decide) rfl rfl) (putW rfl) ?_);refine WA.done (by kernel_rfl) ?_;refine a_ ?_;exact h2 hK10 (oi hF9)
    · rintro Kind11 b10 rfl;refine a_ ?_;refine Wc hF (fun hC14 hF=>?_) (fun hC14 hF=>?_)
      · refine a_ ?_;refine WL.q (Y.build (cs:=(encEvent (Event.mk 0 0 0 0)).toArray) shape108 (.nil) (one_parts trivial) rfl) rfl ?_;obtain rfl:=oi hF;refine a_ ?_;exact rP
      · obtain ⟨r20,hr20,hF⟩:=bnd hF;refine a_ ?_;refine kP isGo69 (v1 rfl) (fun wz hw=>text_bare_ok hr20 wz) ?_;refine a_ ?_;refine Wc hF (fun hC18 hF=>?_) (fun hC18 hF=>?_)
        · obtain rfl:=oi hF;refine a_ ?_;exact rP
        · refine a_ ?_;refine Wc hF (fun hC22 hF=>?_) (fun hC22 hF=>?_)
          · refine a_ ?_;refine WL.q (Y.build (cs:=(encEvent (Event.mk 0 0 0 0)).toArray) shape108 (.nil) (one_parts trivial) rfl) rfl ?_;obtain rfl:=oi hF;refine a_ ?_;exact rP
          · obtain ⟨x21,hx21,hF⟩:=bnd hF;obtain ⟨r22,hr22,hF⟩:=bnd hF;refine a_ ?_;refine kP isGo75 (v1 rfl) (fun wz hw=>text_number_ok hr22 wz (hG.mono hw)) ?_;refine a_ ?_;refine WL.step (WO.storeB (cs':=(encEvent (Event.mk r7.1 r9.1 Kind11 r22.1))) cells3 (.pl rfl) (.pl rfl) rfl (i:=2) rfl (ltl (m:=4) (by decide) rfl) (rfl) ?_);obtain rfl:=oi hF;refine a_ ?_;exact rP
def history_Types_1 (N:Nat) (t1:Int):Option Unit:=some ()
theorem history_Types_1_ok {N t1 res} (hF:history_Types_1 N t1 = some res) (w:World):Pure Tryz.prog 78 [.int .i64 t1] w (.bool ((decide (t1 < 1))||(decide (5 < t1)))):=by
  refine We 9 Tryz.func78 (St.start w) fun R hR=>?_;obtain rfl:=oi hF;refine a_ ?_;exact rP
def slices_IndexFunc_int_int_L3 (N:Nat) (s1:(List Int)):Int→Option (Int ⊕ (Unit ⊕ Int)) | v6=>cond (decide (v6 < ((s1).length:Int))) (bd (ix s1 v6) fun x7=>bd (history_Types_1 N x7) fun r8=>cond ((decide (x7 < 1))||(decide (5 < x7))) (some (.inr (.inr v6))) (ck (ok64 (v6 + 1)) <| some (.inl (v6 + 1)))) (some (.inr (.inl ())))
def slices_IndexFunc_int_int (N:Nat) (s1:(List Int)):Option Int:=bd (α:=(Unit ⊕ Int)) (iter (slices_IndexFunc_int_int_L3 N s1) N 0) <| Sum.elim (fun _=>some (-1)) (fun p=>some p)
theorem slices_IndexFunc_int_int_ok {N s1 res} (hF:slices_IndexFunc_int_int N s1 = some res) (w:World) {v5} (hs4:SlIn (eI .i64) 1 w v5 s1):Pure Tryz.prog 119 [v5,.func (.func 78) #[] #[]] w (.int .i64 res):=by
  obtain ⟨A2,c3,rfl,hcc3,hs4⟩:=hs4.form;refine We 19 Tryz.func119 (St.start w) fun R hR=>?_;obtain ⟨o2,hF2,hF⟩:=bnd hF;refine b_ ?_;refine W.join0 [] [] ((.inl ()) = o2) (.nil) (fun K3 hK3=>?_) ?_
  · refine a_ ?_;refine l1_0 hF2 (fun a=>[(8,.int .i64 a)]) (fun a=>[]) (ks3 0 1 7) fun v6 k5 t5 hF5 hN5 K6 hK6=>?_;refine a_ ?_;refine Wc hF5 (fun hC9 hF5=>?_) (fun hC9 hF5=>?_)
    · obtain ⟨x7,hx7,hF5⟩:=bnd hF5;obtain ⟨r8,hr8,hF5⟩:=bnd hF5;refine a_ ?_;refine kG isGo78 (.pl rfl) (v1 rfl) (fun wz hw=>(history_Types_1_ok hr8 wz).calls hw) ?_;rintro _ -;refine a_ ?_;refine Wc hF5 (fun hC13 hF5=>?_) (fun hC13 hF5=>?_)
      · obtain rfl:=oi hF5;obtain rfl:=einr hN5;obtain rfl:=oi hF;refine a_ ?_;exact rP
      · obtain ⟨hk9,hF5⟩:=ckh hF5;refine a_ ?_;exact g1 hK6 (oj hF5 hN5)
    · refine a_ ?_;exact h0 hK3 (oj hF5 hN5)
  · rintro  rfl;obtain rfl:=oi hF;refine a_ ?_;exact rP
def slices_ContainsFunc_int_int (N:Nat) (s1:(List Int)):Option Bool:=bd (slices_IndexFunc_int_int N s1) fun r6=>some (decide (0 ≤ r6))
theorem slices_ContainsFunc_int_int_ok {N s1 res} (hF:slices_ContainsFunc_int_int N s1 = some res) (w:World) {v5} (hs4:SlIn (eI .i64) 1 w v5 s1):Pure Tryz.prog 79 [v5,.func (.func 78) #[] #[]] w (.bool res):=by
  obtain ⟨A2,c3,rfl,hcc3,hs4⟩:=hs4.form;refine We 9 Tryz.func79 (St.start w) fun R hR=>?_;obtain ⟨r6,hr6,hF⟩:=bnd hF;refine a_ ?_;refine kP isGo119 (v2 rfl rfl) (fun wz hw=>slices_IndexFunc_int_int_ok hr6 wz (hs4.mono hw)) ?_;obtain rfl:=oi hF;refine a_ ?_;exact rP
def history_Types (N:Nat) (types1:(List Int)):Option Int:=bd ((cond (((decide (((types1).length:Int) < 1))||(decide (4 < ((types1).length:Int)))) == false) (slices_ContainsFunc_int_int N types1) (some false))) fun r6=>cond (((decide (((types1).length:Int) < 1))||(decide (4 < ((types1).length:Int))))||r6) (some 1) (some 0)
theorem history_Types_ok {N types1 res} (hF:history_Types N types1 = some res) (w:World) {v5} (hs4:SlIn (eI .i64) 1 w v5 types1):Pure Tryz.prog 49 [v5] w (.int .i64 res):=by
  obtain ⟨A2,c3,rfl,hcc3,hs4⟩:=hs4.form;refine We 17 Tryz.func49 (St.start w) fun R hR=>?_;obtain ⟨r6,hr6,hF⟩:=bnd hF;refine a_ ?_;refine WL.gP (.pl rfl rfl rfl) isGo79 (fun hg=>(.cons (.gd (hg) rfl) (.cons (.gd (hg) rfl) (.nil)))) rfl (fun hg wz hw=>slices_ContainsFunc_int_int_ok (gpos hg hr6) wz (hs4.mono hw)) ?_;refine a_ ?_;refine Wc hF (fun hC5 hF=>?_) (fun hC5 hF=>?_)
  · obtain rfl:=oi hF;refine a_ ?_;exact rP
  · obtain rfl:=oi hF;refine a_ ?_;exact rP
def history_typeOf (N:Nat) (kind1:Int):Option Int:=bd (α:=Bool) (cond (decide (kind1 = 1)) (some (decide (kind1 = 1))) (some (decide (kind1 = 2)))) <| fun v2=>cond v2 (some 1) (bd (α:=Bool) (cond (decide (kind1 = 3)) (some (decide (kind1 = 3))) (some (decide (kind1 = 4)))) <| fun v3=>cond v3 (some 2) (bd (α:=Bool) (cond (decide (kind1 = 5)) (some (decide (kind1 = 5))) (some (decide (kind1 = 6)))) <| fun v4=>cond v4 (some 3) (bd (α:=Bool) (cond (decide (kind1 = 7)) (some (decide (kind1 = 7))) (cond (decide (kind1 = 8)) (some (decide (kind1 = 8))) (some (decide (kind1 = 9))))) <| fun v5=>cond v5 (some 4) (cond (decide (kind1 = 10)) (some 5) (some 0)))))
theorem history_typeOf_ok {N kind1 res} (hF:history_typeOf N kind1 = some res) (w:World):Pure Tryz.prog 105 [.int .i64 kind1] w (.int .i64 res):=by
  refine We 19 Tryz.func105 (St.start w) fun R hR=>?_;obtain ⟨o4,hF4,hF⟩:=bnd hF;refine b_ ?_;refine iS ?_;refine b_ ?_;refine W.join1 (fun a=>[(4,.bool a)]) (fun a=>[]) (fun a=>a = o4) (ks1 3) (fun K5 hK5=>?_) ?_
  · refine a_ ?_;refine Wc hF4 (fun hC7 hF4=>?_) (fun hC7 hF4=>?_)
    · refine a_ ?_;exact h1 hK5 (oi hF4)
    · refine a_ ?_;exact h1 hK5 (oi hF4)
  · rintro v2 rfl;refine Wc hF (fun hC9 hF=>?_) (fun hC9 hF=>?_)
    · obtain rfl:=oi hF;refine a_ ?_;exact rP
    · obtain ⟨o11,hF11,hF⟩:=bnd hF;refine W.join1 (fun a=>[(7,.bool a)]) (fun a=>[]) (fun a=>a = o11) (ks1 3) (fun K12 hK12=>?_) ?_
      · refine a_ ?_;refine Wc hF11 (fun hC14 hF11=>?_) (fun hC14 hF11=>?_)
        · refine a_ ?_;exact h1 hK12 (oi hF11)
        · refine a_ ?_;exact h1 hK12 (oi hF11)
      · rintro v3 rfl;refine Wc hF (fun hC16 hF=>?_) (fun hC16 hF=>?_)
        · obtain rfl:=oi hF;refine a_ ?_;exact rP
        · obtain ⟨o18,hF18,hF⟩:=bnd hF;refine W.join1 (fun a=>[(10,.bool a)]) (fun a=>[]) (fun a=>a = o18) (ks1 3) (fun K19 hK19=>?_) ?_
          · refine a_ ?_;refine Wc hF18 (fun hC21 hF18=>?_) (fun hC21 hF18=>?_)
            · refine a_ ?_;exact h1 hK19 (oi hF18)
            · refine a_ ?_;exact h1 hK19 (oi hF18)
          · rintro v4 rfl;refine Wc hF (fun hC23 hF=>?_) (fun hC23 hF=>?_)
            · obtain rfl:=oi hF;refine a_ ?_;exact rP
            · obtain ⟨o25,hF25,hF⟩:=bnd hF;refine W.join1 (fun a=>[(13,.bool a)]) (fun a=>[]) (fun a=>a = o25) (ks1 3) (fun K26 hK26=>?_) ?_
              · refine a_ ?_;refine Wc hF25 (fun hC28 hF25=>?_) (fun hC28 hF25=>?_)
                · refine a_ ?_;exact h1 hK26 (oi hF25)
                · refine a_ ?_;refine Wc hF25 (fun hC30 hF25=>?_) (fun hC30 hF25=>?_)
                  · refine a_ ?_;exact h1 hK26 (oi hF25)
                  · refine a_ ?_;exact h1 hK26 (oi hF25)
              · rintro v5 rfl;refine Wc hF (fun hC32 hF=>?_) (fun hC32 hF=>?_)
                · obtain rfl:=oi hF;refine a_ ?_;exact rP
                · refine a_ ?_;refine Wc hF (fun hC35 hF=>?_) (fun hC35 hF=>?_)
                  · obtain rfl:=oi hF;refine a_ ?_;exact rP
                  · obtain rfl:=oi hF;refine a_ ?_;exact rP
def history_Fits (N:Nat) (typ1:Int) (kind2:Int):Option Bool:=bd ((cond ((!(decide (typ1 = 0))) == true) (history_typeOf N kind2) (some 0))) fun r3=>some ((!(decide (typ1 = 0)))&&(decide (r3 = typ1)))
theorem history_Fits_ok {N typ1 kind2 res} (hF:history_Fits N typ1 kind2 = some res) (w:World):Pure Tryz.prog 63 [.int .i64 typ1,.int .i64 kind2] w (.bool res):=by
  refine We 13 Tryz.func63 (St.start w) fun R hR=>?_;obtain ⟨r3,hr3,hF⟩:=bnd hF;refine a_ ?_;refine WL.gP (.pl rfl rfl rfl) isGo105 (fun hg=>(.cons (.gd (hg) rfl) (.nil))) rfl (fun hg wz hw=>history_typeOf_ok (gpos hg hr3) wz ) ?_;obtain rfl:=oi hF;refine a_ ?_;exact rP
def history_Argument (N:Nat) (kind1:Int) (n2:Int):Option Bool:=bd (α:=(Unit ⊕ Bool)) (cond (decide (kind1 = 2)) (cond (decide (kind1 = 2)) (some (.inr (decide (n2 = 0)))) (some (.inl ()))) (cond (decide (kind1 = 4)) (cond (decide (kind1 = 4)) (some (.inr (decide (n2 = 0)))) (some (.inl ()))) (cond (decide (kind1 = 6)) (cond (decide (kind1 = 6)) (some (.inr (decide (n2 = 0)))) (some (.inl ()))) (cond (decide (kind1 = 10)) (some (.inr (decide (n2 = 0)))) (some (.inl ())))))) <| Sum.elim (fun _=>some ((decide (1 ≤ n2))&&(decide (n2 ≤ 1000)))) (fun p=>some p)
theorem history_Argument_ok {N kind1 n2 res} (hF:history_Argument N kind1 n2 = some res) (w:World):Pure Tryz.prog 64 [.int .i64 kind1,.int .i64 n2] w (.bool res):=by
  refine We 19 Tryz.func64 (St.start w) fun R hR=>?_;obtain ⟨o2,hF2,hF⟩:=bnd hF;refine b_ ?_;refine W.join0 [] [] ((.inl ()) = o2) (ks1 1) (fun K3 hK3=>?_) ?_
  · refine a_ ?_;refine Wc hF2 (fun hC7 hF2=>?_) (fun hC7 hF2=>?_)
    · refine a_ ?_;refine Wc hF2 (fun hC8 hF2=>?_) (fun hC8 hF2=>?_)
      · obtain rfl:=oi hF2;obtain rfl:=oi hF;refine a_ ?_;exact rP
      · refine a_ ?_;exact h0 hK3 (oi hF2)
    · refine a_ ?_;refine Wc hF2 (fun hC11 hF2=>?_) (fun hC11 hF2=>?_)
      · refine a_ ?_;refine Wc hF2 (fun hC12 hF2=>?_) (fun hC12 hF2=>?_)
        · obtain rfl:=oi hF2;obtain rfl:=oi hF;refine a_ ?_;exact rP
        · refine a_ ?_;exact h0 hK3 (oi hF2)
      · refine a_ ?_;refine Wc hF2 (fun hC15 hF2=>?_) (fun hC15 hF2=>?_)
        · refine a_ ?_;refine Wc hF2 (fun hC16 hF2=>?_) (fun hC16 hF2=>?_)
          · obtain rfl:=oi hF2;obtain rfl:=oi hF;refine a_ ?_;exact rP
          · refine a_ ?_;exact h0 hK3 (oi hF2)
        · refine a_ ?_;refine Wc hF2 (fun hC19 hF2=>?_) (fun hC19 hF2=>?_)
          · obtain rfl:=oi hF2;obtain rfl:=oi hF;refine a_ ?_;exact rP
          · refine a_ ?_;exact h0 hK3 (oi hF2)
  · rintro  rfl;obtain rfl:=oi hF;refine a_ ?_;exact rP
def history_result (N:Nat) (kind1:Int) (n2:Int):Option Bool:=bd (α:=Bool) (cond (decide (kind1 = 2)) (some (decide (kind1 = 2))) (some (decide (kind1 = 10)))) <| fun v3=>cond v3 (some ((decide (0 ≤ n2))&&(decide (n2 ≤ 1000)))) (bd (α:=Bool) (cond (decide (kind1 = 4)) (some (decide (kind1 = 4))) (some (decide (kind1 = 6)))) <| fun v4=>cond v4 (some ((decide (n2 = (-1)))||((decide (1 ≤ n2))&&(decide (n2 ≤ 1000))))) (bd (α:=Bool) (cond (decide (kind1 = 7)) (some (decide (kind1 = 7))) (cond (decide (kind1 = 8)) (some (decide (kind1 = 8))) (some (decide (kind1 = 9))))) <| fun v5=>cond v5 (some ((decide (n2 = 0))||(decide (n2 = 1)))) (some (decide (n2 = 0)))))
theorem history_result_ok {N kind1 n2 res} (hF:history_result N kind1 n2 = some res) (w:World):Pure Tryz.prog 80 [.int .i64 kind1,.int .i64 n2] w (.bool res):=by
  refine We 40 Tryz.func80 (St.start w) fun R hR=>?_;obtain ⟨o4,hF4,hF⟩:=bnd hF;refine b_ ?_;refine iS ?_;refine b_ ?_;refine W.join1 (fun a=>[(6,.bool a)]) (fun a=>[]) (fun a=>a = o4) (ks2 1 5) (fun K5 hK5=>?_) ?_
  · refine a_ ?_;refine Wc hF4 (fun hC7 hF4=>?_) (fun hC7 hF4=>?_)
    · refine a_ ?_;exact h1 hK5 (oi hF4)
    · refine a_ ?_;exact h1 hK5 (oi hF4)
  · rintro v3 rfl;refine Wc hF (fun hC9 hF=>?_) (fun hC9 hF=>?_)
    · obtain rfl:=oi hF;refine a_ ?_;exact rP
    · obtain ⟨o11,hF11,hF⟩:=bnd hF;refine W.join1 (fun a=>[(15,.bool a)]) (fun a=>[]) (fun a=>a = o11) (ks2 1 5) (fun K12 hK12=>?_) ?_
      · refine a_ ?_;refine Wc hF11 (fun hC14 hF11=>?_) (fun hC14 hF11=>?_)
        · refine a_ ?_;exact h1 hK12 (oi hF11)
        · refine a_ ?_;exact h1 hK12 (oi hF11)
      · rintro v4 rfl;refine Wc hF (fun hC16 hF=>?_) (fun hC16 hF=>?_)
        · refine a_ ?_;refine WL.g (.pl rfl rfl rfl) (fun hg=>Y.and (.gd (hg) rfl) (fun h2=>.gd (band hg (eqt h2)) rfl)) rfl ?_;obtain rfl:=oi hF;refine a_ ?_;exact rP
        · obtain ⟨o18,hF18,hF⟩:=bnd hF;refine W.join1 (fun a=>[(28,.bool a)]) (fun a=>[]) (fun a=>a = o18) (ks1 1) (fun K19 hK19=>?_) ?_
          · refine a_ ?_;refine Wc hF18 (fun hC21 hF18=>?_) (fun hC21 hF18=>?_)
            · refine a_ ?_;exact h1 hK19 (oi hF18)
            · refine a_ ?_;refine Wc hF18 (fun hC23 hF18=>?_) (fun hC23 hF18=>?_)
              · refine a_ ?_;exact h1 hK19 (oi hF18)
              · refine a_ ?_;exact h1 hK19 (oi hF18)
          · rintro v5 rfl;refine Wc hF (fun hC25 hF=>?_) (fun hC25 hF=>?_)
            · obtain rfl:=oi hF;refine a_ ?_;exact rP
            · obtain rfl:=oi hF;refine a_ ?_;exact rP
def history_reader_event (N:Nat) (types2:(List Int)) (out8:(List Call)) (open9:(List Int)) (i10:Int) (v11:Event):Option ((List Call) × (List Int) × Int):=cond ((((decide (v11.who < 0))||(decide (8 ≤ v11.who)))||(decide (v11.thing < 0)))||(decide (((types2).length:Int) ≤ v11.thing))) (some (out8,open9,3)) (bd (ax 8 0 open9 v11.who) fun x13=>cond (!(decide (v11.kind = 0))) (bd (ix types2 v11.thing) fun x14=>bd (history_Fits N x14 v11.kind) fun r15=>bd ((cond ((!r15) == false) (history_Argument N v11.kind v11.value) (some false))) fun r16=>cond ((!r15)||(!r16)) (some (out8,open9,3)) (cond (decide (0 < x13)) (some (out8,open9,5)) (ck (limB 56 ((out8).length + (([(Call.mk v11.who v11.thing v11.kind v11.value 0 i10 (-1))]:List Call)).length)) <| bd (ax 8 0 open9 v11.who) fun x21=>some ((out8++([(Call.mk v11.who v11.thing v11.kind v11.value 0 i10 (-1))]:List Call)),(setA 8 0 open9 v11.who (((out8++([(Call.mk v11.who v11.thing v11.kind v11.value 0 i10 (-1))]:List Call))).length:Int)),0)))) (cond (decide (x13 = 0)) (some (out8,open9,4)) (ck (ok64 (x13 - 1)) <| bd (ix out8 (x13 - 1)) fun x23=>bd ((cond ((!(decide (x23.thing = v11.thing))) == false) (history_result N x23.kind v11.value) (some false))) fun r24=>cond ((!(decide (x23.thing = v11.thing)))||(!r24)) (some (out8,open9,3)) (bd (ax 8 0 open9 v11.who) fun x25=>some ((out8.set (x13 - 1).toNat (Call.mk x23.who x23.thing x23.kind x23.arg v11.value x23.from_ i10)),(setA 8 0 open9 v11.who 0),0)))))
theorem history_reader_event_ok {N types2 out8 open9 i10 v11 b1 A3 c4 A6 c7 res} (hF:history_reader_event N types2 out8 open9 i10 v11 = some res) {w0 w T} (hw:St w0.heap.size w0 (cBx b1 122 (Value.slice A3 (types2).length c4::(Value.slice A6 (out8).length c7::(((encA 8 (eI .i64) 0) open9)++[])))::cR encCall 7 A6 c7 162 out8::T) w) (hs5:SlIn (eI .i64) 1 w0 (.slice A3 (types2).length c4) types2):Calls Tryz.prog 50 (List.toArray [.pointer (some ⟨b1,0,none⟩),.int .i64 i10,.agg (encEvent v11).toArray]) w (fun e w'=>∃ g:(Option Addr × Nat),(True)∧e = .returned (.int .i64 res.2.2)∧St w0.heap.size w0 (cBx b1 122 (Value.slice A3 (types2).length c4::(Value.slice g.1 (res.1).length g.2::(((encA 8 (eI .i64) 0) res.2.1)++[])))::cR encCall 7 g.1 g.2 162 res.1::T) w'):=by
  refine We 137 Tryz.func50 hw fun R hR=>?_;refine a_ ?_;refine WL.step (WO.boxA (.pl rfl) rfl fun b12=>?_);refine b_ ?_;refine iS ?_;refine W.seqD (by kernel_rfl) (by kernel_rfl) fun R3 hR3=>?_;refine Dq yf ?_;refine Dq yb0 ?_;refine Dq yl ?_;refine Dq ym ?_;refine Dg gfp ?_;refine Dg gb0g ?_;refine Dg gjgp ?_;refine Dq yo ?_;refine Dq ym ?_;refine Dg gfp ?_;refine Dg gb0g ?_;refine Dg glgp ?_;refine Dq yo ?_;refine Dq ym ?_;refine Dg gfp ?_;refine Dg gb0g ?_;refine Dg gmp ?_;refine Dg gcg ?_;refine Dg gfg ?_;refine Dg gb1g ?_;refine Dg gwg ?_;refine Dg gjgg ?_;refine Dq yo ?_;refine WD.next hR3 (ks4 0 1 5 31) ?_;refine Wc hF (fun hC4 hF=>?_) (fun hC4 hF=>?_)
  · obtain rfl:=oi hF;refine a_ ?_;exact rG (A6,c7)
  · refine b_ ?_;refine W.seqD (by kernel_rfl) (by kernel_rfl) fun R6 hR6=>?_;refine Dq ym ?_;refine Dq yf ?_;refine Dq yb0 ?_;refine Dq yc ?_;refine Dq yf ?_;obtain ⟨x13,hx13,hF⟩:=bnd hF;refine WD.q (Y.arrZ Tryz.underlying120 cells3 (.pl rfl) (.pl rfl) (ax_lt (hx13))) rfl ?_;refine WD.q (Y.loadB (v:=.int .i64 x13) Tryz.underlying3 rfl (.pl rfl) (i:=1) rfl (cellsA (pre:=(Value.slice A3 (types2).length c4::(Value.slice A6 (out8).length c7::[]))) (off:=2) (post:=[]) (a:=open9) (enc:=(eI .i64)) (d:=0) (n:=8) (sz:=1) (j:=0) (fun _=>rfl) rfl (ax_nat (hx13)) (ax_get (hx13)) rfl)) rfl ?_;refine Dq ya ?_;refine WD.next hR6 (ks4 0 1 5 7) ?_;refine a_ ?_;refine Wc hF (fun hC9 hF=>?_) (fun hC9 hF=>?_)
    · refine iS ?_;refine b_ ?_;refine W.seqD (by kernel_rfl) (by kernel_rfl) fun R11 hR11=>?_;refine Dq ym ?_;refine Dq yc ?_;refine Dq yf ?_;refine Dq yb1 ?_;refine Dq yf ?_;refine Dq yb0 ?_;obtain ⟨x14,hx14,hF⟩:=bnd hF;refine WD.q (Y.slEl Tryz.underlying29 cells3 hs5 (.pl rfl) (.pl rfl) (ix_lt (hx14))) rfl ?_;refine WD.q (Y.loadS (enc:=(eI .i64)) (v:=.int .i64 x14) (j:=0) Tryz.underlying3 rfl hs5 (.pl rfl) (hx14) rfl rfl) rfl ?_;refine Dq yf ?_;refine Dq yb0 ?_;obtain ⟨r15,hr15,hF⟩:=bnd hF;refine WD.callP isGo63 (.cons (.pl rfl) (.cons (.pl rfl) (.nil))) rfl (fun wz hw=>history_Fits_ok (hr15) wz ) ?_;refine Dq yt ?_;refine Dq ym ?_;refine Dg gfp ?_;refine Dg gb0g ?_;refine Dg gfp ?_;refine Dg gb0g ?_;obtain ⟨r16,hr16,hF⟩:=bnd hF;refine WD.gP (.pl rfl rfl rfl) isGo64 (fun hg=>(.cons (.gd (hg) rfl) (.cons (.gd (hg) rfl) (.nil)))) rfl (fun hg wz hw=>history_Argument_ok (gpos hg hr16) wz ) ?_;refine Dg gtg ?_;refine Dq yo ?_;refine Dq ya ?_;refine WD.next hR11 (ks5 0 1 5 7 42) ?_;refine Wc hF (fun hC12 hF=>?_) (fun hC12 hF=>?_)
      · obtain rfl:=oi hF;refine a_ ?_;exact rG (A6,c7)
      · refine a_ ?_;refine Wc hF (fun hC15 hF=>?_) (fun hC15 hF=>?_)
        · obtain rfl:=oi hF;refine a_ ?_;exact rG (A6,c7)
        · refine b_ ?_;refine W.seqX 16 (by kernel_rfl) fun K17 hK17=>?_;refine Xp 0 rfl (fun _ _=>ym) ?_;refine Xp 1 rfl (fun _ _=>ym) ?_;refine Xp 2 rfl (fun _ _=>yc) ?_;refine Xp 3 rfl (fun _ _=>yf) ?_;refine Xt 4 rfl (yb1) ?_;refine Xp 5 rfl (fun _ _=>yf) ?_;refine Xt 6 rfl (yb0) ?_;refine Xp 7 rfl (fun _ _=>yf) ?_;refine Xt 8 rfl (yb0) ?_;refine Xp 9 rfl (fun _ _=>yf) ?_;refine Xt 10 rfl (yb0) ?_;refine Xp 11 rfl (fun _ _=>yf) ?_;refine Xt 12 rfl (yb0) ?_;refine Xp 13 rfl (fun _ _=>ym) ?_;refine Xp 14 rfl (fun _ _=>Y.build (cs:=(encCall (Call.mk v11.who v11.thing v11.kind v11.value 0 i10 (-1))).toArray) shape162 (.cons (.pl rfl) (.cons (.pl rfl) (.cons (.pl rfl) (.cons (.pl rfl) (.cons (.pl rfl) (.cons (.pl rfl) (.nil))))))) (one_parts ⟨rfl,⟨rfl,⟨rfl,⟨rfl,⟨rfl,⟨rfl,trivial⟩⟩⟩⟩⟩⟩) rfl) ?_;refine Xo 15 rfl (WO.bsliceC (enc:=encCall) (ys:=([(Call.mk v11.who v11.thing v11.kind v11.value 0 i10 (-1))]:List Call)) Tryz.underlying58 bz162 (.cons (.pl rfl) (.nil)) rfl lenCall rfl rfl (by decide) (by decide) rfl fun b17=>?_);refine WX.now (fun wz hw=>St.tail [_] hw) ?_;obtain ⟨hk20,hF⟩:=ckh hF;refine Xs rfl (WO.appendC (enc:=encCall) Tryz.underlying58 ap162 lenCall oneCall (.pl rfl) rfl (.pl rfl) (i:=3) rfl (m2:=0) rfl (hk20) rfl fun A18 c19=>?_);refine WA.take 17 #[true,true,true,true,true,true,true,true,true,true,true,true,true,true,true,true,true,true,false,false] rfl (by kernel_rfl) (fun _ _=>Y.nilCheck (.pl rfl)) rfl ?_;refine WA.take 18 #[true,true,true,true,true,true,true,true,true,true,true,true,true,true,true,true,true,true,true,false] rfl (by kernel_rfl) (fun _ _=>Y.fieldAddr0 (off:=1) (ft:=58) Tryz.underlying122 rfl cells58 (.pl rfl)) rfl ?_;refine WA.branch [19] (by kernel_rfl) ⟨?_,trivial⟩;refine WI.step #[true,true,true,true,true,true,true,true,true,true,true,true,true,true,true,true,true,true,true,true] rfl rfl (WO.storeB (cs':=(Value.slice A3 (types2).length c4::(Value.slice A18 ((out8++([(Call.mk v11.who v11.thing v11.kind v11.value 0 i10 (-1))]:List Call))).length c19::(((encA 8 (eI .i64) 0) open9)++[])))) cells58 (.pl rfl) (.pl rfl) rfl (i:=2) rfl (ltl (m:=10) (by decide) rfl) (rfl) ?_);refine WA.done (by kernel_rfl) ?_;refine KK.next hK17 (ks2 0 5) ?_;refine W.seqT 11 (by kernel_rfl) (by kernel_rfl) fun Q18 hQ18=>?_;refine Sq ym ?_;refine Sq yf ?_;refine Sq yb1 ?_;refine Sq ym ?_;refine Sq yc ?_;refine Sq yf ?_;refine Sq yb2 ?_;refine Sq yw ?_;refine Sq yc ?_;refine Sq yf ?_;obtain ⟨x21,hx21,hF⟩:=bnd hF;refine WS.q (Y.arrZ Tryz.underlying120 cells3 (.pl rfl) (.pl rfl) (ax_lt (hx21))) rfl ?_;refine WS.tail ?_;refine WL.step (WO.storeB (cs':=(Value.slice A3 (types2).length c4::(Value.slice A18 ((out8++([(Call.mk v11.who v11.thing v11.kind v11.value 0 i10 (-1))]:List Call))).length c19::(((encA 8 (eI .i64) 0) (setA 8 0 open9 v11.who (((out8++([(Call.mk v11.who v11.thing v11.kind v11.value 0 i10 (-1))]:List Call))).length:Int)))++[])))) cells3 (.pl rfl) (.pl rfl) rfl (i:=2) rfl (ltl (m:=10) (offlt (off:=2) (sz:=1) (j:=0) (ax_nat (hx21)) (by decide)) rfl) (cellsSet (pre:=(Value.slice A3 (types2).length c4::(Value.slice A18 ((out8++([(Call.mk v11.who v11.thing v11.kind v11.value 0 i10 (-1))]:List Call))).length c19::[]))) (off:=2) (post:=[]) (a:=open9) (enc:=(eI .i64)) (d:=0) (n:=8) (sz:=1) (j:=0) (x:=x21) (x':=(((out8++([(Call.mk v11.who v11.thing v11.kind v11.value 0 i10 (-1))]:List Call))).length:Int)) (fun _=>rfl) rfl (ax_lt (hx21)) (ax_get (hx21)) (by decide) rfl rfl) ?_);refine a_ ?_;refine xQ hQ18 ?_;obtain rfl:=oi hF;refine a_ ?_;exact rG (A18,c19)
    · refine a_ ?_;refine Wc hF (fun hC22 hF=>?_) (fun hC22 hF=>?_)
      · obtain rfl:=oi hF;refine a_ ?_;exact rG (A6,c7)
      · obtain ⟨hk22,hF⟩:=ckh hF;obtain ⟨x23,hx23,hF⟩:=bnd hF;refine b_ ?_;refine iS ?_;refine W.seqD (by kernel_rfl) (by kernel_rfl) fun R26 hR26=>?_;refine Dq ym ?_;refine Dq yc ?_;refine WD.q (Y.rowField (off:=1) (ft:=3) Tryz.underlying162 rfl cells3 (i':=2) rfl (ix_lt (hx23)) (.pl rfl)) rfl ?_;refine WD.q (Y.loadR (enc:=encCall) (v:=.int .i64 x23.thing) (a:=x23) (idx:=(x13 - 1)) (j:=1) Tryz.underlying3 rfl lenCall (i:=2) rfl (.pl rfl) (ix_get (hx23)) rfl rfl) rfl ?_;refine Dq yf ?_;refine Dq yb0 ?_;refine Dq yn ?_;refine Dq ym ?_;refine Dg gmp ?_;refine Dg gcg ?_;refine WD.g (.pl rfl rfl rfl) (fun hg=>Y.rowField (off:=2) (ft:=3) Tryz.underlying162 rfl cells3 (i':=2) rfl (ix_lt (hx23)) (.gd (hg) rfl)) rfl ?_;refine WD.g (.pl rfl rfl rfl) (fun hg=>Y.loadR (enc:=encCall) (v:=.int .i64 x23.kind) (a:=x23) (idx:=(x13 - 1)) (j:=2) Tryz.underlying3 rfl lenCall (i:=2) rfl (.gd (hg) rfl) (ix_get (hx23)) rfl rfl) rfl ?_;refine Dg gfp ?_;refine Dg gb0g ?_;obtain ⟨r24,hr24,hF⟩:=bnd hF;refine WD.gP (.pl rfl rfl rfl) isGo80 (fun hg=>(.cons (.gd (hg) rfl) (.cons (.gd (hg) rfl) (.nil)))) rfl (fun hg wz hw=>history_result_ok (gpos hg hr24) wz ) ?_;refine Dg gtg ?_;refine Dq yo ?_;refine WD.next hR26 (ks5 0 1 5 8 121) ?_;refine Wc hF (fun hC27 hF=>?_) (fun hC27 hF=>?_)
        · obtain rfl:=oi hF;refine a_ ?_;exact rG (A6,c7)
        · refine a_ ?_;refine WL.step (WO.storeS (enc:=encCall) (a:=x23) (a':=(Call.mk x23.who x23.thing x23.kind x23.arg v11.value x23.from_ x23.to_)) (idx:=(x13 - 1)) (j:=4) cells3 (.pl rfl) (.pl rfl) rfl lenCall (i:=2) rfl (ix_get (hx23)) rfl (by decide) rfl ?_);refine a_ ?_;refine WL.q (Y.rowField (off:=6) (ft:=3) Tryz.underlying162 rfl cells3 (i':=2) rfl (⟨(ix_lt (hx23)).1,by simpa only [List.length_set] using (ix_lt (hx23)).2⟩) (.pl rfl)) rfl ?_;refine WL.step (WO.storeFS (enc:=encCall) (a:=(Call.mk x23.who x23.thing x23.kind x23.arg v11.value x23.from_ x23.to_)) (a':=(Call.mk x23.who x23.thing x23.kind x23.arg v11.value x23.from_ i10)) (idx:=(x13 - 1)) (j:=6) cells3 (.pl rfl) (.pl rfl) rfl lenCall (i:=2) rfl (ix_lt (hx23)) rfl (by decide) rfl ?_);refine b_ ?_;refine W.seqT 6 (by kernel_rfl) (by kernel_rfl) fun Q30 hQ30=>?_;refine Sq ym ?_;refine Sq yf ?_;refine Sq yb0 ?_;refine Sq yc ?_;refine Sq yf ?_;obtain ⟨x25,hx25,hF⟩:=bnd hF;refine WS.q (Y.arrZ Tryz.underlying120 cells3 (.pl rfl) (.pl rfl) (ax_lt (hx25))) rfl ?_;refine WS.tail ?_;refine WL.step (WO.storeB (cs':=(Value.slice A3 (types2).length c4::(Value.slice A6 (out8).length c7::(((encA 8 (eI .i64) 0) (setA 8 0 open9 v11.who 0))++[])))) cells3 (.pl rfl) (.pl rfl) rfl (i:=1) rfl (ltl (m:=10) (offlt (off:=2) (sz:=1) (j:=0) (ax_nat (hx25)) (by decide)) rfl) (cellsSet (pre:=(Value.slice A3 (types2).length c4::(Value.slice A6 (out8).length c7::[]))) (off:=2) (post:=[]) (a:=open9) (enc:=(eI .i64)) (d:=0) (n:=8) (sz:=1) (j:=0) (x:=x25) (x':=0) (fun _=>rfl) rfl (ax_lt (hx25)) (ax_get (hx25)) (by decide) rfl rfl) ?_);refine a_ ?_;refine xQ hQ30 ?_;obtain rfl:=oi hF;refine a_ ?_;refine W.retV (fn:=Tryz.f50) (vs:=[.int .i64 0]) Tryz.results50 ⟨.tmp rfl,trivial⟩ (fun _ _ h=>h) (fun wz hw=>?_);exact hR _ _ ⟨(A6,c7),trivial,rfl,(St.cong (L:=(cBx b1 122 (Value.slice A3 (types2).length c4::(Value.slice A6 (out8).length c7::(((encA 8 (eI .i64) 0) (setA 8 0 open9 v11.who 0))++[])))::cR encCall 7 A6 c7 162 (out8.set (x13 - 1).toNat (Call.mk x23.who x23.thing x23.kind x23.arg v11.value x23.from_ i10))::T)) (hw.pickK 3 [1,2] rfl) (by simp only [List.length_set,List.nil_append,List.cons_append]))⟩
def history_Calls_L3 (N:Nat) (l6:(List Event)) (types1:(List Int)):((List Call) × (List Int) × Int)→Option (((List Call) × (List Int) × Int) ⊕ (((List Call) × (List Int)) ⊕ ((List Call) × Int × Int))) | (out19,open20,v21)=>cond (decide (v21 < ((l6).length:Int))) (bd (ix l6 v21) fun x22=>bd (history_reader_event N types1 out19 open20 v21 x22) fun r24=>cond (!(decide (r24.2.2 = 0))) (some (.inr (.inr ([],v21,r24.2.2)))) (ck (ok64 (v21 + 1)) <| some (.inl (r24.1,r24.2.1,(v21 + 1))))) (some (.inr (.inl (out19,open20))))
def history_Calls (N:Nat) (types1:(List Int)) (l6:(List Event)):Option ((List Call) × Int × Int):=bd (history_Types N types1) fun r11=>cond (!(decide (r11 = 0))) (some ([],0,r11)) (cond (decide (200 < ((l6).length:Int))) (some ([],0,2)) (bd (α:=(((List Call) × (List Int)) ⊕ ((List Call) × Int × Int))) (iter (history_Calls_L3 N l6 types1) N ([],[],0)) <| Sum.elim (fun (out15,open16)=>some (out15,0,0)) (fun p=>some p)))
theorem history_Calls_ok {N types1 l6 res} (hF:history_Calls N types1 l6 = some res) (w:World) {v5} (hs4:SlIn (eI .i64) 1 w v5 types1) {v10} (hs9:SlIn encEvent 4 w v10 l6):Made Tryz.prog 24 [v5,v10] w (fun g:(Option Addr × Nat)=>.tuple #[.slice g.1 (res.1).length g.2,.int .i64 res.2.1,.int .i64 res.2.2]) (fun g=>[cR encCall 7 g.1 g.2 162 res.1]) (fun g=>True):=by
  obtain ⟨A2,c3,rfl,hcc3,hs4⟩:=hs4.form;obtain ⟨A7,c8,rfl,hcc8,hs9⟩:=hs9.form;refine We 43 Tryz.func24 (St.start w) fun R hR=>?_;obtain ⟨r11,hr11,hF⟩:=bnd hF;refine a_ ?_;refine kP isGo49 (v1 rfl) (fun wz hw=>history_Types_ok hr11 wz (hs4.mono hw)) ?_;refine a_ ?_;refine Wc hF (fun hC5 hF=>?_) (fun hC5 hF=>?_)
  · obtain rfl:=oi hF;refine a_ ?_;exact rG (none,0)
  · refine a_ ?_;refine Wc hF (fun hC9 hF=>?_) (fun hC9 hF=>?_)
    · obtain rfl:=oi hF;refine a_ ?_;exact rG (none,0)
    · refine a_ ?_;refine WL.q (Y.build (cs:=(Value.slice A2 (types1).length c3::(Value.slice none 0 0::(((encA 8 (eI .i64) 0) [])++[]))).toArray) shape122 (.cons (.pl rfl) (.nil)) (one_parts ⟨rfl,trivial⟩) rfl) rfl ?_;refine WL.step (WO.boxA (.pl rfl) rfl fun b12=>?_);obtain ⟨o12,hF12,hF⟩:=bnd hF;refine b_ ?_;refine W.join4 (fun a b c d=>[]) (fun a b c d=>[cBx b12 122 (Value.slice A2 (types1).length c3::(Value.slice c (a).length d::(((encA 8 (eI .i64) 0) b)++[]))),cR encCall 7 c d 162 a]) (fun a b c d=>(.inl (a,b)) = o12) (ks1 8) (fun K13 hK13=>?_) ?_
      · refine a_ ?_;refine l3_2 hF12 (fun a b c d f=>[(25,.int .i64 c)]) (fun a b c d f=>[cBx b12 122 (Value.slice A2 (types1).length c3::(Value.slice d (a).length f::(((encA 8 (eI .i64) 0) b)++[]))),cR encCall 7 d f 162 a]) (ks3 8 23 24) fun out19 open20 v21 A17 c18 k15 t15 hF15 hN15 K16 hK16=>?_;refine a_ ?_;refine Wc hF15 (fun hC19 hF15=>?_) (fun hC19 hF15=>?_)
        · obtain ⟨x22,hx22,hF15⟩:=bnd hF15;refine a_ ?_;refine mA fun b23=>?_;obtain ⟨r24,hr24,hF15⟩:=bnd hF15;refine a_ ?_;refine kC isGo50 (v3 rfl rfl rfl) (fun _ hw=>history_reader_event_ok hr24 (sw hw) hs4) ?_;rintro ⟨A25,c26⟩ -;refine a_ ?_;refine Wc hF15 (fun hC24 hF15=>?_) (fun hC24 hF15=>?_)
          · obtain rfl:=oi hF15;obtain rfl:=einr hN15;obtain rfl:=oi hF;refine a_ ?_;exact rG (none,0)
          · obtain ⟨hk27,hF15⟩:=ckh hF15;refine a_ ?_;exact g5 hK16 (oj hF15 hN15)
        · refine a_ ?_;exact h4 hK13 (oj hF15 hN15)
      · rintro out15 open16 A13 c14 rfl;obtain rfl:=oi hF;refine a_ ?_;exact rG (A13,c14)
def text_Read_L3 (N:Nat) (r2:(List ByteArray)):((List Int) × (List Event) × Int)→Option (((List Int) × (List Event) × Int) ⊕ (((List Int) × (List Event)) ⊕ ((List Int) × (List Event) × Int × Int))) | (types14,l17,v18)=>cond (decide (v18 < ((r2).length:Int))) (bd (ix r2 v18) fun x19=>bd (α:=((List Int) × (List Event) × Bool)) (cond (decide (v18 = (((r2).length:Int) - 1))) (some (types14,l17,((decide (x19 = (⟨#[]⟩ : ByteArray)))&&(decide (0 < (((r2).length:Int) - 1)))))) (cond (decide (v18 = 0)) (bd (text_things N x19) fun r27=>some (r27.1,l17,r27.2)) (bd (text_event N x19) fun r31=>ck (limB 32 ((l17).length + (([(Event.mk r31.1 r31.2.1 r31.2.2.1 r31.2.2.2.1)]:List Event)).length)) <| some (types14,(l17++([(Event.mk r31.1 r31.2.1 r31.2.2.1 r31.2.2.2.1)]:List Event)),r31.2.2.2.2)))) <| fun (types22,l25,ok26)=>cond (!ok26) (some (.inr (.inr ([],[],v18,7)))) (ck (ok64 (v18 + 1)) <| some (.inl (types22,l25,(v18 + 1))))) (some (.inr (.inl (types14,l17))))
def text_Read (N:Nat) (s1:ByteArray):Option ((List Int) × (List Event) × Int × Int):=cond (decide (8192 < ((s1).size:Int))) (some ([],[],0,2)) (bd (splitO N s1 (⟨#[10]⟩ : ByteArray)) fun r2=>ck (ok64 (((r2).length:Int) - 1)) <| bd (α:=(((List Int) × (List Event)) ⊕ ((List Int) × (List Event) × Int × Int))) (iter (text_Read_L3 N r2) N ([],[],0)) <| Sum.elim (fun (types8,l11)=>bd (history_Calls N types8 l11) fun r37=>cond (decide (r37.2.2 = 2)) (some ([],[],0,r37.2.2)) (cond (!(decide (r37.2.2 = 0))) (ck (ok64 (r37.2.1 + 1)) <| some ([],[],(r37.2.1 + 1),r37.2.2)) (some (types8,l11,0,0)))) (fun p=>some p))
theorem text_Read_ok {N s1 res} (hF:text_Read N s1 = some res) (w:World) (hG:GOkS w):Made Tryz.prog 21 [.string s1] w (fun g:(Option Addr × Nat × Option Addr × Nat)=>.tuple #[.slice g.1 (res.1).length g.2.1,.slice g.2.2.1 (res.2.1).length g.2.2.2,.int .i64 res.2.2.1,.int .i64 res.2.2.2]) (fun g=>[cR (eI .i64) 1 g.1 g.2.1 3 res.1,cR encEvent 4 g.2.2.1 g.2.2.2 108 res.2.1]) (fun g=>True):=by
  refine We 80 Tryz.func21 (St.start w) fun R hR=>?_;refine a_ ?_;refine WL.q (Y.lenT Tryz.underlying9 (.pl rfl)) rfl ?_;refine a_ ?_;refine Wc hF (fun hC4 hF=>?_) (fun hC4 hF=>?_)
  · obtain rfl:=oi hF;refine a_ ?_;exact rG (none,0,none,0)
  · obtain ⟨r2,hr2,hF⟩:=bnd hF;refine a_ ?_;refine kM isGo32 (v2 rfl rfl) (fun wz hw=>strings_Split_ok hr2 wz (hG.mono hw)) ?_;rintro ⟨AI3,cI4⟩ -;obtain ⟨hk5,hF⟩:=ckh hF;obtain ⟨o10,hF10,hF⟩:=bnd hF;refine b_ ?_;refine W.join6 (fun a b c d f g=>[(8,.slice c (a).length d),(9,.slice f (b).length g)]) (fun a b c d f g=>[cR (eI .i64) 1 c d 3 a,cR encEvent 4 f g 108 b]) (fun a b c d f g=>(.inl (a,b)) = o10) (.nil) (fun K11 hK11=>?_) ?_
    · refine a_ ?_;refine l3_4 hF10 (fun a b c d f g h=>[(8,.slice d (a).length f),(9,.slice g (b).length h),(27,.int .i64 c)]) (fun a b c d f g h=>[cR (eI .i64) 1 d f 3 a,cR encEvent 4 g h 108 b,cR eS 1 AI3 cI4 9 r2]) (ks3 7 25 26) fun types14 l17 v18 A12 c13 A15 c16 k13 t13 hF13 hN13 K14 hK14=>?_;refine a_ ?_;refine Wc hF13 (fun hC17 hF13=>?_) (fun hC17 hF13=>?_)
      · obtain ⟨x19,hx19,hF13⟩:=bnd hF13;obtain ⟨o21,hF21,hF13⟩:=bnd hF13;refine b_ ?_;refine iS ?_;refine b_ ?_;refine W.join7 (fun a b c d f g h=>[(8,.slice d (a).length f),(9,.slice g (b).length h),(12,.bool c)]) (fun a b c d f g h=>[cR (eI .i64) 1 d f 3 a,cR encEvent 4 g h 108 b,cR eS 1 AI3 cI4 9 r2]) (fun a b c d f g h=>(a,b,c) = o21) (ks5 7 10 25 26 27) (fun K22 hK22=>?_) ?_
        · refine a_ ?_;refine Wc hF21 (fun hC24 hF21=>?_) (fun hC24 hF21=>?_)
          · refine a_ ?_;refine WL.q (Y.eqlT Tryz.underlying9 (.pl rfl) (.pl rfl)) rfl ?_;refine a_ ?_;exact h7 hK22 (oi hF21)
          · refine a_ ?_;refine Wc hF21 (fun hC27 hF21=>?_) (fun hC27 hF21=>?_)
            · obtain ⟨r27,hr27,hF21⟩:=bnd hF21;refine a_ ?_;refine kM isGo45 (v1 rfl) (fun wz hw=>text_things_ok hr27 wz (hG.mono hw)) ?_;rintro ⟨A28,c29⟩ -;refine a_ ?_;exact h7 hK22 (oi hF21)
            · refine a_ ?_;refine mA fun b30=>?_;obtain ⟨r31,hr31,hF21⟩:=bnd hF21;refine a_ ?_;refine kP isGo46 (v1 rfl) (fun wz hw=>text_event_ok hr31 wz (hG.mono hw)) ?_;refine a_ ?_;refine WL.step (WO.bsliceC (enc:=encEvent) (ys:=([(Event.mk r31.1 r31.2.1 r31.2.2.1 r31.2.2.2.1)]:List Event)) Tryz.underlying31 bz108 (.cons (.pl rfl) (.nil)) rfl lenEvent rfl rfl (by decide) (by decide) rfl fun b32=>?_);obtain ⟨hk35,hF21⟩:=ckh hF21;refine WL.step (WO.appendC (enc:=encEvent) Tryz.underlying31 ap108 lenEvent oneEvent (.pl rfl) rfl (.pl rfl) (i:=3) rfl (m2:=0) rfl (hk35) rfl fun A33 c34=>?_);refine a_ ?_;exact h7 hK22 (oi hF21)
        · rintro types22 l25 ok26 A20 c21 A23 c24 rfl;refine a_ ?_;refine Wc hF13 (fun hC33 hF13=>?_) (fun hC33 hF13=>?_)
          · obtain rfl:=oi hF13;obtain rfl:=einr hN13;obtain rfl:=oi hF;refine a_ ?_;exact rG (none,0,none,0)
          · obtain ⟨hk36,hF13⟩:=ckh hF13;refine a_ ?_;exact g7 hK14 (oj hF13 hN13)
      · refine a_ ?_;exact h6 hK11 (oj hF13 hN13)
    · rintro types8 l11 A6 c7 A9 c10 rfl;obtain ⟨r37,hr37,hF⟩:=bnd hF;refine a_ ?_;refine kM isGo24 (v2 rfl rfl) (fun wz hw=>history_Calls_ok hr37 wz (so hw) (so hw)) ?_;rintro ⟨A38,c39⟩ -;refine a_ ?_;refine Wc hF (fun hC39 hF=>?_) (fun hC39 hF=>?_)
      · obtain rfl:=oi hF;refine a_ ?_;exact rG (none,0,none,0)
      · refine a_ ?_;refine Wc hF (fun hC42 hF=>?_) (fun hC42 hF=>?_)
        · obtain ⟨hk40,hF⟩:=ckh hF;obtain rfl:=oi hF;refine a_ ?_;exact rG (none,0,none,0)
        · obtain rfl:=oi hF;refine a_ ?_;exact rG (A6,c7,A9,c10)
end Go.Proofs.YtjdkkabcenohcaaGreatDoor
