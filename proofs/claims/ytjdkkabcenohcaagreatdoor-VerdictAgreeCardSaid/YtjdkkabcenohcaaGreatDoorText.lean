/- Strings; builders of strings; errors that are only compared with nil. It speaks of every program. -/
import Derived.Test.YtjdkkabcenohcaaGreatDoorBor
import Derived.Test.YtjdkkabcenohcaaGreatDoorIface
import Derived.Test.YtjdkkabcenohcaaGreatDoorShelf
import Derived.Lib.Builder
import Derived.Lib.AppendStr
import Derived.Lib.UnsafeStr
import Derived.Lib.LaidTab
import Derived.Laws.Concat
import Derived.Laws.Strings
import Derived.Shelf.Strings.Builder1
import Derived.Shelf.Strings.OnBuilder
import Derived.Shelf.Strings.SplitShaped
import Derived.Shelf.Strings.Count
import Derived.Shelf.Strings.Prefix
import Derived.Shelf.Strings.Search3
import Derived.Shelf.Small.Wraps
import Derived.Shelf.Strconv.AtoiAll
import Derived.Shelf.Strconv.Itoa3
set_option linter.unusedVariables false
set_option linter.unusedSimpArgs false
set_option linter.unusedSectionVars false
namespace Go.Proofs.YtjdkkabcenohcaaGreatDoor
open Go.RowKit
section
variable {P:Program} {n:Nat} {base:Nat} {w0 w:World} {L:List Chunk} {e:Env}
variable {ops rest:List Oper} {Q:Exit→Act→World→Prop} {K:Act→World→Prop} {d:Nat} {D:Option Tmp} {op:Op} {t:TypeId} {pos:String} {af:Array Edge} {G:Option (Nat×Bool)} {x y z:Operand} {v:Value} {tx ty:TypeId}
theorem I_(a b:ByteArray):(a.toList==b.toList)=decide (a=b):=by
 rw[Lib.toList_data,Lib.toList_data]
 rw[Bool.eq_iff_iff,beq_iff_eq,decide_eq_true_eq]
 exact⟨fun h=>ByteArray.ext (Array.toList_inj.1 h),fun h=>by rw[h]⟩
theorem Dj{T:TypeId}{a b:ByteArray}(hT:P.underlying T=some .string)(w:World)(dp:Nat):(Op.equalIn (dp+1) T (.string a) (.string b)).run P w= .ok (decide (a=b)) w:=by
 rw[run_equalIn_string w dp T a b hT,I_]
theorem Y.E4{a b:ByteArray}(hT:P.underlying tx=some .string)(hx:ap n e x (.string a))(hy:ap n e y (.string b)):Yd P n base w0 e L ⟨D,.binOp .eql tx x y ty,t,pos,af,G⟩ (.bool (decide (a=b))):=by
 intro ac w ha _
 have:=Dj (P:=P) (a:=a) (b:=b) hT w 9999
 simp[execOp,hx ac ha,hy ac ha,eqGuard,binOp,Op.equal,Op.maxDepth,Op.stringOp,this,I_]
theorem Y.Y_{a b:ByteArray}(hT:P.underlying tx=some .string)(hx:ap n e x (.string a))(hy:ap n e y (.string b)):Yd P n base w0 e L ⟨D,.binOp .neq tx x y ty,t,pos,af,G⟩ (.bool (!(decide (a=b)))):=by
 intro ac w ha _
 have:=Dj (P:=P) (a:=a) (b:=b) hT w 9999
 simp[execOp,hx ac ha,hy ac ha,eqGuard,binOp,Op.equal,Op.maxDepth,Op.stringOp,this,I_]
def I'(a b:ByteArray):Bool:=decide (a.size+b.size≤9223372036854775807)
theorem Y.Za{a b:ByteArray}(hx:ap n e x (.string a))(hy:ap n e y (.string b))(h:I' a b=true):Yd P n base w0 e L ⟨D,.binOp .add tx x y ty,t,pos,af,G⟩ (.string (a++b)):=by
 intro ac w ha _
 have:=run_string_add_sum (P:=P) w a b (of_decide_eq_true h)
 simp[execOp,hx ac ha,hy ac ha,eqGuard,binOp,this]
theorem Y.S8{T:TypeId}{a:ByteArray}(hT:P.underlying T=some .string)(hx:ap n e x (.string a)):
  Yd P n base w0 e L ⟨D,.call {callee:= .builtin .len,args:= #[x],argTypes:= #[T]},t,pos,af,G⟩ (.int .i64 ((a.size:Nat):Int)):=by
 intro ac w ha _;simp[execOp,resolve,invoke,builtin,Builtin.len_,hx ac ha,run_underlying hT,goInt]
def Cf(b:Bool)(g:TypeId×Value):Value:=cond b (.iface g.1 g.2) .nilIface
theorem Ja{T:TypeId}{ms:_}{b:Bool}{g:TypeId×Value}(hT:P.underlying T=some (.interface ms))(w:World)(dp:Nat):(Op.equalIn (dp+1) T (Cf b g) .nilIface).run P w= .ok (!b) w:=by
 unfold Op.equalIn
 rw[Sem.run_bind,run_underlying hT]
 cases b<;>rfl
theorem Y.S9{T:TypeId}{ms:_}{b:Bool}{g:TypeId×Value}(hT:P.underlying T=some (.interface ms))(hx:ap n e x (Cf b g)):Yd P n base w0 e L ⟨D,.binOp .eql T x (.const .nilIface) ty,t,pos,af,G⟩ (.bool (!b)):=by
 intro a w ha _
 have:=Ja (P:=P) (b:=b) (g:=g) hT w 9999
 have hg:(eqGuard .eql T x (.const .nilIface) (Cf b g) .nilIface).run P w= .ok () w:=by
  cases b<;>simp[eqGuard,Cf]
 simp[execOp,hx a ha,lD,binOp,Op.equal,Op.maxDepth,this,hg]
def jU(T E:TypeId)(b:Nat)(p:Value)(A:Option Addr)(cap:Nat)(l:ByteArray):Chunk:=
 jR [al b T [p,.slice A l.size cap],cc A cap E 1 l.size (Lib.strCells l),cF (p= .pointer none∨p= .pointer (some ⟨b,0,none⟩))]
theorem bc.sb0{T:TypeId}(E:TypeId){b:Nat}:bc (al b T [.pointer none,.slice none 0 0]::L) (jU T E b (.pointer none) none 0 ⟨#[]⟩::L):=
 .trans (.cons (.trans (.fact (p:=Value.pointer none= .pointer none∨Value.pointer none= .pointer (some ⟨b,0,none⟩)) (.inl rfl)) (.kw (fun q:Value=>[q]) 1 E))) (.AV (M:=[_,_,_]))
theorem St.KC{T E:TypeId}{b:Nat}{p:Value}{A:Option Addr}{cap:Nat}{l:ByteArray}(h:St base w0 (jU T E b p A cap l::L) w):(p= .pointer none∨p= .pointer (some ⟨b,0,none⟩))∧St base w0 (al b T [p,.slice A l.size cap]::cc A cap E 1 l.size (Lib.strCells l)::L) w:=by
 have h1:=bc.D9 (M:=[_,_,_]) [] _ _ _ h
 refine⟨h1.sat (cF _) (by simp),?_⟩
 exact h1.sub ⟨[cF (p= .pointer none∨p= .pointer (some ⟨b,0,none⟩))],by
  simp only[List.nil_append,List.cons_append]
  refine List.Perm.cons _ (List.Perm.cons _ ?_)
  exact List.perm_append_comm (l₁:=L) (l₂:=[_])⟩
theorem St.P9{T E:TypeId}{b:Nat}{A:Option Addr}{cap:Nat}{l:ByteArray}(h:St base w0 (al b T [.pointer (some ⟨b,0,none⟩),.slice A l.size cap]::cc A cap E 1 l.size (Lib.strCells l)::L) w):St base w0 (jU T E b (.pointer (some ⟨b,0,none⟩)) A cap l::L) w:=
 bc.at (.trans (.cons (.cons (.fact (.inr rfl)))) (.AV (M:=[_,_,_]))) _ _ _ h
theorem E5(a b:ByteArray):Lib.strCells (a++b)=Lib.strCells a++Lib.strCells b:=by
 rw[Lib.strCells_eq,Lib.strCells_eq,Lib.strCells_eq,←Lib.byteCells_append,ByteArray.data_append,Array.toList_append]
theorem WO.P_{t u E i m cap:Nat}{A:Option Addr}{xs:List Value}{s:ByteArray}{ty:TypeId}(hT:P.underlying t=some (.slice E))(hU:P.underlying u=some .string)(hz: ∃i,P.info? E=some i∧i.zero=some (.int .u8 0)∧i.size=1∧i.bytes=1)
  (hx:ap n e x (.slice A m cap))(hy:ap n e y (.string s))(hi:L[i]? =some (cc A cap E 1 m xs))(hby:m+s.size≤140737488351232)(hd:Nat.blt d n=true)
  (h: ∀A' cap',KK n base w0 ((d,.slice A' (m+s.size) cap')::e) (L.set i (cc A' cap' E 1 (m+s.size) (xs++Lib.strCells s))) K):
  WO P ops n base w0 e L ⟨some d,.call {callee:= .builtin .append,args:= #[x,y],argTypes:= #[t,u]},ty,pos,af,none⟩ K Q:=by
 refine WO.of_run rfl fun a w ha hw=>?_
 obtain⟨inf,B_,oO,hsz,Kb⟩:=hz
 obtain⟨hl,hs⟩:=hw.sat _ (List.mem_of_getElem? hi)
 have hown:w.ownsRow base E 1 (.slice A m cap) m xs:=by
  refine⟨hl,?_⟩
  rcases hs with⟨rfl,rfl,rfl⟩|⟨g,cur,rfl,hx,lp,hcm,hcs,dA⟩
  ·exact .inl ⟨rfl,rfl⟩
  ·exact .inr ⟨g,cap,cur,rfl,(hw.ge g (oW (List.mem_of_getElem? hi) (List.mem_singleton.2 rfl))).1,hx,lp,hcm,hcs,dA⟩
 obtain⟨v',w',hr,h2,h3,h5⟩:=Lib.run_append_own_string (P:=P) w base t u ty E inf hT hU B_ oO hsz Kb (.slice A m cap) m xs hown s (by unfold maxLen;omega) (by omega) hw.oV
 have Ho:(Value.slice A m cap).ownBlock=A.map (·.block):=by cases A<;>rfl
 rw[Ho]at h3
 have qZ: ∃A' cap',v'= .slice A' (m+s.size) cap'∧rowIs A' cap' E 1 (m+s.size) (xs++Lib.strCells s) ((A'.map (·.block)).bind fun b=>w'.heap[b]?)∧∀b,A'.map (·.block)=some b→b < w'.heap.size:=by
  obtain⟨h6,h7⟩:=h2
  rcases h7 with⟨rfl,h8⟩|⟨g,cap',cur,rfl,SF,hg,hnc,hcm,hcs,dA⟩
  ·exact⟨none,0,by rw[h8],⟨h6,.inl ⟨rfl,h8,rfl⟩⟩,fun b hb=>by cases hb⟩
  ·exact⟨some ⟨g,0,none⟩,cap',rfl,⟨h6,.inr ⟨g,cur,rfl,hg,hnc,hcm,hcs,dA⟩⟩,fun b hb=>by cases hb;exact(Array.getElem?_eq_some_iff.1 hg).1⟩
 obtain⟨A',cap',rfl,h6,h7⟩:=qZ
 have sp: ∀b,A'.map (·.block)=some b→A.map (·.block)=some b∨w.heap.size≤b:=by
  have hxl:xs.length=m:=by simpa using hl
  rcases hs with⟨rfl,rfl,rfl⟩|⟨g,cur,rfl,ED,lp,hcm,hcs,dA⟩
  ·have hx0:xs= []:=List.eq_nil_of_length_eq_zero hxl
   subst hx0
   obtain⟨v2,w2,k1,k2,_,_⟩:=Lib.run_append_own_string (P:=P) w w.heap.size t u ty E inf hT hU B_ oO hsz Kb (.slice none 0 0) 0 [] (World.ownsRow_nil w _ E 1) s (by unfold maxLen;omega) (by omega) (Nat.le_refl _)
   rw[hr]at k1
   cases k1
   intro b hb
   rcases k2.2 with⟨hv,_⟩|⟨g,cap2,cur,hv,SF,_⟩
   ·rw[(Value.slice.inj hv).1]at hb;cases hb
   ·rw[(Value.slice.inj hv).1]at hb;cases hb;exact .inr SF
  ·have hg:w.heap[g]? =some (.cells cur E (0,0)):=ED
   have Md:cur.size=cap:=by simpa using hcs
   by_cases hroom:m+s.size≤cap
   ·have k:=Lib.run_append_room_string (P:=P) w t u ty E inf hT hU B_ hsz g m cap cur hg s hroom (by omega)
    rw[hr]at k
    cases k
    exact fun b hb=> .inl hb
   ·have holds: ∀j q,xs[j]? =some q→w.cell? ((⟨g,0,none⟩:Addr).add j)=some q:=by
     intro j q hj
     rw[dz,Nat.zero_add]
     refine dN hg ?_
     rw[←dA,List.getElem?_take]at hj
     split at hj
     ·simpa using hj
     ·cases hj
    have k:=Lib.run_append_grow_string (P:=P) w t u ty E inf (.int .u8 0) hT hU B_ oO ⟨g,0,none⟩ m cap xs (by rw[hsz];simpa using hxl) holds s (by omega) (by omega) (by rw[Kb];exact growslice_fits (by omega) (by omega))
    rw[hr]at k
    cases k
    exact fun b hb=>by cases hb;exact .inr (Nat.le_refl _)
 unfold Oper.wp execOp
 simp only[resolve,invoke,builtin,Sem.run_bind,Sem.run_pure,Result.andThen_ok,List.map_toArray,List.map_cons,List.map_nil,hx a ha,hy a ha,hr]
 exact h A' cap' _ _ (ha.put d _ hd) (hw.Eu hi h3.os h3.tape h3.output h3.size (fun k hk hk'=>h3.block k hk (fun e=>hk' (by simp[cc,Chunk.one,←e]))) h6 (by simp only[cc,Chunk.one];cases A'<;>simp) (fun b hb=>by
  have hb':A'.map (·.block)=some b:=by simpa[cc,Chunk.one]using hb
  rcases sp b hb' with h8|h8
  ·left;simp[cc,Chunk.one,h8]
  ·exact .inr ⟨h8,h7 b hb'⟩))
theorem Y.KD{T:TypeId}{a:Addr}{m cap:Nat}{ty:TypeId}(hx:ap n e x (.slice (some a) m cap))(hc:cap≠0):
  Yd P n base w0 e L ⟨D,.call {callee:= .builtin .unsafeSliceData,args:= #[x],argTypes:= #[T]},ty,pos,af,G⟩ (.pointer (some a)):=by
 intro ac w ha _
 simp[execOp,resolve,invoke,builtin,hx ac ha,Lib.run_unsafeSliceData_row w #[T] ty a m cap hc]
theorem WO.Zb{T1 T2 E g i cap:Nat}{ty:TypeId}{l:ByteArray}(hp:P.underlying T1=some (.pointer E))(hc:P.cellsOf E=1)(h0:l.size≠0)
  (hx:ap n e x (.pointer (some ⟨g,0,none⟩)))(hy:ap n e y (.int .i64 ((l.size:Nat):Int)))(hi:L[i]? =some (cc (some ⟨g,0,none⟩) cap E 1 l.size (Lib.strCells l)))(hd:Nat.blt d n=true)
  (h:KK n base w0 ((d,.string l)::e) (L.set i (cF True)) K):
  WO P ops n base w0 e L ⟨some d,.call {callee:= .builtin .unsafeString,args:= #[x,y],argTypes:= #[T1,T2]},ty,pos,af,none⟩ K Q:=by
 refine WO.of_run rfl fun a w ha hw=>?_
 obtain⟨hl,hs⟩:=hw.sat _ (List.mem_of_getElem? hi)
 rcases hs with⟨h1,_,_⟩|⟨g',cur,hg',ED,lp,hcm,hcs,dA⟩
 ·cases h1
 cases hg'
 have hg:w.heap[g]? =some (.cells cur E (0,0)):=ED
 have hsz:l.data.toList.length=l.size:=by simp
 have Md:cur.size=cap:=by simpa using hcs
 have hr:(Builtin.unsafeString_ #[T1,T2] ty #[.pointer (some ⟨g,0,none⟩),.int .i64 ((l.size:Nat):Int)]).run P w= .ok (.string l) (w.freeze ⟨g,0,none⟩ l.size):=by
  have:=Lib.run_unsafeString_row (P:=P) w T1 T2 ty E hp hc g cur.size (by simp[World.shape?,hg]) l.data.toList (by intro h;rw[h]at hsz;exact h0 hsz.symm) (by rw[hsz];omega) (by rw[hsz];unfold maxLen at hcm;omega) (fun j q hj=>by
   rw[dz,Nat.zero_add]
   refine dN hg ?_
   have h3:(Lib.strCells l)[j]? =some (.int .u8 q.toNat):=by rw[Lib.strCells_eq];simp[Lib.byteCells,hj]
   rw[←dA,List.getElem?_take]at h3
   split at h3
   ·simpa using h3
   ·cases h3)
  rw[hsz]at this
  exact this
 unfold Oper.wp execOp
 simp only[resolve,invoke,builtin,Sem.run_bind,Sem.run_pure,Result.andThen_ok,List.map_toArray,List.map_cons,List.map_nil,hx a ha,hy a ha,hr]
 have OH:Below g w (w.freeze ⟨g,0,none⟩ l.size):=Lib.below_freeze (Below.refl g w) (p:=⟨g,0,none⟩) (Nat.le_refl _) _
 refine h _ _ (ha.put d _ hd) (hw.Eu hi OH.os OH.tape OH.output OH.size (fun k hk hk'=>?_) trivial (by simp[cF]) (fun b hb=>by simp[cF]at hb))
 ·have hk2:g≠k:=fun e=>hk' (by simp[cc,Chunk.one,e])
  unfold World.freeze
  split<;>simp[Array.getElem?_modify,hk2]
end
structure E6(P:Program)(gS gR gM:Nat)(w:World):Prop where
 tab:Lib.TabIs P w "internal/strconv.uint64pow10" .u64 Lib.pow10Tab
 syn: ∃ev,w.cell? ⟨gS,0,none⟩=some ev∧(ev= .nilIface∨∃te pe,ev= .iface te pe)
 bR: ∃ev,w.cell? ⟨gR,0,none⟩=some ev∧(ev= .nilIface∨∃te pe,ev= .iface te pe)
 max: ∃m,w.cell? ⟨gM,0,none⟩=some (.int .i64 m)
theorem Mo{P:Program}{w w':World}{name:String}{cs:Array Value}(h:w.var? P name=some cs)(hb:Below w.heap.size w w'):w'.var? P name=some cs:=by
 unfold World.var? at h⊢
 cases hn:P.globalNamed name with
 |none=>rw[hn]at h;cases h
 |some g=>
  rw[hn,Option.bind_some]at h
  rw[Option.bind_some]
  have hlt:g < w.heap.size:=by
   rcases Nat.lt_or_ge g w.heap.size with h'|h'
   ·exact h'
   ·rw[Array.getElem?_eq_none h']at h;cases h
  rw[hb.block g hlt];exact h
theorem E6.mono{P:Program}{gS gR gM:Nat}{w w':World}{L:List Chunk}(h:E6 P gS gR gM w)(hw:St w.heap.size w L w'):E6 P gS gR gM w':=by
 obtain⟨e1,h1,k1⟩:=h.syn
 obtain⟨e2,h2,k2⟩:=h.bR
 obtain⟨m,h3⟩:=h.max
 exact⟨Mo h.tab hw.below,⟨e1,hw.C7 h1,k1⟩,⟨e2,hw.C7 h2,k2⟩,⟨m,hw.C7 h3⟩⟩
theorem St.qU{w w':World}(h:Below w.heap.size w w'):St w.heap.size w [] w':=⟨h,Nat.le_refl _,by simp,by simp[owns],by simp[owns]⟩
theorem Pure.qU{P:Program}{f:FuncId}{vs:List Value}{w:World}{v:Value}(h:Calls P f vs.toArray w fun e w'=>e= .returned v∧Below w.heap.size w w'):Pure P f vs w v:=h.mono fun _ _ ⟨h1,h2⟩=>⟨h1,.qU h2⟩
theorem Pure.KE{P:Program}{f:FuncId}{vs:List Value}{w:World}{v:Value}(h:Calls P f vs.toArray w fun e w'=>e= .returned v∧w'=w):Pure P f vs w v:=h.mono fun _ _ ⟨h1,h2⟩=>⟨h1,by rw[h2];exact .start w⟩
theorem Jb(w:World)(k:Nat)(os:Array Obj):Below w.heap.size w (Go.Sort.grow (w.drewN k) os):=by
 refine⟨rfl,rfl,rfl,?_,fun j hj=>?_⟩
 ·simp[Go.Sort.grow,World.drewN]
 ·simp only[Go.Sort.grow,World.drewN]
  rw[Array.getElem?_append_left (by simpa using hj)]
section
variable {P:Program} {ρ:Go.Shelf.Ren}
open Go.Shelf
def pF(N:Nat)(n:Int):Option ByteArray:=if -9223372036854775808≤n∧n≤9223372036854775807 then some ⟨(Lib.itoa n).toArray⟩else none
theorem KF(Ly:LaysM.n171 P ρ){N:Nat}{n:Int}{res:ByteArray}(hF:pF N n=some res)(w:World){gS gR gM:Nat}(hG:E6 P gS gR gM w):Pure P (ρ.f 171) [.int .i64 n] w (.string res):=by
 unfold pF at hF
 split at hF
 case isFalse=>cases hF
 rename_i h
 cases hF
 refine .qU ((Any.strconv_Itoa Ly n h.1 h.2 w hG.tab).mono fun e w' ⟨h1,k,os,h2⟩=>⟨h1,?_⟩)
 rw[h2];exact Jb w k os
def yB(N:Nat)(s:ByteArray):Option (Int×Bool):=if s.size≤281474976710656 then some (match Lib.atoiAll s.data.toList with
 | .ok v=>(v,false)
 | .range=>(Lib.atoiSat s.data.toList,true)
 |_=>(0,true))else none
theorem KG(Ly:LaysC.n172 P ρ){N:Nat}{s:ByteArray}{res:Int×Bool}(hF:yB N s=some res)(w:World){gM:Nat}(hG:E6 P (ρ.g 15) (ρ.g 16) gM w):
  Made P (ρ.f 172) [.string s] w (fun g:TypeId×Value=> .tuple #[.int .i64 res.1,Cf res.2 g]) (fun _=>[]) (fun _=>True):=by
 unfold yB at hF
 split at hF
 case isFalse=>cases hF
 rename_i h
 cases hF
 obtain⟨e1,h1,k1⟩:=hG.syn
 obtain⟨e2,h2,k2⟩:=hG.bR
 cases hA:Lib.atoiAll s.data.toList with
 |ok v=>
  refine(Any.strconv_Atoi_ok Ly s (by omega) v hA w).mono fun e w' ⟨h3,h4⟩=>⟨(0,.nilIface),trivial,h3,.qU ?_⟩
  rcases h4 with rfl|⟨t,rfl⟩
  ·exact Below.refl _ _
  ·exact Lib.bytesWorld_below _ _ _
 |range=>
  exact(Any.strconv_Atoi_range Ly s h hA e2 w h2 k2).mono fun e w' ⟨N,h3,_,_,h4⟩=>⟨(ρ.t 168,.pointer (some ⟨N,0,none⟩)),trivial,h3,.qU h4⟩
 |_=>
  exact(Any.strconv_Atoi_syntax Ly s h hA e1 w h1 k1).mono fun e w' ⟨N,h3,_,_,h4⟩=>⟨(ρ.t 168,.pointer (some ⟨N,0,none⟩)),trivial,h3,.qU h4⟩
def nX(N:Nat)(s sep:ByteArray):Option (List ByteArray):=if s.size < 4294967281∧1≤sep.size then some (Lib.splitB sep 0 (Lib.countB s sep) s)else none
theorem Jc(Ly:LaysM.n146 P ρ){N:Nat}{s sep:ByteArray}{res:List ByteArray}(hF:nX N s sep=some res)(w:World){gS gR:Nat}(hG:E6 P gS gR (ρ.g 1) w):
  Made P (ρ.f 146) [.string s,.string sep] w (fun g:Option Addr×Nat=> .slice g.1 res.length g.2) (fun g=>[cR eS 1 g.1 g.2 (ρ.t 9) res]) (fun _=>True):=by
 unfold nX at hF
 split at hF
 case isFalse=>cases hF
 rename_i h
 cases hF
 obtain⟨m,hm⟩:=hG.max
 have hle:=Lib.countB_le sep h.2 s.size s (Nat.le_refl _)
 have hlen:=Lib.splitB_all sep h.2 0 _ s rfl
 refine(Any.strings_Split {Ly with} Ly.i9 s sep m w h.1 hm h.2).mono fun e w' ⟨h1,h2⟩=>⟨(some ⟨w.heap.size,0,none⟩,Lib.countB s sep+1),trivial,by rw[h1,hlen],?_⟩
 subst h2
 generalize Lib.splitB sep 0 (Lib.countB s sep) s=res at hlen
 refine St.IP (o:=some w.heap.size) ((St.start w).alloc _) (fun o ho=>?_)
 subst ho
 have e1: ∀l:List ByteArray,l.flatMap eS=l.map Value.string:=fun l=>by
  induction l with
  |nil=>rfl
  |cons a r ih=>rw[List.flatMap_cons,ih];rfl
 refine⟨by rw[e1];simp,.inr ⟨w.heap.size,_,rfl,rfl,by omega,by unfold maxLen;omega,by simp[hlen],?_⟩⟩
 rw[e1]
 show List.take (res.length * 1) (res.map Value.string)=_
 rw[List.take_of_length_le (by simp)]
def S_(N:Nat)(s sep:ByteArray):Option Int:=if s.size < 4294967281∧1≤sep.size then some ((Lib.countB s sep:Nat):Int)else none
def Zc(N:Nat)(s p:ByteArray):Option Bool:=if s.size≤9223372036854775807 then some (Lib.hasSuffix s.data.toList p.data.toList)else none
section
variable {D:Option Tmp} {G:Option (Nat×Bool)} {x:Operand} {t:TypeId} {pos:String} {af:Array Edge} {n base:Nat} {w0:World} {L:List Chunk} {e:Env} {b i:Nat} {T' S T u:TypeId} {cs:List Value} {P:Program}
theorem E7{w:World}(hw:St base w0 L w)(hi:L[i]? =some (al b T' cs)):w.shape? b=some (T',cs.length):=by
 have:=hw.obj hi
 simp[World.shape?,this]
theorem Y.toU{j:TypeInfo}(hS:P.underlying S=some (.pointer u))(hT:P.underlying T=some .unsafePointer)(hj:P.info? u=some j)(h0:j.size≠0)(hx:ap n e x (.pointer (some ⟨b,0,none⟩)))(hi:L[i]? =some (al b T' cs))(hc:0 < cs.length):Yd P n base w0 e L ⟨D,.convert S T x,t,pos,af,G⟩ (.pointer (some ⟨b,0,none⟩)):=by
 intro a w ha hw
 have:=Lib.run_to_unsafe (P:=P) w ⟨b,0,none⟩ hS hT hj h0 (E7 hw hi) hc
 simp only[execOp,hx a ha,Sem.run_bind,this,Result.andThen_ok,Sem.run_pure]
theorem Y.ofU{j:TypeInfo}(hS:P.underlying S=some .unsafePointer)(hT:P.underlying T=some (.pointer u))(hj:P.info? u=some j)(hx:ap n e x (.pointer (some ⟨b,0,none⟩)))(hi:L[i]? =some (al b T' cs))(hl:liesAt P P.depth T' (cs.length / P.cellsOf T') 0 u 1=true):Yd P n base w0 e L ⟨D,.convert S T x,t,pos,af,G⟩ (.pointer (some ⟨b,0,none⟩)):=by
 intro a w ha hw
 have:=Lib.run_from_unsafe (P:=P) w ⟨b,0,none⟩ hS hT hj (E7 hw hi) hl
 simp only[execOp,hx a ha,Sem.run_bind,this,Result.andThen_ok,Sem.run_pure]
theorem Y.KH{T E:TypeId}{o:Option Addr}{ty:TypeId}(hT:P.underlying T=some (.pointer E))(hx:ap n e x (.pointer o)):Yd P n base w0 e L ⟨D,.binOp .eql T x (.const (.pointer none)) ty,t,pos,af,G⟩ (.bool o.isNone):=by
 intro a w ha _
 have h: ∀dp,(Op.equalIn (dp+1) T (.pointer o) (.pointer none)).run P w= .ok o.isNone w:=fun dp=>by
  cases o<;>simp[Op.equalIn,run_underlying hT]
 have:=h 9999
 simp[execOp,hx a ha,lD,eqGuard,binOp,Op.equal,Op.maxDepth,this]
theorem Y.Ta{T E:TypeId}{a:Addr}{j:TypeInfo}{y:Operand}{ty:TypeId}(hT:P.underlying T=some (.pointer E))(hj:P.info? E=some j)(hx:ap n e x (.pointer (some a)))(hy:ap n e y (.pointer (some a))):Yd P n base w0 e L ⟨D,.binOp .neq T x y ty,t,pos,af,G⟩ (.bool false):=by
 intro a' w ha _
 have:=Lib.run_neq_ptr_same (P:=P) w a hT hj
 simp[execOp,hx a' ha,hy a' ha,eqGuard,this]
theorem Y.Wq{f:FuncId}{v:Value}{ats:Array TypeId}(hf: ∀w,(callFunc f #[v]).run P w= .ok (.value v) w)(hx:ap n e x v):Yd P n base w0 e L ⟨D,.call {callee:= .value (.func f),args:= #[x],argTypes:=ats},t,pos,af,G⟩ v:=by
 intro a w ha hw
 simp[execOp,resolve,Deferred.ofValue,Hj,invoke,hx a ha,hf w]
end
def Dk:TypeDesc→Bool
 | .interface _=>false
 |_=>true
inductive Pt|s (x:ByteArray)|i (x:Int)|e (x:Int)
deriving DecidableEq
def zn(a b c:TypeId):Pt→Value
 | .s x=> .iface a (.string x)
 | .i x=> .iface b (.int .i64 x)
 | .e x=> .iface c (.int .i64 x)
def gy(a b c:TypeId)(p:Pt):List Value:=[zn a b c p]
theorem Ea{a b c:TypeId}: ∀x,∀v∈gy a b c x,v.oneCell'=true:=fun x v h=>by
 simp only[gy,List.mem_singleton]at h
 subst h
 cases x<;>rfl
def HI:Pt→ByteArray×Bool
 | .s x=>(x,true)
 |_=>(⟨#[]⟩,false)
def Bc:Pt→Int×Bool
 | .i x=>(x,true)
 |_=>(0,false)
def Bd:Pt→Int×Bool
 | .e x=>(x,true)
 |_=>(0,false)
section
variable {D:Option Tmp} {G:Option (Nat×Bool)} {x:Operand} {t xt:TypeId} {pos:String} {af:Array Edge} {n base:Nat} {w0:World} {L:List Chunk} {e:Env} {a b c:TypeId} {p:Pt} {P:Program}
theorem E8{T T':TypeId}{d:TypeDesc}{v z:Value}(hT:P.underlying T=some d)(hd:Dk d=true)(hz: ∃i,P.info? T=some i∧i.zero=some z)(w:World):
  (Instr.typeAssert (.iface T' v) xt T true).run P w= .ok (if T'=T then .tuple #[v,.bool true]else .tuple #[z,.bool false]) w:=by
 obtain⟨i,hi,hz⟩:=hz
 unfold Instr.typeAssert
 by_cases h:T'=T
 ·cases d<;>simp_all[run_underlying hT,Dk]
 ·cases d<;>simp_all[run_underlying hT,zeroValue,typeInfo,Dk]
theorem Y.asS{d:TypeDesc}(hT:P.underlying a=some d)(hd:Dk d=true)(hz: ∃i,P.info? a=some i∧i.zero=some (.string ⟨#[]⟩))(h1: ¬b=a)(h2: ¬c=a)(hx:ap n e x (zn a b c p)):Yd P n base w0 e L ⟨D,.typeAssert x xt a true,t,pos,af,G⟩ (.tuple #[.string (HI p).1,.bool (HI p).2]):=by
 intro q w ha _
 cases p<;>simp[execOp,hx q ha,zn,E8 hT hd hz,h1,h2,HI]
theorem Y.asI{d:TypeDesc}(hT:P.underlying b=some d)(hd:Dk d=true)(hz: ∃i,P.info? b=some i∧i.zero=some (.int .i64 0))(h1: ¬a=b)(h2: ¬c=b)(hx:ap n e x (zn a b c p)):Yd P n base w0 e L ⟨D,.typeAssert x xt b true,t,pos,af,G⟩ (.tuple #[.int .i64 (Bc p).1,.bool (Bc p).2]):=by
 intro q w ha _
 cases p<;>simp[execOp,hx q ha,zn,E8 hT hd hz,h1,h2,Bc]
theorem Y.asE{d:TypeDesc}(hT:P.underlying c=some d)(hd:Dk d=true)(hz: ∃i,P.info? c=some i∧i.zero=some (.int .i64 0))(h1: ¬a=c)(h2: ¬b=c)(hx:ap n e x (zn a b c p)):Yd P n base w0 e L ⟨D,.typeAssert x xt c true,t,pos,af,G⟩ (.tuple #[.int .i64 (Bd p).1,.bool (Bd p).2]):=by
 intro q w ha _
 cases p<;>simp[execOp,hx q ha,zn,E8 hT hd hz,h1,h2,Bd]
theorem Y.fW{T:TypeId}{v:Value}{d:TypeDesc}(p:Pt)(hT:P.underlying T=some d)(hd:Dk d=true)(hx:ap n e x v)(hp:zn a b c p= .iface T v):Yd P n base w0 e L ⟨D,.makeInterface T x,t,pos,af,G⟩ (zn a b c p):=by
 intro q w ha _
 rw[hp]
 cases d<;>simp_all[execOp,hx q ha,Instr.makeInterface,run_underlying hT,Dk]
end
def nY(N:Nat)(s p:ByteArray):Option Bool:=some (Lib.hasPrefix s.data.toList p.data.toList)
theorem Mp(Ly:Lays.n99 P ρ){N:Nat}{s p:ByteArray}{res:Bool}(hF:nY N s p=some res)(w:World):Pure P (ρ.f 99) [.string s,.string p] w (.bool res):=by
 cases hF
 exact .KE (Any.strings_HasPrefix Ly s p w)
def Mq(N:Nat)(s p:ByteArray):Option (ByteArray×Bool):=some (⟨(Lib.trimPrefix s.data.toList p.data.toList).toArray⟩,Lib.hasPrefix s.data.toList p.data.toList)
theorem Mr(Ly:Lays.n103 P ρ){N:Nat}{s p:ByteArray}{res:ByteArray×Bool}(hF:Mq N s p=some res)(w:World):Pure P (ρ.f 103) [.string s,.string p] w (.tuple #[.string res.1,.bool res.2]):=by
 cases hF
 exact .KE (Any.strings_CutPrefix Ly s p w)
def aaV(N:Nat)(s sub:ByteArray):Option Bool:=if s.size < 4294967281 then some (Lib.contains s.data.toList sub.data.toList)else none
def aaN(N:Nat)(xs:List ByteArray)(sep:ByteArray):Option ByteArray:=if xs.length≤140737488355328∧(Lib.join (xs.map (·.data.toList)) sep.data.toList).length≤140737488355328 then some ⟨(Lib.join (xs.map (·.data.toList)) sep.data.toList).toArray⟩else none
end
end Go.Proofs.YtjdkkabcenohcaaGreatDoor
