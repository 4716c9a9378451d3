import Derived.Test.YtjdkkabcenohcaaGreatDoorBor
import Derived.Test.YtjdkkabcenohcaaGreatDoorIface
import Derived.Test.YtjdkkabcenohcaaGreatDoorShelf
import Derived.Lib.Builder
import Derived.Lib.AppendStr
import Derived.Lib.UnsafeStr
import Derived.Lib.LaidTab
import Derived.Laws.Concat
import Derived.Laws.Strings
import Derived.Shelf.Strings.Builder1
import Derived.Shelf.Strings.OnBuilder
import Derived.Shelf.Strings.SplitShaped
import Derived.Shelf.Strings.Count
import Derived.Shelf.Strings.Prefix
import Derived.Shelf.Strings.Search3
import Derived.Shelf.Small.Wraps
import Derived.Shelf.Strconv.AtoiAll
import Derived.Shelf.Strconv.Itoa3
set_option linter.unusedVariables false
set_option linter.unusedSimpArgs false
set_option linter.unusedSectionVars false
namespace Go.Proofs.YtjdkkabcenohcaaGreatDoor
open Go.RowKit
section
variable {P:Program} {n:Nat} {base:Nat} {w0 w:World} {L:List Chunk} {e:Env}
variable {ops rest:List Oper} {Q:Exit→Act→World→Prop} {K:Act→World→Prop} {d:Nat} {D:Option Tmp} {op:Op} {t:TypeId} {pos:String} {af:Array Edge} {G:Option (Nat×Bool)} {x y z:Operand} {v:Value} {tx ty:TypeId}
theorem UX(a b:ByteArray):(a.toList==b.toList)=decide (a=b):=by
 rw[Lib.toList_data,Lib.toList_data]
 rw[Bool.eq_iff_iff,beq_iff_eq,decide_eq_true_eq]
 exact⟨fun h=>ByteArray.ext (Array.toList_inj.1 h),fun h=>by rw[h]⟩
theorem MZ{T:TypeId}{a b:ByteArray}(hT:P.underlying T=some .string)(w:World)(dp:Nat):(Op.equalIn (dp+1) T (.string a) (.string b)).run P w= .ok (decide (a=b)) w:=by
 rw[run_equalIn_string w dp T a b hT,UX]
theorem Y.Ph{a b:ByteArray}(hT:P.underlying tx=some .string)(hx:aD n e x (.string a))(hy:aD n e y (.string b)):Yd P n base w0 e L ⟨D,.binOp .eql tx x y ty,t,pos,af,G⟩ (.bool (decide (a=b))):=by
 intro ac w ha _
 have:=MZ (P:=P) (a:=a) (b:=b) hT w 9999
 simp[execOp,hx ac ha,hy ac ha,eqGuard,binOp,Op.equal,Op.maxDepth,Op.stringOp,this,UX]
theorem Y.aiu{a b:ByteArray}(hT:P.underlying tx=some .string)(hx:aD n e x (.string a))(hy:aD n e y (.string b)):Yd P n base w0 e L ⟨D,.binOp .neq tx x y ty,t,pos,af,G⟩ (.bool (!(decide (a=b)))):=by
 intro ac w ha _
 have:=MZ (P:=P) (a:=a) (b:=b) hT w 9999
 simp[execOp,hx ac ha,hy ac ha,eqGuard,binOp,Op.equal,Op.maxDepth,Op.stringOp,this,UX]
def Et(a b:ByteArray):Bool:=decide (a.size+b.size≤9223372036854775807)
theorem Y.Lw{a b:ByteArray}(hx:aD n e x (.string a))(hy:aD n e y (.string b))(h:Et a b=true):Yd P n base w0 e L ⟨D,.binOp .add tx x y ty,t,pos,af,G⟩ (.string (a++b)):=by
 intro ac w ha _
 have:=run_string_add_sum (P:=P) w a b (of_decide_eq_true h)
 simp[execOp,hx ac ha,hy ac ha,eqGuard,binOp,this]
theorem Y.UY{T:TypeId}{a:ByteArray}(hT:P.underlying T=some .string)(hx:aD n e x (.string a)):
  Yd P n base w0 e L ⟨D,.call {callee:= .builtin .len,args:= #[x],argTypes:= #[T]},t,pos,af,G⟩ (.int .i64 ((a.size:Nat):Int)):=by
 intro ac w ha _;simp[execOp,resolve,invoke,builtin,Builtin.len_,hx ac ha,run_underlying hT,goInt]
def Lx(b:Bool)(g:TypeId×Value):Value:=cond b (.iface g.1 g.2) .nilIface
theorem UZ{T:TypeId}{ms:_}{b:Bool}{g:TypeId×Value}(hT:P.underlying T=some (.interface ms))(w:World)(dp:Nat):(Op.equalIn (dp+1) T (Lx b g) .nilIface).run P w= .ok (!b) w:=by
 unfold Op.equalIn
 rw[Sem.run_bind,run_underlying hT]
 cases b<;>rfl
theorem Y.aeo{T:TypeId}{ms:_}{b:Bool}{g:TypeId×Value}(hT:P.underlying T=some (.interface ms))(hx:aD n e x (Lx b g)):Yd P n base w0 e L ⟨D,.binOp .eql T x (.const .nilIface) ty,t,pos,af,G⟩ (.bool (!b)):=by
 intro a w ha _
 have:=UZ (P:=P) (b:=b) (g:=g) hT w 9999
 have hg:(eqGuard .eql T x (.const .nilIface) (Lx b g) .nilIface).run P w= .ok () w:=by
  cases b<;>simp[eqGuard,Lx]
 simp[execOp,hx a ha,o0,binOp,Op.equal,Op.maxDepth,this,hg]
def lN(T E:TypeId)(b:Nat)(p:Value)(A:Option Addr)(cap:Nat)(l:ByteArray):Chunk:=
 nB [aw b T [p,.slice A l.size cap],eR A cap E 1 l.size (Lib.strCells l),cF (p= .pointer none∨p= .pointer (some ⟨b,0,none⟩))]
theorem cp.sb0{T:TypeId}(E:TypeId){b:Nat}:cp (aw b T [.pointer none,.slice none 0 0]::L) (lN T E b (.pointer none) none 0 ⟨#[]⟩::L):=
 .trans (.cons (.trans (.fact (p:=Value.pointer none= .pointer none∨Value.pointer none= .pointer (some ⟨b,0,none⟩)) (.inl rfl)) (.qp (fun q:Value=>[q]) 1 E))) (.AW (M:=[_,_,_]))
theorem St.JX{T E:TypeId}{b:Nat}{p:Value}{A:Option Addr}{cap:Nat}{l:ByteArray}(h:St base w0 (lN T E b p A cap l::L) w):(p= .pointer none∨p= .pointer (some ⟨b,0,none⟩))∧St base w0 (aw b T [p,.slice A l.size cap]::eR A cap E 1 l.size (Lib.strCells l)::L) w:=by
 have h1:=cp.Hp (M:=[_,_,_]) [] _ _ _ h
 refine⟨h1.sat (cF _) (by simp),?_⟩
 exact h1.sub ⟨[cF (p= .pointer none∨p= .pointer (some ⟨b,0,none⟩))],by
  simp only[List.nil_append,List.cons_append]
  refine List.Perm.cons _ (List.Perm.cons _ ?_)
  exact List.perm_append_comm (l₁:=L) (l₂:=[_])⟩
theorem St.S5{T E:TypeId}{b:Nat}{A:Option Addr}{cap:Nat}{l:ByteArray}(h:St base w0 (aw b T [.pointer (some ⟨b,0,none⟩),.slice A l.size cap]::eR A cap E 1 l.size (Lib.strCells l)::L) w):St base w0 (lN T E b (.pointer (some ⟨b,0,none⟩)) A cap l::L) w:=
 cp.at (.trans (.cons (.cons (.fact (.inr rfl)))) (.AW (M:=[_,_,_]))) _ _ _ h
theorem F6(a b:ByteArray):Lib.strCells (a++b)=Lib.strCells a++Lib.strCells b:=by
 rw[Lib.strCells_eq,Lib.strCells_eq,Lib.strCells_eq,←Lib.byteCells_append,ByteArray.data_append,Array.toList_append]
theorem WO.S6{t u E i m cap:Nat}{A:Option Addr}{xs:List Value}{s:ByteArray}{ty:TypeId}(hT:P.underlying t=some (.slice E))(hU:P.underlying u=some .string)(hz: ∃i,P.info? E=some i∧i.zero=some (.int .u8 0)∧i.size=1∧i.bytes=1)
  (hx:aD n e x (.slice A m cap))(hy:aD n e y (.string s))(hi:L[i]? =some (eR A cap E 1 m xs))(hby:m+s.size≤140737488351232)(hd:Nat.blt d n=true)
  (h: ∀A' cap',KK n base w0 ((d,.slice A' (m+s.size) cap')::e) (L.set i (eR A' cap' E 1 (m+s.size) (xs++Lib.strCells s))) K):
  WO P ops n base w0 e L ⟨some d,.call {callee:= .builtin .append,args:= #[x,y],argTypes:= #[t,u]},ty,pos,af,none⟩ K Q:=by
 refine WO.of_run rfl fun a w ha hw=>?_
 obtain⟨inf,Lm,wh,hsz,Wf⟩:=hz
 obtain⟨hl,hs⟩:=hw.sat _ (List.mem_of_getElem? hi)
 have hown:w.ownsRow base E 1 (.slice A m cap) m xs:=by
  refine⟨hl,?_⟩
  rcases hs with⟨rfl,rfl,rfl⟩|⟨g,cur,rfl,hx,rJ,hcm,hcs,ij⟩
  ·exact .inl ⟨rfl,rfl⟩
  ·exact .inr ⟨g,cap,cur,rfl,(hw.ge g (xF (List.mem_of_getElem? hi) (List.mem_singleton.2 rfl))).1,hx,rJ,hcm,hcs,ij⟩
 obtain⟨v',w',hr,h2,h3,h5⟩:=Lib.run_append_own_string (P:=P) w base t u ty E inf hT hU Lm wh hsz Wf (.slice A m cap) m xs hown s (by unfold maxLen;omega) (by omega) hw.xE
 have SN:(Value.slice A m cap).ownBlock=A.map (·.block):=by cases A<;>rfl
 rw[SN]at h3
 have FR: ∃A' cap',v'= .slice A' (m+s.size) cap'∧rowIs A' cap' E 1 (m+s.size) (xs++Lib.strCells s) ((A'.map (·.block)).bind fun b=>w'.heap[b]?)∧∀b,A'.map (·.block)=some b→b < w'.heap.size:=by
  obtain⟨h6,h7⟩:=h2
  rcases h7 with⟨rfl,h8⟩|⟨g,cap',cur,rfl,hbg,hg,hnc,hcm,hcs,ij⟩
  ·exact⟨none,0,by rw[h8],⟨h6,.inl ⟨rfl,h8,rfl⟩⟩,fun b hb=>by cases hb⟩
  ·exact⟨some ⟨g,0,none⟩,cap',rfl,⟨h6,.inr ⟨g,cur,rfl,hg,hnc,hcm,hcs,ij⟩⟩,fun b hb=>by cases hb;exact(Array.getElem?_eq_some_iff.1 hg).1⟩
 obtain⟨A',cap',rfl,h6,h7⟩:=FR
 have Cb: ∀b,A'.map (·.block)=some b→A.map (·.block)=some b∨w.heap.size≤b:=by
  have hxl:xs.length=m:=by simpa using hl
  rcases hs with⟨rfl,rfl,rfl⟩|⟨g,cur,rfl,AP,rJ,hcm,hcs,ij⟩
  ·have hx0:xs= []:=List.eq_nil_of_length_eq_zero hxl
   subst hx0
   obtain⟨v2,w2,k1,k2,_,_⟩:=Lib.run_append_own_string (P:=P) w w.heap.size t u ty E inf hT hU Lm wh hsz Wf (.slice none 0 0) 0 [] (World.ownsRow_nil w _ E 1) s (by unfold maxLen;omega) (by omega) (Nat.le_refl _)
   rw[hr]at k1
   cases k1
   intro b hb
   rcases k2.2 with⟨hv,_⟩|⟨g,cap2,cur,hv,hbg,_⟩
   ·rw[(Value.slice.inj hv).1]at hb;cases hb
   ·rw[(Value.slice.inj hv).1]at hb;cases hb;exact .inr hbg
  ·have hg:w.heap[g]? =some (.cells cur E (0,0)):=AP
   have Yw:cur.size=cap:=by simpa using hcs
   by_cases hroom:m+s.size≤cap
   ·have k:=Lib.run_append_room_string (P:=P) w t u ty E inf hT hU Lm hsz g m cap cur hg s hroom (by omega)
    rw[hr]at k
    cases k
    exact fun b hb=> .inl hb
   ·have holds: ∀j q,xs[j]? =some q→w.cell? ((⟨g,0,none⟩:Addr).add j)=some q:=by
     intro j q hj
     rw[eX,Nat.zero_add]
     refine g_ hg ?_
     rw[←ij,List.getElem?_take]at hj
     split at hj
     ·simpa using hj
     ·cases hj
    have k:=Lib.run_append_grow_string (P:=P) w t u ty E inf (.int .u8 0) hT hU Lm wh ⟨g,0,none⟩ m cap xs (by rw[hsz];simpa using hxl) holds s (by omega) (by omega) (by rw[Wf];exact growslice_fits (by omega) (by omega))
    rw[hr]at k
    cases k
    exact fun b hb=>by cases hb;exact .inr (Nat.le_refl _)
 unfold Oper.wp execOp
 simp only[resolve,invoke,builtin,Sem.run_bind,Sem.run_pure,Result.andThen_ok,List.map_toArray,List.map_cons,List.map_nil,hx a ha,hy a ha,hr]
 exact h A' cap' _ _ (ha.put d _ hd) (hw.OC hi h3.os h3.tape h3.output h3.size (fun k hk hk'=>h3.block k hk (fun e=>hk' (by simp[eR,Chunk.one,←e]))) h6 (by simp only[eR,Chunk.one];cases A'<;>simp) (fun b hb=>by
  have hb':A'.map (·.block)=some b:=by simpa[eR,Chunk.one]using hb
  rcases Cb b hb' with h8|h8
  ·left;simp[eR,Chunk.one,h8]
  ·exact .inr ⟨h8,h7 b hb'⟩))
theorem Y.M0{T:TypeId}{a:Addr}{m cap:Nat}{ty:TypeId}(hx:aD n e x (.slice (some a) m cap))(hc:cap≠0):
  Yd P n base w0 e L ⟨D,.call {callee:= .builtin .unsafeSliceData,args:= #[x],argTypes:= #[T]},ty,pos,af,G⟩ (.pointer (some a)):=by
 intro ac w ha _
 simp[execOp,resolve,invoke,builtin,hx ac ha,Lib.run_unsafeSliceData_row w #[T] ty a m cap hc]
theorem WO.aep{T1 T2 E g i cap:Nat}{ty:TypeId}{l:ByteArray}(hp:P.underlying T1=some (.pointer E))(hc:P.cellsOf E=1)(h0:l.size≠0)
  (hx:aD n e x (.pointer (some ⟨g,0,none⟩)))(hy:aD n e y (.int .i64 ((l.size:Nat):Int)))(hi:L[i]? =some (eR (some ⟨g,0,none⟩) cap E 1 l.size (Lib.strCells l)))(hd:Nat.blt d n=true)
  (h:KK n base w0 ((d,.string l)::e) (L.set i (cF True)) K):
  WO P ops n base w0 e L ⟨some d,.call {callee:= .builtin .unsafeString,args:= #[x,y],argTypes:= #[T1,T2]},ty,pos,af,none⟩ K Q:=by
 refine WO.of_run rfl fun a w ha hw=>?_
 obtain⟨hl,hs⟩:=hw.sat _ (List.mem_of_getElem? hi)
 rcases hs with⟨h1,_,_⟩|⟨g',cur,hg',AP,rJ,hcm,hcs,ij⟩
 ·cases h1
 cases hg'
 have hg:w.heap[g]? =some (.cells cur E (0,0)):=AP
 have hsz:l.data.toList.length=l.size:=by simp
 have Yw:cur.size=cap:=by simpa using hcs
 have hr:(Builtin.unsafeString_ #[T1,T2] ty #[.pointer (some ⟨g,0,none⟩),.int .i64 ((l.size:Nat):Int)]).run P w= .ok (.string l) (w.freeze ⟨g,0,none⟩ l.size):=by
  have:=Lib.run_unsafeString_row (P:=P) w T1 T2 ty E hp hc g cur.size (by simp[World.shape?,hg]) l.data.toList (by intro h;rw[h]at hsz;exact h0 hsz.symm) (by rw[hsz];omega) (by rw[hsz];unfold maxLen at hcm;omega) (fun j q hj=>by
   rw[eX,Nat.zero_add]
   refine g_ hg ?_
   have h3:(Lib.strCells l)[j]? =some (.int .u8 q.toNat):=by rw[Lib.strCells_eq];simp[Lib.byteCells,hj]
   rw[←ij,List.getElem?_take]at h3
   split at h3
   ·simpa using h3
   ·cases h3)
  rw[hsz]at this
  exact this
 unfold Oper.wp execOp
 simp only[resolve,invoke,builtin,Sem.run_bind,Sem.run_pure,Result.andThen_ok,List.map_toArray,List.map_cons,List.map_nil,hx a ha,hy a ha,hr]
 have hbf:Below g w (w.freeze ⟨g,0,none⟩ l.size):=Lib.below_freeze (Below.refl g w) (p:=⟨g,0,none⟩) (Nat.le_refl _) _
 refine h _ _ (ha.put d _ hd) (hw.OC hi hbf.os hbf.tape hbf.output hbf.size (fun k hk hk'=>?_) trivial (by simp[cF]) (fun b hb=>by simp[cF]at hb))
 ·have hk2:g≠k:=fun e=>hk' (by simp[eR,Chunk.one,e])
  unfold World.freeze
  split<;>simp[Array.getElem?_modify,hk2]
end
structure M1(P:Program)(gS gR gM:Nat)(w:World):Prop where
 tab:Lib.TabIs P w "internal/strconv.uint64pow10" .u64 Lib.pow10Tab
 syn: ∃ev,w.cell? ⟨gS,0,none⟩=some ev∧(ev= .nilIface∨∃te pe,ev= .iface te pe)
 eJ: ∃ev,w.cell? ⟨gR,0,none⟩=some ev∧(ev= .nilIface∨∃te pe,ev= .iface te pe)
 max: ∃m,w.cell? ⟨gM,0,none⟩=some (.int .i64 m)
theorem YE{P:Program}{w w':World}{name:String}{cs:Array Value}(h:w.var? P name=some cs)(hb:Below w.heap.size w w'):w'.var? P name=some cs:=by
 unfold World.var? at h⊢
 cases hn:P.globalNamed name with
 |none=>rw[hn]at h;cases h
 |some g=>
  rw[hn,Option.bind_some]at h
  rw[Option.bind_some]
  have hlt:g < w.heap.size:=by
   rcases Nat.lt_or_ge g w.heap.size with h'|h'
   ·exact h'
   ·rw[Array.getElem?_eq_none h']at h;cases h
  rw[hb.block g hlt];exact h
theorem M1.mono{P:Program}{gS gR gM:Nat}{w w':World}{L:List Chunk}(h:M1 P gS gR gM w)(hw:St w.heap.size w L w'):M1 P gS gR gM w':=by
 obtain⟨e1,h1,k1⟩:=h.syn
 obtain⟨e2,h2,k2⟩:=h.eJ
 obtain⟨m,h3⟩:=h.max
 exact⟨YE h.tab hw.below,⟨e1,hw.JD h1,k1⟩,⟨e2,hw.JD h2,k2⟩,⟨m,hw.JD h3⟩⟩
theorem St.AH{w w':World}(h:Below w.heap.size w w'):St w.heap.size w [] w':=⟨h,Nat.le_refl _,by simp,by simp[owns],by simp[owns]⟩
theorem Pure.AH{P:Program}{f:FuncId}{vs:List Value}{w:World}{v:Value}(h:Calls P f vs.toArray w fun e w'=>e= .returned v∧Below w.heap.size w w'):Pure P f vs w v:=h.mono fun _ _ ⟨h1,h2⟩=>⟨h1,.AH h2⟩
theorem Pure.WB{P:Program}{f:FuncId}{vs:List Value}{w:World}{v:Value}(h:Calls P f vs.toArray w fun e w'=>e= .returned v∧w'=w):Pure P f vs w v:=h.mono fun _ _ ⟨h1,h2⟩=>⟨h1,by rw[h2];exact .start w⟩
theorem U0(w:World)(k:Nat)(os:Array Obj):Below w.heap.size w (Go.Sort.grow (w.drewN k) os):=by
 refine⟨rfl,rfl,rfl,?_,fun j hj=>?_⟩
 ·simp[Go.Sort.grow,World.drewN]
 ·simp only[Go.Sort.grow,World.drewN]
  rw[Array.getElem?_append_left (by simpa using hj)]
section
variable {P:Program} {ρ:Go.Shelf.Ren}
open Go.Shelf
def qq(N:Nat)(n:Int):Option ByteArray:=if -9223372036854775808≤n∧n≤9223372036854775807 then some ⟨(Lib.itoa n).toArray⟩else none
theorem WC(Ly:LaysM.n171 P ρ){N:Nat}{n:Int}{res:ByteArray}(hF:qq N n=some res)(w:World){gS gR gM:Nat}(hG:M1 P gS gR gM w):Pure P (ρ.f 171) [.int .i64 n] w (.string res):=by
 unfold qq at hF
 split at hF
 case isFalse=>cases hF
 rename_i h
 cases hF
 refine .AH ((Any.strconv_Itoa Ly n h.1 h.2 w hG.tab).mono fun e w' ⟨h1,k,os,h2⟩=>⟨h1,?_⟩)
 rw[h2];exact U0 w k os
def Hv(N:Nat)(s:ByteArray):Option (Int×Bool):=if s.size≤281474976710656 then some (match Lib.atoiAll s.data.toList with
 | .ok v=>(v,false)
 | .range=>(Lib.atoiSat s.data.toList,true)
 |_=>(0,true))else none
theorem WG(Ly:LaysC.n172 P ρ){N:Nat}{s:ByteArray}{res:Int×Bool}(hF:Hv N s=some res)(w:World){gM:Nat}(hG:M1 P (ρ.g 15) (ρ.g 16) gM w):
  Made P (ρ.f 172) [.string s] w (fun g:TypeId×Value=> .tuple #[.int .i64 res.1,Lx res.2 g]) (fun _=>[]) (fun _=>True):=by
 unfold Hv at hF
 split at hF
 case isFalse=>cases hF
 rename_i h
 cases hF
 obtain⟨e1,h1,k1⟩:=hG.syn
 obtain⟨e2,h2,k2⟩:=hG.eJ
 cases hA:Lib.atoiAll s.data.toList with
 |ok v=>
  refine(Any.strconv_Atoi_ok Ly s (by omega) v hA w).mono fun e w' ⟨h3,h4⟩=>⟨(0,.nilIface),trivial,h3,.AH ?_⟩
  rcases h4 with rfl|⟨t,rfl⟩
  ·exact Below.refl _ _
  ·exact Lib.bytesWorld_below _ _ _
 |range=>
  exact(Any.strconv_Atoi_range Ly s h hA e2 w h2 k2).mono fun e w' ⟨N,h3,_,_,h4⟩=>⟨(ρ.t 168,.pointer (some ⟨N,0,none⟩)),trivial,h3,.AH h4⟩
 |_=>
  exact(Any.strconv_Atoi_syntax Ly s h hA e1 w h1 k1).mono fun e w' ⟨N,h3,_,_,h4⟩=>⟨(ρ.t 168,.pointer (some ⟨N,0,none⟩)),trivial,h3,.AH h4⟩
def yR(N:Nat)(s sep:ByteArray):Option (List ByteArray):=if s.size < 4294967281∧1≤sep.size then some (Lib.splitB sep 0 (Lib.countB s sep) s)else none
theorem U1(Ly:LaysM.n146 P ρ){N:Nat}{s sep:ByteArray}{res:List ByteArray}(hF:yR N s sep=some res)(w:World){gS gR:Nat}(hG:M1 P gS gR (ρ.g 1) w):
  Made P (ρ.f 146) [.string s,.string sep] w (fun g:Option Addr×Nat=> .slice g.1 res.length g.2) (fun g=>[cR eS 1 g.1 g.2 (ρ.t 9) res]) (fun _=>True):=by
 unfold yR at hF
 split at hF
 case isFalse=>cases hF
 rename_i h
 cases hF
 obtain⟨m,hm⟩:=hG.max
 have hle:=Lib.countB_le sep h.2 s.size s (Nat.le_refl _)
 have hlen:=Lib.splitB_all sep h.2 0 _ s rfl
 refine(Any.strings_Split {Ly with} Ly.i9 s sep m w h.1 hm h.2).mono fun e w' ⟨h1,h2⟩=>⟨(some ⟨w.heap.size,0,none⟩,Lib.countB s sep+1),trivial,by rw[h1,hlen],?_⟩
 subst h2
 generalize Lib.splitB sep 0 (Lib.countB s sep) s=res at hlen
 refine St.N' (o:=some w.heap.size) ((St.start w).alloc _) (fun o ho=>?_)
 subst ho
 have e1: ∀l:List ByteArray,l.flatMap eS=l.map Value.string:=fun l=>by
  induction l with
  |nil=>rfl
  |cons a r ih=>rw[List.flatMap_cons,ih];rfl
 refine⟨by rw[e1];simp,.inr ⟨w.heap.size,_,rfl,rfl,by omega,by unfold maxLen;omega,by simp[hlen],?_⟩⟩
 rw[e1]
 show List.take (res.length * 1) (res.map Value.string)=_
 rw[List.take_of_length_le (by simp)]
def akB(N:Nat)(s sep:ByteArray):Option Int:=if s.size < 4294967281∧1≤sep.size then some ((Lib.countB s sep:Nat):Int)else none
def ak5(N:Nat)(s p:ByteArray):Option Bool:=if s.size≤9223372036854775807 then some (Lib.hasSuffix s.data.toList p.data.toList)else none
section
variable {D:Option Tmp} {G:Option (Nat×Bool)} {x:Operand} {t:TypeId} {pos:String} {af:Array Edge} {n base:Nat} {w0:World} {L:List Chunk} {e:Env} {b i:Nat} {T' S T u:TypeId} {cs:List Value} {P:Program}
theorem Pi{w:World}(hw:St base w0 L w)(hi:L[i]? =some (aw b T' cs)):w.shape? b=some (T',cs.length):=by
 have:=hw.obj hi
 simp[World.shape?,this]
theorem Y.toU{j:TypeInfo}(hS:P.underlying S=some (.pointer u))(hT:P.underlying T=some .unsafePointer)(hj:P.info? u=some j)(h0:j.size≠0)(hx:aD n e x (.pointer (some ⟨b,0,none⟩)))(hi:L[i]? =some (aw b T' cs))(hc:0 < cs.length):Yd P n base w0 e L ⟨D,.convert S T x,t,pos,af,G⟩ (.pointer (some ⟨b,0,none⟩)):=by
 intro a w ha hw
 have:=Lib.run_to_unsafe (P:=P) w ⟨b,0,none⟩ hS hT hj h0 (Pi hw hi) hc
 simp only[execOp,hx a ha,Sem.run_bind,this,Result.andThen_ok,Sem.run_pure]
theorem Y.ofU{j:TypeInfo}(hS:P.underlying S=some .unsafePointer)(hT:P.underlying T=some (.pointer u))(hj:P.info? u=some j)(hx:aD n e x (.pointer (some ⟨b,0,none⟩)))(hi:L[i]? =some (aw b T' cs))(hl:liesAt P P.depth T' (cs.length / P.cellsOf T') 0 u 1=true):Yd P n base w0 e L ⟨D,.convert S T x,t,pos,af,G⟩ (.pointer (some ⟨b,0,none⟩)):=by
 intro a w ha hw
 have:=Lib.run_from_unsafe (P:=P) w ⟨b,0,none⟩ hS hT hj (Pi hw hi) hl
 simp only[execOp,hx a ha,Sem.run_bind,this,Result.andThen_ok,Sem.run_pure]
theorem Y.JY{T E:TypeId}{o:Option Addr}{ty:TypeId}(hT:P.underlying T=some (.pointer E))(hx:aD n e x (.pointer o)):Yd P n base w0 e L ⟨D,.binOp .eql T x (.const (.pointer none)) ty,t,pos,af,G⟩ (.bool o.isNone):=by
 intro a w ha _
 have h: ∀dp,(Op.equalIn (dp+1) T (.pointer o) (.pointer none)).run P w= .ok o.isNone w:=fun dp=>by
  cases o<;>simp[Op.equalIn,run_underlying hT]
 have:=h 9999
 simp[execOp,hx a ha,o0,eqGuard,binOp,Op.equal,Op.maxDepth,this]
theorem Y.WH{T E:TypeId}{a:Addr}{j:TypeInfo}{y:Operand}{ty:TypeId}(hT:P.underlying T=some (.pointer E))(hj:P.info? E=some j)(hx:aD n e x (.pointer (some a)))(hy:aD n e y (.pointer (some a))):Yd P n base w0 e L ⟨D,.binOp .neq T x y ty,t,pos,af,G⟩ (.bool false):=by
 intro a' w ha _
 have:=Lib.run_neq_ptr_same (P:=P) w a hT hj
 simp[execOp,hx a' ha,hy a' ha,eqGuard,this]
theorem Y.aaQ{f:FuncId}{v:Value}{ats:Array TypeId}(hf: ∀w,(callFunc f #[v]).run P w= .ok (.value v) w)(hx:aD n e x v):Yd P n base w0 e L ⟨D,.call {callee:= .value (.func f),args:= #[x],argTypes:=ats},t,pos,af,G⟩ v:=by
 intro a w ha hw
 simp[execOp,resolve,Deferred.ofValue,SJ,invoke,hx a ha,hf w]
end
def M2:TypeDesc→Bool
 | .interface _=>false
 |_=>true
inductive Pt|s (x:ByteArray)|i (x:Int)|e (x:Int)
deriving DecidableEq
def Id(a b c:TypeId):Pt→Value
 | .s x=> .iface a (.string x)
 | .i x=> .iface b (.int .i64 x)
 | .e x=> .iface c (.int .i64 x)
def lX(a b c:TypeId)(p:Pt):List Value:=[Id a b c p]
theorem Oh{a b c:TypeId}: ∀x,∀v∈lX a b c x,v.oneCell'=true:=fun x v h=>by
 simp only[lX,List.mem_singleton]at h
 subst h
 cases x<;>rfl
def S7:Pt→ByteArray×Bool
 | .s x=>(x,true)
 |_=>(⟨#[]⟩,false)
def JZ:Pt→Int×Bool
 | .i x=>(x,true)
 |_=>(0,false)
def J0:Pt→Int×Bool
 | .e x=>(x,true)
 |_=>(0,false)
section
variable {D:Option Tmp} {G:Option (Nat×Bool)} {x:Operand} {t xt:TypeId} {pos:String} {af:Array Edge} {n base:Nat} {w0:World} {L:List Chunk} {e:Env} {a b c:TypeId} {p:Pt} {P:Program}
theorem Pj{T T':TypeId}{d:TypeDesc}{v z:Value}(hT:P.underlying T=some d)(hd:M2 d=true)(hz: ∃i,P.info? T=some i∧i.zero=some z)(w:World):
  (Instr.typeAssert (.iface T' v) xt T true).run P w= .ok (if T'=T then .tuple #[v,.bool true]else .tuple #[z,.bool false]) w:=by
 obtain⟨i,hi,hz⟩:=hz
 unfold Instr.typeAssert
 by_cases h:T'=T
 ·cases d<;>simp_all[run_underlying hT,M2]
 ·cases d<;>simp_all[run_underlying hT,zeroValue,typeInfo,M2]
theorem Y.asS{d:TypeDesc}(hT:P.underlying a=some d)(hd:M2 d=true)(hz: ∃i,P.info? a=some i∧i.zero=some (.string ⟨#[]⟩))(h1: ¬b=a)(h2: ¬c=a)(hx:aD n e x (Id a b c p)):Yd P n base w0 e L ⟨D,.typeAssert x xt a true,t,pos,af,G⟩ (.tuple #[.string (S7 p).1,.bool (S7 p).2]):=by
 intro q w ha _
 cases p<;>simp[execOp,hx q ha,Id,Pj hT hd hz,h1,h2,S7]
theorem Y.asI{d:TypeDesc}(hT:P.underlying b=some d)(hd:M2 d=true)(hz: ∃i,P.info? b=some i∧i.zero=some (.int .i64 0))(h1: ¬a=b)(h2: ¬c=b)(hx:aD n e x (Id a b c p)):Yd P n base w0 e L ⟨D,.typeAssert x xt b true,t,pos,af,G⟩ (.tuple #[.int .i64 (JZ p).1,.bool (JZ p).2]):=by
 intro q w ha _
 cases p<;>simp[execOp,hx q ha,Id,Pj hT hd hz,h1,h2,JZ]
theorem Y.asE{d:TypeDesc}(hT:P.underlying c=some d)(hd:M2 d=true)(hz: ∃i,P.info? c=some i∧i.zero=some (.int .i64 0))(h1: ¬a=c)(h2: ¬b=c)(hx:aD n e x (Id a b c p)):Yd P n base w0 e L ⟨D,.typeAssert x xt c true,t,pos,af,G⟩ (.tuple #[.int .i64 (J0 p).1,.bool (J0 p).2]):=by
 intro q w ha _
 cases p<;>simp[execOp,hx q ha,Id,Pj hT hd hz,h1,h2,J0]
theorem Y.lv{T:TypeId}{v:Value}{d:TypeDesc}(p:Pt)(hT:P.underlying T=some d)(hd:M2 d=true)(hx:aD n e x v)(hp:Id a b c p= .iface T v):Yd P n base w0 e L ⟨D,.makeInterface T x,t,pos,af,G⟩ (Id a b c p):=by
 intro q w ha _
 rw[hp]
 cases d<;>simp_all[execOp,hx q ha,Instr.makeInterface,run_underlying hT,M2]
end
def Pm(N:Nat)(s p:ByteArray):Option Bool:=some (Lib.hasPrefix s.data.toList p.data.toList)
theorem YF(Ly:Lays.n99 P ρ){N:Nat}{s p:ByteArray}{res:Bool}(hF:Pm N s p=some res)(w:World):Pure P (ρ.f 99) [.string s,.string p] w (.bool res):=by
 cases hF
 exact .WB (Any.strings_HasPrefix Ly s p w)
def ak6(N:Nat)(s p:ByteArray):Option (ByteArray×Bool):=some (⟨(Lib.trimPrefix s.data.toList p.data.toList).toArray⟩,Lib.hasPrefix s.data.toList p.data.toList)
def Eu(N:Nat)(s sub:ByteArray):Option Bool:=if s.size < 4294967281 then some (Lib.contains s.data.toList sub.data.toList)else none
theorem YG(Ly:Lays.n144 P ρ){N:Nat}{s sub:ByteArray}{res:Bool}(hF:Eu N s sub=some res)(w:World){gS gR:Nat}(hG:M1 P gS gR (ρ.g 1) w):Pure P (ρ.f 144) [.string s,.string sub] w (.bool res):=by
 unfold Eu at hF
 split at hF
 case isFalse=>cases hF
 rename_i h
 cases hF
 obtain⟨m,hm⟩:=hG.max
 exact .WB (Any.strings_Contains Ly s sub m w h hm)
def akU(N:Nat)(xs:List ByteArray)(sep:ByteArray):Option ByteArray:=if xs.length≤140737488355328∧(Lib.join (xs.map (·.data.toList)) sep.data.toList).length≤140737488355328 then some ⟨(Lib.join (xs.map (·.data.toList)) sep.data.toList).toArray⟩else none
end
end Go.Proofs.YtjdkkabcenohcaaGreatDoor
