import Derived.Test.YtjdkkabcenohcaaGreatDoorP4
import Derived.Test.YtjdkkabcenohcaaGreatDoorV3
set_option linter.unusedVariables false
set_option linter.unusedSimpArgs false
set_option linter.unusedSectionVars false
set_option maxRecDepth 100000
namespace Go.Proofs.YtjdkkabcenohcaaGreatDoor
open Go.RowKit
theorem Row.clr{x y:Int}{p q:Nat→Bool}(h:Row x p)(h2:Row y q):Row (Cg .u16 x y) fun j=>p j&& !q j:=by
 obtain⟨a,rfl,h1,ha⟩:=h
 obtain⟨b,rfl,h2,hb⟩:=h2
 have e:(BitVec.ofInt IntKind.u16.bits (a:Int) &&& ~~~(BitVec.ofInt IntKind.u16.bits (b:Int)))=(BitVec.ofNat 16 a &&& ~~~(BitVec.ofNat 16 b)):=by
  show(BitVec.ofInt 16 (a:Int) &&& ~~~(BitVec.ofInt 16 (b:Int)))=_
  rw[BitVec.ofInt_natCast,BitVec.ofInt_natCast]
 refine⟨(BitVec.ofNat 16 a &&& ~~~(BitVec.ofNat 16 b)).toNat,?_,BitVec.isLt _,fun j=>?_⟩
 ·unfold Cg
  rw[e]
  exact HA (BitVec.isLt _)
 ·rw[BitVec.toNat_and,Nat.testBit_and,BitVec.toNat_ofNat,Nat.mod_eq_of_lt h1,ha]
  by_cases hj:j < 16
  ·congr 1
   show(~~~(BitVec.ofNat 16 b)).getLsbD j=_
   rw[BitVec.getLsbD_not,BitVec.getLsbD_ofNat,hb]
   simp[hj]
  ·have:p j=false:=by rw[←ha];exact Nat.testBit_lt_two_pow (Nat.lt_of_lt_of_le h1 (Nat.pow_le_pow_right (n:=2) (by decide) (i:=16) (by omega)))
   simp[this]
theorem Row.ahm{x:Int}{p:Nat→Bool}(h:Row x p)(j:Nat):decide (uI .u16 (kx .u16 x (j:Int)) 1=0)= !p j:=by
 obtain⟨a,rfl,h2,ha⟩:=h
 rw[U6 h2,show(1:Int)=((1:Nat):Int)from rfl,PJ (Nat.lt_of_le_of_lt (by rw[Nat.shiftRight_eq_div_pow];exact Nat.div_le_self _ _) h2) (by decide),←ha]
 rw[Nat.testBit]
 simp only[Nat.and_comm 1]
 have hx:(a >>> j) &&& 1=(a >>> j) % 2:=Nat.and_one_is_mod _
 rw[hx]
 rcases Nat.mod_two_eq_zero_or_one (a >>> j)with h|h<;>rw[h]<;>rfl
namespace Rl
theorem pig{l m:List Nat}(h:l.Nodup)(hs: ∀x∈l,x∈m):l.length≤m.length:=by
 induction l generalizing m with
 |nil=>exact Nat.zero_le _
 |cons a l ih=>
  have ha:=hs a (List.mem_cons_self ..)
  obtain⟨h1,h2⟩:=List.nodup_cons.1 h
  have:=ih (m:=m.erase a) h2 fun x hx=>(List.mem_erase_of_ne (fun e:x=a=>h1 (e▸hx))).2 (hs x (List.mem_cons_of_mem _ hx))
  rw[List.length_erase_of_mem ha]at this
  have:0 < m.length:=List.length_pos_of_mem ha
  simp only[List.length_cons];omega
theorem Gv{l:List Nat}{n:Nat}(h:l.Nodup)(hs: ∀x∈l,x < n):l.length≤n:=by
 have:=pig (m:=List.range n) h fun x hx=>List.mem_range.2 (hs x hx)
 simpa using this
end Rl
namespace Sr
open Rl
theorem u8w(z:Int):IntKind.u8.wrap z=z % 256:=by
 unfold IntKind.wrap
 simp only[IntKind.bits,IntKind.signed,Bool.false_and,Bool.false_eq_true,if_false]
 rfl
theorem aeU(k:IntKind)(hk:8≤k.bits)(z:Int):kx k z 8=z / 256:=by
 unfold kx
 show z.fdiv (2 ^ (min 8 k.bits))=_
 rw[Nat.min_eq_left hk,Int.fdiv_eq_ediv_of_nonneg _ (by decide)]
 rfl
def kn(n:Int):List Int:=[n % 256,n / 256 % 256]
def ks(s:List Int):List Int:=((s.length:Int) % 256)::s.flatMap kn
def kb(p:Int)(S:List (List Int)):List Int:=kn p++S.flatMap ks
theorem Xb(s:List Int):(s.flatMap kn).length=2 * s.length:=by
 induction s with
 |nil=>rfl
 |cons a s ih=>rw[List.flatMap_cons,List.length_append,ih];simp[kn];omega
theorem Qg(s:List Int):(ks s).length=2 * s.length+1:=by unfold ks;rw[List.length_cons,Xb]
theorem ab6{S:List (List Int)}(h: ∀s∈S,s.length≤50):(S.flatMap ks).length≤101 * S.length:=by
 induction S with
 |nil=>simp
 |cons a S ih=>
  rw[List.flatMap_cons,List.length_append,Qg]
  have:=h a (.head _)
  have:=ih fun s hs=>h s (.tail _ hs)
  simp only[List.length_cons]
  omega
theorem LQ{α:Type}{a b c d:List α}(h:a++b=c++d)(hl:a.length=c.length):a=c∧b=d:=List.append_inj h hl
theorem aeV{s t:List Int}(hs: ∀n∈s,0≤n∧n < 65536)(ht: ∀n∈t,0≤n∧n < 65536)(hl:s.length=t.length)(h:s.flatMap kn=t.flatMap kn):s=t:=by
 induction s generalizing t with
 |nil=>cases t with
  |nil=>rfl
  |cons b t=>simp at hl
 |cons a s ih=>
  cases t with
  |nil=>simp at hl
  |cons b t=>
   rw[List.flatMap_cons,List.flatMap_cons]at h
   obtain⟨h1,h2⟩:=LQ h rfl
   simp only[kn,List.cons.injEq,and_true]at h1
   have ha:=hs a (.head _)
   have hb:=ht b (.head _)
   rw[ih (fun n hn=>hs n (.tail _ hn)) (fun n hn=>ht n (.tail _ hn)) (by simpa using hl) h2]
   have:a=b:=by omega
   rw[this]
def Sm(s:List Int):Prop:=s.length≤50∧∀n∈s,0≤n∧n < 65536
theorem aeW{S T:List (List Int)}(hs: ∀s∈S,Sm s)(ht: ∀s∈T,Sm s)(hl:S.length=T.length)(h:S.flatMap ks=T.flatMap ks):S=T:=by
 induction S generalizing T with
 |nil=>cases T with
  |nil=>rfl
  |cons b t=>simp at hl
 |cons a S ih=>
  cases T with
  |nil=>simp at hl
  |cons b T=>
   rw[List.flatMap_cons,List.flatMap_cons]at h
   have ha:=hs a (.head _)
   have hb:=ht b (.head _)
   have hlen:a.length=b.length:=by
    simp only[ks,List.cons_append,List.cons.injEq]at h
    have:=h.1
    have:=ha.1
    have:=hb.1
    omega
   obtain⟨h1,h2⟩:=LQ h (by rw[Qg,Qg,hlen])
   simp only[ks,List.cons.injEq]at h1
   rw[ih (fun n hn=>hs n (.tail _ hn)) (fun n hn=>ht n (.tail _ hn)) (by simpa using hl) h2,aeV ha.2 hb.2 hlen h1.2]
theorem aeX{p p':Int}{S T:List (List Int)}(hp:0≤p∧p < 65536)(hp':0≤p'∧p' < 65536)(hs: ∀s∈S,Sm s)(ht: ∀s∈T,Sm s)(hl:S.length=T.length)(h:kb p S=kb p' T):p=p'∧S=T:=by
 unfold kb at h
 obtain⟨h1,h2⟩:=LQ h rfl
 simp only[kn,List.cons.injEq,and_true]at h1
 exact⟨by omega,aeW hs ht hl h2⟩
def Byt(xs:List Int):Prop:=∀x∈xs,0≤x∧x < 256
theorem Xc(xs:List Int):(zy xs).data.toList=xs.map fun n=>UInt8.ofNat n.toNat:=by
 have key: ∀(xs:List Int) (r:ByteArray),(xs.foldl (fun r n=>r.push (UInt8.ofNat n.toNat)) r).data.toList=r.data.toList++xs.map fun n=>UInt8.ofNat n.toNat:=by
  intro xs
  induction xs with
  |nil=>intro r;simp
  |cons x xs ih=>
   intro r
   rw[List.foldl_cons,ih]
   have:(r.push (UInt8.ofNat x.toNat)).data.toList=r.data.toList++[UInt8.ofNat x.toNat]:=by
    cases r with|mk d=>exact Array.toList_push ..
   rw[this]
   simp
 have:=key xs ByteArray.empty
 unfold zy
 rw[this]
 rfl
theorem Y5{xs ys:List Int}(hx:Byt xs)(hy:Byt ys)(h:zy xs=zy ys):xs=ys:=by
 have h1:=congrArg (fun b=>b.data.toList) h
 simp only[Xc]at h1
 clear h
 induction xs generalizing ys with
 |nil=>cases ys with
  |nil=>rfl
  |cons y ys=>simp at h1
 |cons x xs ih=>
  cases ys with
  |nil=>simp at h1
  |cons y ys=>
   simp only[List.map_cons,List.cons.injEq]at h1
   have a:=hx x (.head _)
   have b:=hy y (.head _)
   have e:x.toNat=y.toNat:=by
    have:=congrArg UInt8.toNat h1.1
    rw[UInt8.toNat_ofNat',UInt8.toNat_ofNat',Nat.mod_eq_of_lt (by omega),Nat.mod_eq_of_lt (by omega)]at this
    exact this
   rw[ih (fun z hz=>hx z (.tail _ hz)) (fun z hz=>hy z (.tail _ hz)) h1.2]
   have:x=y:=by omega
   rw[this]
theorem Xd(p:Int)(S:List (List Int)):Byt (kb p S):=by
 have h1: ∀n:Int,Byt (kn n):=by
  intro n x hx
  simp only[kn,List.mem_cons,List.not_mem_nil,or_false]at hx
  rcases hx with rfl|rfl<;>omega
 intro x hx
 rcases List.mem_append.1 hx with hx|hx
 ·exact h1 p x hx
 ·obtain⟨s,_,hx⟩:=List.mem_flatMap.1 hx
  rcases List.mem_cons.1 hx with rfl|hx
  ·omega
  ·obtain⟨n,_,hx⟩:=List.mem_flatMap.1 hx
   exact h1 n x hx
theorem aeY{N:Nat}(hN:300 < N)(types:List Int)(c:List Call)(rel:Rel){S:List (List Int)}(hl:S.length≤4)(hs: ∀s∈S,s.length≤50)(p:Int)(out:List Step)(f:List (ByteArray×Bool)):pH N types c rel S p out f=some (zy (kb p S)):=by
 refine Wp.eq ?_
 unfold pH
 have lim: ∀n:Nat,n≤1000→eY 1 n=true:=fun n hn=>eT ⟨by unfold maxLen;omega,by omega⟩
 refine .seq (P:=fun b=>b=kb p S) (.iter S.length (fun k st=>st.2=(k:Int)∧st.1=kb p (S.take k)) (by omega) ⟨rfl,by simp only[u8w,aeU .u16 (by decide)];simp[kb,kn]⟩ ?_ ?_) fun b _ hb=> .one (by rw[hb])
 ·rintro k ⟨b,v⟩ hk ⟨hv,hb⟩
  simp only at hv hb
  subst hv;subst hb
  simp only[pT]
  have hx:=hs S[k] (List.getElem_mem hk)
  have Cr:(kb p (S.take k)).length≤410:=by
   unfold kb
   rw[List.length_append]
   have h1:=ab6 (S:=S.take k) fun s h=>hs s (List.mem_of_mem_take h)
   have h2:(kn p).length=2:=rfl
   rw[List.length_take]at h1
   omega
  refine .bg (decide_eq_true (by omega)) (.seq (P:=fun b=>b=kb p (S.take (k+1))) (.ix hk (.ck (lim _ (by simp;omega)) ?_)) fun b _ hb=> .bK (by omega) (.one ⟨by simp,hb⟩))
  have e0:kb p (S.take (k+1))=kb p (S.take k)++ks S[k]:=by
   rw[←List.take_append_getElem hk]
   unfold kb
   rw[List.flatMap_append,List.append_assoc]
   simp
  refine .iter S[k].length (fun j st=>st.2=(j:Int)∧st.1=kb p (S.take k)++(((S[k].length:Int) % 256)::(S[k].take j).flatMap kn)) (by omega) ⟨rfl,by rw[u8w];rfl⟩ ?_ ?_
  ·rintro j ⟨b,v⟩ hj ⟨hv,hb⟩
   simp only at hv hb
   subst hv;subst hb
   simp only[pS]
   refine .bg (decide_eq_true (by omega)) (.ix hj (.ck (lim _ ?_) (.bK (by omega) (.one ⟨by simp,?_⟩))))
   ·have:=Xb (S[k].take j)
    rw[List.length_take]at this
    simp only[List.length_append,List.length_cons,List.length_nil]
    omega
   ·simp only[u8w,aeU .i64 (by decide)]
    rw[←List.take_append_getElem hj,List.flatMap_append]
    simp[kn]
  ·rintro⟨b,v⟩ ⟨hv,hb⟩
   simp only at hv hb
   subst hv;subst hb
   simp only[pS]
   refine .aL (decide_eq_false (by omega)) (.one ?_)
   rw[List.take_length,e0]
   rfl
 ·rintro⟨b,v⟩ ⟨hv,hb⟩
  simp only at hv hb
  subst hv;subst hb
  simp only[pT]
  exact .aL (decide_eq_false (by omega)) (.one (by rw[List.take_length]))
theorem nQ{α:Type}{m:List (ByteArray×α)}{k k':ByteArray}{v:α}:n_ (Ap m k v) k'=if k=k' then some v else n_ m k':=by
 induction m with
 |nil=>simp[Ap,n_]
 |cons a m ih=>
  obtain⟨a,u⟩:=a
  simp only[Ap,n_]
  by_cases h:a=k
  ·subst h
   rw[if_pos rfl]
   simp only[n_]
   by_cases h2:a=k'
   ·simp[h2]
   ·simp[h2]
  ·rw[if_neg h]
   simp only[n_,ih]
   by_cases h2:a=k'
   ·subst h2
    rw[if_pos rfl,if_neg (fun e=>h e.symm),if_pos rfl]
   ·simp[h2]
structure Cx(types:List Int)(c:List Call)(rel:Rel)(q:Nat→Nat→Bool):Prop where
 tl:types.length≤4
 ty: ∀x,x < types.length→Ob.Ty (types.getD x 0)
 cl:c.length≤12
 th: ∀m,m < c.length→0≤(c.getD m Call.z).aj∧(c.getD m Call.z).aj < types.length
 row: ∀i,i < 12→Row (rel.after.getD i 0) (q i)
def Gw(types:List Int)(S:List (List Int)):Prop:=S.length=types.length∧∀x,x < types.length→Ob.lS (types.getD x 0) (S.getD x [])
def Pl(types:List Int)(c:List Call)(q:Nat→Nat→Bool):List (List Int)→List Nat→List Step→Prop
 |_,_,[]=>True
 |S,w,s::t=>∃(i:Nat) (n:List Int),s.call=(i:Int)∧i < c.length∧i∉w∧(∀j,j∈w→q i j=false)∧((c.getD i Call.z).aY≠ -1→s.res=(c.getD i Call.z).res)∧
  Ob.nx (types.getD (c.getD i Call.z).aj.toNat 0) (S.getD (c.getD i Call.z).aj.toNat []) (c.getD i Call.z).kind (c.getD i Call.z).arg=some (n,s.res)∧Pl types c q (S.set (c.getD i Call.z).aj.toNat n) (w++[i]) t
def Cm(c:List Call)(w:List Nat):Prop:=∀i,i < c.length→(c.getD i Call.z).aY≠ -1→i∈w
def nums(t:List Step):List Nat:=t.map fun s=>s.call.toNat
def Gd(types:List Int)(c:List Call)(q:Nat→Nat→Bool)(S:List (List Int))(w:List Nat)(t:List Step):Prop:=Pl types c q S w t∧Cm c (w++nums t)
def lex:List Step→List Step→Prop
 | [],_=>True
 |_::_,[]=>False
 |a::t,b::u=>a.call < b.call∨(a.call=b.call∧lex t u)
theorem Pl.dZ{types:List Int}{c:List Call}{q:Nat→Nat→Bool}: ∀{t:List Step} {S:List (List Int)} {w w':List Nat},(∀j,j∈w↔j∈w')→Pl types c q S w t→Pl types c q S w' t
 | [],_,_,_,_,_=>trivial
 |s::t,S,w,w',h,⟨i,n,h1,h2,h3,h4,h5,h6,h7⟩=>⟨i,n,h1,h2,fun e=>h3 ((h i).2 e),fun j hj=>h4 j ((h j).2 hj),h5,h6,Pl.dZ (fun j=>by rw[List.mem_append,List.mem_append,h j]) h7⟩
theorem Gd.dZ{types:List Int}{c:List Call}{q:Nat→Nat→Bool}{t:List Step}{S:List (List Int)}{w w':List Nat}(h: ∀j,j∈w↔j∈w')(g:Gd types c q S w t):Gd types c q S w' t:=
 ⟨g.1.dZ h,fun i hi ht=>by
  rcases List.mem_append.1 (g.2 i hi ht)with h1|h1
  ·exact List.mem_append.2 (.inl ((h i).1 h1))
  ·exact List.mem_append.2 (.inr h1)⟩
theorem nR{α:Type}{l:List α}{i j:Nat}{v d:α}(h:i < l.length):(l.set i v).getD j d=if j=i then v else l.getD j d:=by
 simp only[List.getD_eq_getElem?_getD,List.getElem?_set,h,if_true]
 by_cases hj:i=j
 ·subst hj;simp
 ·rw[if_neg hj,if_neg (fun e=>hj e.symm)]
theorem Gw.set{types:List Int}{S:List (List Int)}(h:Gw types S){x:Nat}(hx:x < types.length){n:List Int}(hn:Ob.lS (types.getD x 0) n):Gw types (S.set x n):=by
 refine⟨by rw[List.length_set];exact h.1,fun y hy=>?_⟩
 rw[nR (by rw[h.1];exact hx)]
 by_cases e:y=x
 ·subst e;rw[if_pos rfl];exact hn
 ·rw[if_neg e];exact h.2 y hy
theorem Gw.mem{types:List Int}{S:List (List Int)}(h:Gw types S): ∀s∈S,Sm s:=by
 intro s hs
 obtain⟨k,hk,rfl⟩:=List.getElem_of_mem hs
 have ho:=h.2 k (by rw[←h.1];exact hk)
 rw[aW hk]at ho
 refine⟨ho.len,fun n hn=>?_⟩
 rcases ho with⟨_,v,e,h1,h2⟩|⟨_,_,h1⟩|⟨_,_,h1,_⟩
 ·rw[e]at hn
  rw[List.mem_singleton.1 hn]
  omega
 ·have:=h1 n hn;unfold Ob.gH at this;omega
 ·have:=h1 n hn;unfold Ob.gH at this;omega
theorem Sw{N:Nat}(hN:300 < N)(types:List Int){c:List Call}(hc:c.length≤12)(rel:Rel)(S:List (List Int)){w:List Nat}{p:Int}(hp:Row p fun j=>decide (j∈w))(out:List Step)(f:List (ByteArray×Bool)):Wp (lJ N types c rel S p out f) fun b=>b=true↔Cm c w:=by
 unfold lJ
 refine .elim (P:=fun t=>match t with| .inl _=>Cm c w| .inr b=>b=false∧¬Cm c w) (.iter c.length (fun k v=>v=(k:Int)∧∀i,i < k→(c.getD i Call.z).aY≠ -1→i∈w) (by omega) ⟨rfl,fun i h=>absurd h (Nat.not_lt_zero _)⟩ ?_ ?_) (fun _ _ h=> .one ⟨fun _=>h,fun _=>rfl⟩) (fun b _ h=> .one ⟨fun e=>(by rw[h.1]at e;cases e),fun e=>(h.2 e).elim⟩)
 ·rintro k v hk ⟨rfl,hr⟩
  simp only[mV]
  rw[Dr (by omega) (by omega),hp.ahm k]
  refine .bg (decide_eq_true (by omega)) (.fL Call.z (by omega) (by omega) ?_)
  simp only[Int.toNat_natCast]
  refine .cond (fun h=> .one ⟨rfl,fun hC=>?_⟩) fun h=> .bK (by omega) (.one ⟨by simp,fun i hi ht=>?_⟩)
  ·simp only[Bool.and_eq_true,Bool.not_eq_true',decide_eq_false_iff_not]at h
   exact h.2 (hC k hk h.1)
  ·rcases Nat.lt_or_ge i k with h1|h1
   ·exact hr i h1 ht
   ·obtain rfl:i=k:=by omega
    rw[decide_eq_false ht]at h
    simpa using h
 ·rintro v ⟨rfl,hr⟩
  simp only[mV]
  exact .aL (decide_eq_false (by omega)) (.one hr)
def FO(types:List Int)(c:List Call)(q:Nat→Nat→Bool)(f:List (ByteArray×Bool)):Prop:=
 ∀S w p,Gw types S→Row p (fun j=>decide (j∈w))→(n_ f (zy (kb p S))).getD false=true→∀u,¬Gd types c q S w u
theorem FO.put{types:List Int}{c:List Call}{q:Nat→Nat→Bool}{f:List (ByteArray×Bool)}(h:FO types c q f){S:List (List Int)}{w:List Nat}{p:Int}(hS:Gw types S)(hp:Row p fun j=>decide (j∈w))(hno: ∀u,¬Gd types c q S w u):FO types c q (Ap f (zy (kb p S)) true):=by
 intro S' w' p' Nh hp' hg u hu
 rw[nQ]at hg
 split at hg
 ·rename_i e
  obtain⟨rfl,rfl⟩:=aeX hp.eJ hp'.eJ hS.mem Nh.mem (by rw[hS.1,Nh.1]) (Y5 (Xd _ _) (Xd _ _) e)
  refine hno u (hu.dZ fun j=>?_)
  have:=hp'.uniq hp j
  simpa using this
 ·exact h S' w' p' Nh hp' hg u hu
def Ni(types:List Int)(c:List Call)(q:Nat→Nat→Bool)(S:List (List Int))(w:List Nat)(p:Int)(out:List Step)(r:List (List Int)×Int×List Step×List (ByteArray×Bool)×Bool):Prop:=
 (r.2.2.2.2=true∧∃t,Gd types c q S w t∧r.2.2.1=out++t∧∀u,Gd types c q S w u→lex t u)∨
 (r.2.2.2.2=false∧(∀u,¬Gd types c q S w u)∧r.1=S∧r.2.1=p∧r.2.2.1=out∧FO types c q r.2.2.2.1)
def aeZ(types:List Int)(c:List Call)(q:Nat→Nat→Bool)(S:List (List Int))(w:List Nat)(p:Int)(out:List Step)(i:Nat)(r:List (List Int)×Int×List Step×List (ByteArray×Bool)×Bool):Prop:=
 (r.2.2.2.2=true∧∃s t,s.call=(i:Int)∧Gd types c q S w (s::t)∧r.2.2.1=out++(s::t)∧∀s' u,s'.call=(i:Int)→Gd types c q S w (s'::u)→lex (s::t) (s'::u))∨
 (r.2.2.2.2=false∧(∀s u,s.call=(i:Int)→¬Gd types c q S w (s::u))∧r.1=S∧r.2.1=p∧r.2.2.1=out∧FO types c q r.2.2.2.1)
theorem Y6{α:Type}{l:List α}{i:Nat}{v:α}(d:α)(h:i < l.length):(l.set i v).set i (l.getD i d)=l:=by
 rw[List.set_set,aW h,List.set_getElem_self]
theorem Y7{N:Nat}(hN:300 < N){types:List Int}{c:List Call}{rel:Rel}{q:Nat→Nat→Bool}(X:Cx types c rel q){self:List Int→List Call→Rel→List (List Int)→Int→List Step→List (ByteArray×Bool)→Option (List (List Int)×Int×List Step×List (ByteArray×Bool)×Bool)}
  {S:List (List Int)}{w:List Nat}{p:Int}{out:List Step}{f:List (ByteArray×Bool)}(hS:Gw types S)(hp:Row p fun j=>decide (j∈w))(hf:FO types c q f)(hout:out.length≤12){i:Nat}(hi:i < c.length)
  (ih:i∉w→∀S' p' out' f',Gw types S'→Row p' (fun j=>decide (j∈w++[i]))→FO types c q f'→out'.length=out.length+1→Wp (self types c rel S' p' out' f') (Ni types c q S' (w++[i]) p' out')):
  Wp (ob N self types c rel S p out f (i:Int)) (aeZ types c q S w p out i):=by
 have hcl:=X.cl
 unfold ob
 refine .fL Call.z (by omega) (by omega) ?_
 rw[Int.toNat_natCast,Dr (by omega) (by omega),hp.test i]
 refine .gax (fun _=>⟨by omega,by omega⟩) fun x hx=>?_
 rw[Int.toNat_natCast]at hx
 have no:(i∈w∨∃j,j∈w∧q i j=true)→aeZ types c q S w p out i (S,p,out,f,false):=by
  intro h
  refine .inr ⟨rfl,fun s u hs g=>?_,rfl,rfl,rfl,hf⟩
  obtain⟨i',n,h1,h2,h3,h4,_⟩:=g.1
  obtain rfl:i=i':=by omega
  rcases h with h|⟨j,hj,hq⟩
  ·exact h3 h
  ·rw[h4 j hj]at hq;cases hq
 refine .cond (fun h=> .one (no ?_)) fun h=>?_
 ·by_cases hw:i∈w
  ·exact .inl hw
  ·right
   rw[decide_eq_false hw,Bool.false_or]at h
   have hx:=hx (by rw[decide_eq_false hw];rfl)
   rw[hx]at h
   have h:uI .u16 (rel.after.getD i 0) p≠0:=by simpa using h
   have he:=((X.row i (by omega)).and hp).empty
   have: ¬ ∀j,(q i j&&decide (j∈w))=false:=fun e=>h (he.2 e)
   simp only[Classical.not_forall,Bool.not_eq_false,Bool.and_eq_true,decide_eq_true_eq]at this
   obtain⟨j,h1,h2⟩:=this
   exact⟨j,h2,h1⟩
 ·simp only[Bool.or_eq_false_iff,decide_eq_false_iff_not,Bool.not_eq_false',decide_eq_true_eq]at h
  obtain⟨hw,h0⟩:=h
  have hx:=hx (by rw[decide_eq_false hw];rfl)
  rw[hx]at h0
  have hq: ∀j,j∈w→q i j=false:=fun j hj=>by
   have:=((X.row i (by omega)).and hp).empty.1 h0 j
   simpa[hj]using this
  obtain⟨t0,t1⟩:=X.th i hi
  obtain⟨d,hd⟩: ∃d,c.getD i Call.z=d:=⟨_,rfl⟩
  rw[hd]at t0 t1⊢
  have hxs:d.aj.toNat < types.length:=by omega
  have hSl:=hS.1
  refine .fL [] t0 (by omega) (.fL 0 t0 (by omega) ?_)
  have unq: ∀s u,s.call=(i:Int)→Gd types c q S w (s::u)→∃n,(d.aY≠ -1→s.res=d.res)∧Ob.nx (types.getD d.aj.toNat 0) (S.getD d.aj.toNat []) d.kind d.arg=some (n,s.res)∧Gd types c q (S.set d.aj.toNat n) (w++[i]) u:=by
   intro s u hs g
   obtain⟨i',n,h1,h2,h3,h4,h5,h6,h7⟩:=g.1
   obtain rfl:i=i':=by omega
   rw[hd]at h5 h6 h7
   refine⟨n,h5,h6,h7,?_⟩
   have:=g.2
   have e:w++nums (s::u)=w++[i]++nums u:=by simp[nums,hs]
   rwa[e]at this
  rcases Ob.TC hN (types.getD d.aj.toNat 0) (S.getD d.aj.toNat []) d.kind d.arg with⟨n,res,h1,h2⟩|⟨h1,e,he,h2⟩
  ·refine .bD h2 ?_
   simp only
   refine .cond (fun h=> .one (.inr ⟨rfl,fun s u hs g=>?_,rfl,rfl,rfl,hf⟩)) fun h=>?_
   ·obtain⟨n',g1,g2,_⟩:=unq s u hs g
    rw[h1]at g2
    simp only[Option.some.injEq,Prod.mk.injEq]at g2
    have h:d.aY≠ -1∧res≠d.res:=by simpa using h
    exact h.2 (g2.2.trans (g1 h.1))
   ·have h:d.aY≠ -1→res=d.res:=by
     intro h3
     simpa[h3]using h
    have hno:=Ob.HI h1
    have hp':Row (pa .u16 p (mz .u16 1 (i:Int))) fun j=>decide (j∈w++[i]):=by
     have:=hp.set (j:=i) (by omega)
     rw[Dr (by omega) (by omega)]at this
     refine this.dZ fun j=>?_
     rw[←Bool.decide_or,decide_eq_decide,List.mem_append,List.mem_singleton]
     exact⟨fun h=>h.imp id Eq.symm,fun h=>h.imp id Eq.symm⟩
    refine .ck (eT ⟨by unfold maxLen;simp;omega,by simp;omega⟩) (.seq (ih hw _ _ (out++[⟨(i:Int),res⟩]) f (hS.set hxs hno.2.2.2) hp' hf (by simp)) fun r _ hr=>?_)
    have mk: ∀t,Gd types c q (S.set d.aj.toNat n) (w++[i]) t→Gd types c q S w (⟨(i:Int),res⟩::t):=by
     intro t g
     refine⟨⟨i,n,rfl,hi,hw,hq,by rw[hd];exact h,by rw[hd];exact h1,by rw[hd];exact g.1⟩,?_⟩
     have e:w++nums (⟨(i:Int),res⟩::t)=w++[i]++nums t:=by simp[nums]
     rw[e]
     exact g.2
    have low: ∀s u,s.call=(i:Int)→Gd types c q S w (s::u)→Gd types c q (S.set d.aj.toNat n) (w++[i]) u:=by
     intro s u hs g
     obtain⟨n',_,g2,g3⟩:=unq s u hs g
     rw[h1]at g2
     simp only[Option.some.injEq,Prod.mk.injEq]at g2
     rw[g2.1];exact g3
    rcases hr with⟨pV,t,g,ho,Qh⟩|⟨pV,Y8,e1,e2,e3,e4⟩
    ·refine .bg pV (.one (.inl ⟨rfl,⟨(i:Int),res⟩,t,rfl,mk t g,by simp only;rw[ho];simp,fun s' u hs g'=> .inr ⟨hs.symm,Qh u (low s' u hs g')⟩⟩))
    ·refine .aL pV ?_
     rw[e1,e2,e3]
     refine .fL [] t0 (by rw[List.length_set];omega) (.bK (by simp;omega) (.ck (by simp[pB];omega) (.one (.inr ⟨rfl,fun s u hs g=>Y8 u (low s u hs g),Y6 [] (by omega),?_,?_,e4⟩))))
     ·have:=hp'.clr (Row.one (j:=i) (by omega))
      refine Row.eq (this.dZ fun j=>?_) hp
      by_cases e:i=j
      ·subst e;simp[hw]
      ·have e': ¬j=i:=fun h=>e h.symm
       simp[e,e']
     ·simp
  ·refine .bD h2 (.bg (by simp[he]) (.one (.inr ⟨rfl,fun s u hs g=>?_,rfl,rfl,rfl,hf⟩)))
   obtain⟨n',_,g2,_⟩:=unq s u hs g
   rw[h1]at g2
   cases g2
theorem Ko{N:Nat}(hN:300 < N){types:List Int}{c:List Call}{rel:Rel}{q:Nat→Nat→Bool}(X:Cx types c rel q): ∀(M:Nat) (S:List (List Int)) (w:List Nat) (p:Int) (out:List Step) (f:List (ByteArray×Bool)),
  Gw types S→w.Nodup→(∀j∈w,j < c.length)→c.length - w.length < M→Row p (fun j=>decide (j∈w))→FO types c q f→out.length=w.length→Wp (mO N M types c rel S p out f) (Ni types c q S w p out)
 |0,_,_,_,_,_,_,_,_,h,_,_,_=>absurd h (Nat.not_lt_zero _)
 |M+1,S,w,p,out,f,hS,hw,Bw,hM,hp,hf,hout=>by
  have hcl:=X.cl
  have alm:w.length≤c.length:=Gv hw Bw
  show Wp (oc N (mO N M) types c rel S p out f) _
  unfold oc
  refine .seq (Sw hN types hcl rel S hp out f) fun b _ hb=> .cond (fun h=> .one (.inl ⟨rfl,[],⟨trivial,by simpa[nums]using hb.1 h⟩,by simp,fun u _=>trivial⟩)) fun h=>?_
  have hnc: ¬Cm c w:=fun e=>by rw[hb.2 e]at h;cases h
  refine .bD (aeY hN types c rel (by rw[hS.1];exact X.tl) (fun s hs=>(hS.mem s hs).1) p out f) (.cond (fun h2=> .one (.inr ⟨rfl,hf S w p hS hp h2,rfl,rfl,rfl,hf⟩)) fun _=>?_)
  refine .elim (P:=fun t=>match t with| .inl st=>st.1=S∧st.2.1=p∧st.2.2.1=out∧FO types c q st.2.2.2∧∀u,¬Gd types c q S w u| .inr r=>Ni types c q S w p out r)
   (.iter c.length (fun k st=>st.1=S∧st.2.1=p∧st.2.2.1=out∧FO types c q st.2.2.2.1∧st.2.2.2.2=(k:Int)∧∀i,i < k→∀s u,s.call=(i:Int)→¬Gd types c q S w (s::u)) (by omega) ⟨rfl,rfl,rfl,hf,rfl,fun i h=>absurd h (Nat.not_lt_zero _)⟩ ?_ ?_) (fun st _ h=> .one ?_) (fun r _ h=> .one h)
  ·rintro k ⟨S',p',o',f',v⟩ hk ⟨h1,h2,h3,h4,h5,h6⟩
   simp only at h1 h2 h3 h4 h5
   subst h1;subst h2;subst h3;subst h5
   simp only[qI]
   refine .bg (decide_eq_true (by omega)) (.seq (Y7 hN X hS hp h4 (by omega) hk fun WV S2 p2 o2 f2 g1 g2 g3 g4=>?_) fun r _ hr=>?_)
   ·refine Ko hN X M S2 (w++[k]) p2 o2 f2 g1 ?_ (fun j hj=>?_) ?_ g2 g3 (by rw[g4,hout];simp)
    ·exact List.nodup_append.2 ⟨hw,by simp,fun a ha b hb e=>WV (by rw[List.mem_singleton]at hb;rw[←hb,←e];exact ha)⟩
    ·rcases List.mem_append.1 hj with hj|hj
     ·exact Bw j hj
     ·rw[List.mem_singleton.1 hj];exact hk
    ·have:w.length < c.length:=by
      have:=Gv (l:=w++[k]) (n:=c.length) (List.nodup_append.2 ⟨hw,by simp,fun a ha b hb e=>WV (by rw[List.mem_singleton]at hb;rw[←hb,←e];exact ha)⟩) (fun j hj=>by
       rcases List.mem_append.1 hj with hj|hj
       ·exact Bw j hj
       ·rw[List.mem_singleton.1 hj];exact hk)
      simp at this;omega
     rw[List.length_append,List.length_singleton];omega
   ·rcases hr with⟨pV,s,t,hs,g,ho,Qh⟩|⟨pV,hno,e1,e2,e3,e4⟩
    ·refine .bg pV (.one (.inl ⟨rfl,s::t,g,ho,fun u hu=>?_⟩))
     cases u with
     |nil=>exact(hnc (by simpa[nums]using hu.2)).elim
     |cons s' u=>
      obtain⟨i',n,g1,g2,_⟩:=hu.1
      rcases Nat.lt_trichotomy i' k with h7|h7|h7
      ·exact(h6 i' h7 s' u g1 hu).elim
      ·subst h7;exact Qh s' u g1 hu
      ·exact .inl (by rw[hs,g1];omega)
    ·refine .aL pV (.bK (by omega) (.one ⟨e1,e2,e3,e4,by simp,fun i hi s u hs=>?_⟩))
     rcases Nat.lt_or_ge i k with h7|h7
     ·exact h6 i h7 s u hs
     ·obtain rfl:i=k:=by omega
      exact hno s u hs
  ·rintro⟨S',p',o',f',v⟩ ⟨h1,h2,h3,h4,h5,h6⟩
   simp only at h1 h2 h3 h4 h5
   subst h1;subst h2;subst h3;subst h5
   simp only[qI]
   refine .aL (decide_eq_false (by omega)) (.one ⟨rfl,rfl,rfl,h4,fun u hu=>?_⟩)
   cases u with
   |nil=>exact hnc (by simpa[nums]using hu.2)
   |cons s u=>
    obtain⟨i',n,g1,g2,_⟩:=hu.1
    exact h6 i' g2 s u g1 hu
  ·obtain⟨h1,h2,h3,h4,h5⟩:=h
   exact .inr ⟨rfl,h5,h1,h2,h3,h4.put hS hp h5⟩
def S0(types:List Int):List (List Int):=types.map Ob.pU
theorem aaW{types:List Int}{c:List Call}{rel:Rel}{q:Nat→Nat→Bool}(X:Cx types c rel q):Gw types (S0 types):=by
 refine⟨by simp[S0],fun x hx=>?_⟩
 have e:(S0 types).getD x []=Ob.pU (types.getD x 0):=by
  unfold S0
  rw[aW (by simpa using hx),aW hx,List.getElem_map]
 rw[e]
 exact Ob.Xa (X.ty x hx)
theorem C4{N:Nat}(hN:300 < N){types:List Int}{c:List Call}{rel:Rel}{q:Nat→Nat→Bool}(X:Cx types c rel q):Wp (md N types c rel) fun r=>(r.2=true∧Gd types c q (S0 types) [] r.1∧∀u,Gd types c q (S0 types) [] u→lex r.1 u)∨(r.2=false∧r.1= []∧∀u,¬Gd types c q (S0 types) [] u):=by
 have htl:=X.tl
 have hcl:=X.cl
 unfold md
 refine .seq (P:=fun S=>S=S0 types) (.iter types.length (fun k st=>st.2=(k:Int)∧st.1=(types.take k).map Ob.pU) (by omega) ⟨rfl,rfl⟩ ?_ ?_) fun S _ hS=>?_
 ·rintro k ⟨S,v⟩ hk ⟨hv,hS⟩
  simp only at hv hS
  subst hv;subst hS
  simp only[sJ]
  have hT:Ob.Ty types[k]:=by have:=X.ty k hk;rwa[aW hk]at this
  refine .bg (decide_eq_true (by omega)) (.ix hk (.bD (Ob.Bv N types[k]) ?_))
  rw[if_pos hT]
  refine .ck (eT ⟨by unfold maxLen;simp;omega,by simp;omega⟩) (.bK (by omega) (.one ⟨by simp,?_⟩))
  simp only
  rw[←List.take_append_getElem hk,List.map_append]
  rfl
 ·rintro⟨S,v⟩ ⟨hv,hS⟩
  simp only at hv hS
  subst hv;subst hS
  simp only[sJ]
  exact .aL (decide_eq_false (by omega)) (.one (by rw[List.take_length];rfl))
 ·subst hS
  refine .seq (Ko hN X N (S0 types) [] 0 [] [] (aaW X) List.nodup_nil (by simp) (by simp;omega) (Row.zero.dZ fun j=>by simp) (fun S w p _ _ h=>by cases h) rfl) fun r _ hr=>?_
  rcases hr with⟨h0,t,g,ho,Qh⟩|⟨h0,hno,_⟩
  ·rw[h0]
   have ht:r.2.2.1=t:=by simpa using ho
   have hlen:t.length≤12:=by
    have key: ∀(t:List Step) (S:List (List Int)) (w:List Nat),w.Nodup→(∀j∈w,j < c.length)→Pl types c q S w t→w.length+t.length≤c.length:=by
     intro t
     induction t with
     |nil=>intro S w h1 h2 _;exact Gv h1 h2
     |cons s t ih=>
      intro S w h1 h2 ⟨i,n,g1,g2,g3,_,_,_,g7⟩
      have:=ih _ (w++[i]) (List.nodup_append.2 ⟨h1,by simp,fun a ha b hb e=>g3 (by rw[List.mem_singleton]at hb;rw[←hb,←e];exact ha)⟩) (fun j hj=>by
       rcases List.mem_append.1 hj with hj|hj
       ·exact h2 j hj
       ·rw[List.mem_singleton.1 hj];exact g2) g7
      rw[List.length_append]at this
      simp only[List.length_cons,List.length_nil]at this⊢
      omega
    have:=key t _ [] List.nodup_nil (by simp) g.1
    simp at this;omega
   exact .aL rfl (.ck (eT ⟨by unfold maxLen;rw[ht];omega,by rw[ht];omega⟩) (.one (.inl ⟨rfl,by rw[ht];exact g,fun u hu=>by rw[ht];exact Qh u hu⟩)))
  ·rw[h0]
   exact .bg rfl (.one (.inr ⟨rfl,rfl,hno⟩))
end Sr
namespace Sr
open Rl
def e7(c:List Call)(x:Nat):List Step→List Do
 | []=>[]
 |s::t=>if(c.getD s.call.toNat Call.z).aj.toNat=x then⟨(c.getD s.call.toNat Call.z).kind,(c.getD s.call.toNat Call.z).arg,s.res⟩::e7 c x t else e7 c x t
def Ac(c:List Call)(q:Nat→Nat→Bool):List Nat→List Step→Prop
 |_,[]=>True
 |w,s::t=>∃i:Nat,s.call=(i:Int)∧i < c.length∧i∉w∧(∀j,j∈w→q i j=false)∧((c.getD i Call.z).aY≠ -1→s.res=(c.getD i Call.z).res)∧Ac c q (w++[i]) t
theorem ES(c:List Call)(x:Nat)(a b:List Step):e7 c x (a++b)=e7 c x a++e7 c x b:=by
 induction a with
 |nil=>rfl
 |cons s a ih=>
  simp only[List.cons_append,e7,ih]
  split<;>rfl
theorem Y9(c:List Call)(x:Nat)(a:List Step):(e7 c x a).length≤a.length:=by
 induction a with
 |nil=>simp[e7]
 |cons s a ih=>
  simp only[e7]
  split<;>simp<;>omega
theorem Ac.app{c:List Call}{q:Nat→Nat→Bool}: ∀{a b:List Step} {w:List Nat},Ac c q w (a++b)↔Ac c q w a∧Ac c q (w++nums a) b
 | [],b,w=>by simp[Ac,nums]
 |s::a,b,w=>by
  have ih:=fun i:Nat=>Ac.app (a:=a) (b:=b) (w:=w++[i]) (c:=c) (q:=q)
  constructor
  ·rintro⟨i,h1,h2,h3,h4,h5,h6⟩
   obtain⟨g1,g2⟩:=(ih i).1 h6
   refine⟨⟨i,h1,h2,h3,h4,h5,g1⟩,?_⟩
   have e:w++nums (s::a)=w++[i]++nums a:=by simp[nums,h1]
   rw[e];exact g2
  ·rintro⟨⟨i,h1,h2,h3,h4,h5,h6⟩,g⟩
   have e:w++nums (s::a)=w++[i]++nums a:=by simp[nums,h1]
   rw[e]at g
   exact⟨i,h1,h2,h3,h4,h5,(ih i).2 ⟨h6,g⟩⟩
theorem Ac.Xe{c:List Call}{q:Nat→Nat→Bool}: ∀{t:List Step} {w:List Nat},w.Nodup→(∀j∈w,j < c.length)→Ac c q w t→(w++nums t).Nodup∧∀j∈w++nums t,j < c.length
 | [],w,h1,h2,_=>by simpa[nums]using⟨h1,h2⟩
 |s::t,w,h1,h2,⟨i,g1,g2,g3,_,_,g6⟩=>by
  have e:w++nums (s::t)=w++[i]++nums t:=by simp[nums,g1]
  rw[e]
  exact Ac.Xe (List.nodup_append.2 ⟨h1,by simp,fun a ha b hb e=>g3 (by rw[List.mem_singleton]at hb;rw[←hb,←e];exact ha)⟩) (fun j hj=>by
   rcases List.mem_append.1 hj with hj|hj
   ·exact h2 j hj
   ·rw[List.mem_singleton.1 hj];exact g2) g6
theorem Ac.len{c:List Call}{q:Nat→Nat→Bool}{t:List Step}(h:Ac c q [] t):t.length≤c.length:=by
 obtain⟨h1,h2⟩:=Ac.Xe List.nodup_nil (by simp) h
 have:=Gv h1 h2
 simpa[nums]using this
end Sr
namespace Hs
open Rl
def fg(c:List Call)(i j:Nat):Bool:=decide (i < c.length∧j < c.length∧(c.getD i Call.z).aY≠ -1∧(c.getD i Call.z).aY < (c.getD j Call.z).from_)
theorem Qj{N:Nat}{c:List Call}(hN:300 < N)(h12:c.length≤12):Wp (uJ N c) fun r=>r.1=c.length∧r.2.2=0∧∀i,i < 12→Row (r.2.1.getD i 0) (fg c i):=by
 unfold uJ
 refine .aL (decide_eq_false (by omega)) ?_
 refine .seq (P:=fun A=>∀i,i < 12→Row (A.getD i 0) (fg c i)) (.iter c.length (fun k st=>st.2=(k:Int)∧∀i,i < 12→Row (st.1.getD i 0) fun j=>decide (i < k)&&fg c i j) (by omega) ⟨rfl,fun i _=>Row.zero.dZ fun j=>by simp⟩ ?_ ?_) fun A _ hA=> .one ⟨rfl,rfl,hA⟩
 ·rintro k ⟨A,v⟩ hk ⟨hv,hA⟩
  simp only at hv hA
  subst hv
  simp only[uh]
  refine .bg (decide_eq_true (by omega)) ?_
  refine .seq (P:=fun A'=>∀i,i < 12→Row (A'.getD i 0) fun j=>decide (i < k+1)&&fg c i j) (.bd (.ixV hk ?_)) fun A' _ OL=> .bK (by omega) (.one ⟨by simp,OL⟩)
  refine PK (by omega) h12 (by omega) hA (fun j h=>(of_decide_eq_true h).2.1) (fun B j hj=>?_) (fun B=>?_)
  ·simp only[ug]
   refine Wp.eq (.bg (decide_eq_true (by omega)) (.ix hj ?_))
   have e:((!(decide (c[k].aY=(-1))))&&(decide (c[k].aY < c[j].from_)))=fg c k j:=by
    unfold fg
    rw[aW hk,aW hj,Bool.eq_iff_iff]
    simp only[Bool.and_eq_true,Bool.not_eq_true',decide_eq_false_iff_not,decide_eq_true_eq]
    exact⟨fun h=>⟨hk,hj,h.1,h.2⟩,fun h=>h.2.2⟩
   rw[e]
   exact .cond (fun hb=> .S3 (by omega) (.S3 (by omega) (.bK (by omega) (.one (by rw[hb];rfl))))) (fun hb=> .bK (by omega) (.one (by rw[hb];rfl)))
  ·simp only[ug]
   exact Wp.eq (.aL (by simp) (.one rfl))
 ·rintro⟨B,v⟩ ⟨hv,hB⟩
  simp only at hv hB
  subst hv
  simp only[uh]
  refine .aL (by simp) (.one fun i hi=>(hB i hi).dZ fun j=>?_)
  by_cases h:i < c.length
  ·simp[h]
  ·have:fg c i j=false:=decide_eq_false (fun hh=>h hh.1)
   simp[this]
end Hs
namespace Sr
open Rl Hs
structure Hc(N:Nat)(types:List Int)(l:List Event)(c:List Call):Prop where
 his:His N types l c
 pW:c.length≤9
theorem Cs{N:Nat}(hN:300 < N)(types:List Int)(l:List Event):Wp (gW N types l) fun r=>(r.2=0∧Hc N types l r.1∧cB N types l=some (r.1,0,0))∨(r.2≠0∧r.1= []):=by
 unfold gW
 refine .seq (PL hN) fun r hr h=> .cond (fun h2=> .one (.inr ⟨by simpa using h2,rfl⟩)) fun h2=> .cond (fun _=> .one (.inr ⟨by simp,rfl⟩)) fun h3=> .one (.inl ⟨rfl,⟨?_,by have:=of_decide_eq_false h3;simp only;omega⟩,?_⟩)
 ·exact(h (by simpa using h2)).1
 ·obtain⟨a,b,e⟩:=r
  have h2:e=0:=by simpa using h2
  have:=(h h2).2
  simp only at this
  subst h2;subst this
  exact hr
theorem Ol{N:Nat}{types:List Int}{l:List Event}{c:List Call}(H:His N types l c)(h12:c.length≤12){n:Int}{A:List Int}{q:Nat→Nat→Bool}(hA: ∀i,i < 12→Row (A.getD i 0) (q i)):Cx types c ⟨n,A⟩ q:=by
 obtain⟨h1,h2,h3⟩:=H.tys
 obtain⟨op,W⟩:=H.wf
 exact⟨h2,fun x hx=>h3 _ (by rw[aW hx];exact List.getElem_mem hx),h12,fun m hm=>(W.one m hm).aj,hA⟩
def Kp(types:List Int)(c:List Call)(q:Nat→Nat→Bool)(x:List Step)(b:Bool):Prop:=(b=true∧Gd types c q (S0 types) [] x∧∀u,Gd types c q (S0 types) [] u→lex x u)∨(b=false∧x= []∧∀u,¬Gd types c q (S0 types) [] u)
theorem AJ{N:Nat}(hN:300 < N){types:List Int}{l:List Event}{c:List Call}{e:Int}(hc:gW N types l=some (c,e)):Wp (ku N types l) fun r=>r.2.2=e∧(e≠0→r.1= []∧r.2.1=false)∧(e=0→Hc N types l c→Kp types c (fg c) r.1 r.2.1):=by
 obtain⟨r,h1,h2⟩:=Cs hN types l
 rw[hc]at h1
 cases h1
 unfold ku
 refine .bD hc ?_
 rcases h2 with⟨h0,H,_⟩|⟨h0,_⟩
 ·simp only at h0 H
  subst h0
  have hf:=H.pW
  refine .aL rfl (.seq (Qj hN (c:=c) (by omega)) fun a _ ha=> .seq (C4 hN (Ol H.his (by omega) ha.2.2)) fun r _ hr=> .one ⟨rfl,fun h=>(h rfl).elim,fun _ _=>hr⟩)
 ·exact .bg (by simpa using h0) (.one ⟨rfl,fun _=>⟨rfl,rfl⟩,fun h=>(h0 h).elim⟩)
end Sr
namespace Sr
open Rl Hs
theorem ahn{N:Nat}{types:List Int}{l:List Event}{c:List Call}(hN:300 < N)(h:cB N types l=some (c,0,0)):co N types=some 0∧l.length≤200∧∃op,ex N types l l.length c op:=by
 obtain⟨r,h1,h2⟩:=sG (types:=types) (l:=l) hN
 rw[h]at h1
 cases h1
 obtain⟨g1,_,g3,_,g5⟩:=h2 rfl
 exact⟨g1,g3,g5⟩
end Sr
namespace Sr
open Rl Hs
def Kr(c:List Call)(i j:Nat):Bool:=decide (i < c.length∧j < c.length∧(c.getD i Call.z).who=(c.getD j Call.z).who∧i < j)
theorem Sy{N:Nat}{c:List Call}(hN:300 < N)(h12:c.length≤12):Wp (wI N c) fun A=>∀i,i < 12→Row (A.getD i 0) (Kr c i):=by
 unfold wI
 refine .seq (P:=fun A=>∀i,i < 12→Row (A.getD i 0) (Kr c i)) (.iter c.length (fun k st=>st.2=(k:Int)∧∀i,i < 12→Row (st.1.getD i 0) fun j=>decide (i < k)&&Kr c i j) (by omega) ⟨rfl,fun i _=>Row.zero.dZ fun j=>by simp⟩ ?_ ?_) fun A _ hA=> .one hA
 ·rintro k ⟨A,v⟩ hk ⟨hv,hA⟩
  simp only at hv hA
  subst hv
  simp only[vc]
  refine .bg (decide_eq_true (by omega)) ?_
  refine .seq (P:=fun A'=>∀i,i < 12→Row (A'.getD i 0) fun j=>decide (i < k+1)&&Kr c i j) (.bd (.ixV hk ?_)) fun A' _ OL=> .bK (by omega) (.one ⟨by simp,OL⟩)
  refine PK (by omega) h12 (by omega) hA (fun j h=>(of_decide_eq_true h).2.1) (fun B j hj=>?_) (fun B=>?_)
  ·simp only[u_]
   refine Wp.eq (.bg (decide_eq_true (by omega)) (.ix hj ?_))
   have e:((decide (c[k].who=c[j].who))&&(decide ((k:Int) < (j:Int))))=Kr c k j:=by
    unfold Kr
    rw[aW hk,aW hj,Bool.eq_iff_iff]
    simp only[Bool.and_eq_true,decide_eq_true_eq]
    exact⟨fun h=>⟨hk,hj,h.1,by omega⟩,fun h=>⟨h.2.2.1,by omega⟩⟩
   rw[e]
   exact .cond (fun hb=> .S3 (by omega) (.S3 (by omega) (.bK (by omega) (.one (by rw[hb];rfl))))) (fun hb=> .bK (by omega) (.one (by rw[hb];rfl)))
  ·simp only[u_]
   exact Wp.eq (.aL (by simp) (.one rfl))
 ·rintro⟨B,v⟩ ⟨hv,hB⟩
  simp only at hv hB
  subst hv
  simp only[vc]
  refine .aL (by simp) (.one fun i hi=>(hB i hi).dZ fun j=>?_)
  by_cases h:i < c.length
  ·simp[h]
  ·have:Kr c i j=false:=decide_eq_false (fun hh=>h hh.1)
   simp[this]
theorem Zb{N:Nat}(hN:300 < N){types:List Int}{l:List Event}{c:List Call}{e:Int}(hc:gW N types l=some (c,e)):Wp (ET N types l) fun r=>r.2.2=e∧(e≠0→r.1= []∧r.2.1=false)∧(e=0→Hc N types l c→Kp types c (Kr c) r.1 r.2.1):=by
 obtain⟨r,h1,h2⟩:=Cs hN types l
 rw[hc]at h1
 cases h1
 unfold ET
 refine .bD hc ?_
 rcases h2 with⟨h0,H,_⟩|⟨h0,_⟩
 ·simp only at h0 H
  subst h0
  have hf:=H.pW
  refine .aL rfl (.seq (Sy hN (c:=c) (by omega)) fun a _ ha=> .seq (C4 hN (Ol H.his (by omega) ha)) fun r _ hr=> .one ⟨rfl,fun h=>(h rfl).elim,fun _ _=>hr⟩)
 ·exact .bg (by simpa using h0) (.one ⟨rfl,fun _=>⟨rfl,rfl⟩,fun h=>(h0 h).elim⟩)
def Ks(s:List Int×Int×Int)(v:Event):List Int×Int×Int:=if v.kind=0 then(s.1,s.2.1 - 1,if s.2.1 - 1=0 then s.2.2+1 else s.2.2)else(s.1++[s.2.2],s.2.1+1,s.2.2)
def t_(l:List Event):Nat→List Int×Int×Int
 |0=>([],0,0)
 |k+1=>Ks (t_ l k) (l.getD k Event.z)
theorem ae2(l:List Event): ∀k:Nat,(t_ l k).1.length≤k∧ -(k:Int)≤(t_ l k).2.1∧(t_ l k).2.1≤k∧0≤(t_ l k).2.2∧(t_ l k).2.2≤k
 |0=>by simp[t_]
 |k+1=>by
  obtain⟨h1,h2,h3,h4,h5⟩:=ae2 l k
  simp only[t_,Ks]
  split
  ·refine⟨by simp only;omega,by simp only;omega,by simp only;omega,?_,?_⟩
   ·simp only;split<;>omega
   ·simp only;split<;>omega
  ·refine⟨by simp only[List.length_append,List.length_singleton];omega,by simp only;omega,by simp only;omega,by simp only;omega,by simp only;omega⟩
theorem Xf{N:Nat}(hN:300 < N){l:List Event}(hl:l.length≤200):Av N l=some (t_ l l.length).1:=by
 refine Wp.eq ?_
 unfold Av
 refine .seq (P:=fun E=>E=(t_ l l.length).1) (.iter l.length (fun k st=>st=((t_ l k).1,(t_ l k).2.1,(t_ l k).2.2,(k:Int))) (by omega) rfl ?_ ?_) fun E _ hE=> .one (by rw[hE])
 ·rintro k st hk rfl
  obtain⟨h1,h2,h3,h4,h5⟩:=ae2 l k
  simp only[zD]
  refine .bg (decide_eq_true (by omega)) (.ix hk (.cond (fun hv=> .bK (by omega) (.cond (fun h0=> .bK (by omega) (.bK (by omega) (.one ?_))) fun h0=> .bK (by omega) (.one ?_))) fun hv=> .ck (eT ⟨by unfold maxLen;simp only[List.length_append,List.length_singleton];omega,by simp only[List.length_append,List.length_singleton];omega⟩) (.bK (by omega) (.bK (by omega) (.one ?_)))))
  ·simp only[t_,Ks,aW hk]
   rw[if_pos (of_decide_eq_true hv),if_pos (of_decide_eq_true h0)]
   simp
  ·simp only[t_,Ks,aW hk]
   rw[if_pos (of_decide_eq_true hv),if_neg (of_decide_eq_false h0)]
   simp
  ·simp only[t_,Ks,aW hk]
   rw[if_neg (of_decide_eq_false hv)]
   simp
 ·rintro st rfl
  simp only[zD]
  exact .aL (decide_eq_false (by omega)) (.one rfl)
structure Ep(k:Nat)(out:List Call)(s:List Int×Int×Int):Prop where
 len:s.1.length=out.length
 cnt:s.2.1=2 * (out.length:Int) - k
 top: ∀m,m < out.length→s.1.getD m 0≤s.2.2
 qk: ∀m,m < out.length→s.1.getD m 0 < s.2.2→(out.getD m Call.z).aY≠ -1
 mono: ∀i j,i < j→j < out.length→s.1.getD i 0≤s.1.getD j 0
 lt: ∀i j,i < out.length→j < out.length→s.1.getD i 0 < s.1.getD j 0→(out.getD i Call.z).aY≠ -1∧(out.getD i Call.z).aY < (out.getD j Call.z).from_
theorem aho{N:Nat}{types:List Int}{l:List Event}{k:Nat}{out:List Call}{op:List Int}(R:ex N types l k out op):Ep k out (t_ l k):=by
 induction R with
 |zero=>exact⟨rfl,rfl,fun m h=>absurd h (Nat.not_lt_zero _),fun m h=>absurd h (Nat.not_lt_zero _),fun i j _ h=>absurd h (Nat.not_lt_zero _),fun i j _ h=>absurd h (Nat.not_lt_zero _)⟩
 | @succ k out out' op op' R hk S ih=>
  have W:=R.wf
  have W':=(ex.succ R hk S).wf
  obtain⟨i1,i2,i3,i4,i5,i6⟩:=ih
  simp only[t_]
  generalize t_ l k=s at i1 i2 i3 i4 i5 i6⊢
  obtain⟨E,o,e⟩:=s
  simp only at i1 i2 i3 i4 i5 i6
  rcases S.how with⟨hv,_,_,_,rfl,_⟩|⟨hv,m0,hm,hml,_,_,rfl,_⟩
  ·have es:Ks (E,o,e) (l.getD k Event.z)=(E++[e],o+1,e):=by unfold Ks;rw[if_neg hv]
   rw[es]
   have hlen:(out++[sF (l.getD k Event.z) k]).length=out.length+1:=by simp
   have gE: ∀m,m < out.length→(E++[e]).getD m 0=E.getD m 0:=fun m h=>by rw[dL,if_pos (by omega)]
   have gL:(E++[e]).getD out.length 0=e:=by rw[dL,if_neg (by omega),if_pos (by omega)]
   have cE: ∀m,m < out.length→(out++[sF (l.getD k Event.z) k]).getD m Call.z=out.getD m Call.z:=fun m h=>by rw[dL,if_pos h]
   have cL:(out++[sF (l.getD k Event.z) k]).getD out.length Call.z=sF (l.getD k Event.z) k:=by rw[dL,if_neg (by omega),if_pos rfl]
   have low: ∀m,m < out.length→E.getD m 0 < e→(out.getD m Call.z).aY≠ -1∧(out.getD m Call.z).aY < k:=fun m hm h=>by
    have h1:=i4 m hm h
    rcases(W.one m hm).tO with⟨h2,_⟩|⟨_,h2⟩
    ·exact(h1 h2).elim
    ·exact⟨h1,h2⟩
   refine⟨by simp[i1],by simp only[hlen];omega,fun m hm=>?_,fun m hm=>?_,fun i j hij hj=>?_,fun i j hi hj=>?_⟩
   ·rw[hlen]at hm
    simp only
    rcases Nat.lt_or_ge m out.length with h|h
    ·rw[gE m h];exact i3 m h
    ·obtain rfl:m=out.length:=by omega
     rw[gL];omega
   ·rw[hlen]at hm
    simp only
    rcases Nat.lt_or_ge m out.length with h|h
    ·rw[gE m h,cE m h];exact i4 m h
    ·obtain rfl:m=out.length:=by omega
     rw[gL];omega
   ·rw[hlen]at hj
    simp only
    rw[gE i (by omega)]
    rcases Nat.lt_or_ge j out.length with h|h
    ·rw[gE j h];exact i5 i j hij h
    ·obtain rfl:j=out.length:=by omega
     rw[gL];exact i3 i hij
   ·rw[hlen]at hi hj
    simp only
    rcases Nat.lt_or_ge i out.length with h|h
    ·rw[gE i h,cE i h]
     rcases Nat.lt_or_ge j out.length with h2|h2
     ·rw[gE j h2,cE j h2];exact i6 i j h h2
     ·obtain rfl:j=out.length:=by omega
      rw[gL,cL]
      exact low i h
    ·obtain rfl:i=out.length:=by omega
     rw[gL]
     intro h3
     exfalso
     rcases Nat.lt_or_ge j out.length with h2|h2
     ·rw[gE j h2]at h3
      have:=i3 j h2
      omega
     ·obtain rfl:j=out.length:=by omega
      rw[gL]at h3
      omega
  ·have hlen:(out.set m0 (ia (out.getD m0 Call.z) (l.getD k Event.z).value k)).length=out.length:=by rw[List.length_set]
   have h_:(out.getD m0 Call.z).aY= -1:=by
    obtain⟨h1,h2⟩:=S.who
    exact((W.qk (l.getD k Event.z).who.toNat (by omega)).2.2 m0 hm).2
   have es:Ks (E,o,e) (l.getD k Event.z)=(E,o - 1,if o - 1=0 then e+1 else e):=by unfold Ks;rw[if_pos hv]
   rw[es]
   have hE0: ¬E.getD m0 0 < e:=fun h=>i4 m0 hml h h_
   have aiI:o - 1=0→∀m,m < out.length→((out.set m0 (ia (out.getD m0 Call.z) (l.getD k Event.z).value k)).getD m Call.z).aY≠ -1:=fun h0 m hm2=>by
    have hc:=W'.cnt
    rw[hlen]at hc
    have xp:(out.set m0 (ia (out.getD m0 Call.z) (l.getD k Event.z).value k)).countP (fun c=>!decide (c.aY= -1))=(out.set m0 (ia (out.getD m0 Call.z) (l.getD k Event.z).value k)).length:=by rw[hlen];omega
    have:=List.countP_eq_length.1 xp
    have hm3:m < (out.set m0 (ia (out.getD m0 Call.z) (l.getD k Event.z).value k)).length:=by rw[hlen];exact hm2
    have h4:=this _ (List.getElem_mem hm3)
    rw[aW hm3]
    simpa using h4
   refine⟨by simp only[hlen];exact i1,by simp only[hlen];omega,fun m hm=>?_,fun m hm=>?_,fun i j hij hj=>?_,fun i j hi hj=>?_⟩
   ·rw[hlen]at hm
    have:=i3 m hm
    simp only
    split<;>omega
   ·rw[hlen]at hm
    simp only
    intro h
    by_cases h0:o - 1=0
    ·exact aiI h0 m hm
    ·rw[if_neg h0]at h
     rw[fv hml]
     by_cases em:m=m0
     ·subst em;exact(hE0 h).elim
     ·rw[if_neg em];exact i4 m hm h
   ·rw[hlen]at hj
    exact i5 i j hij hj
   ·rw[hlen]at hi hj
    simp only
    intro h
    rw[fv hml,fv hml]
    have ei:i≠m0:=fun e1=>by
     subst e1
     have:=i3 j hj
     omega
    rw[if_neg ei]
    have h6:=i6 i j hi hj h
    by_cases ej:j=m0
    ·subst ej;rw[if_pos rfl];exact h6
    ·rw[if_neg ej];exact h6
def Nk(E:List Int)(i j:Nat):Bool:=decide (i < E.length∧j < E.length∧E.getD i 0 < E.getD j 0)
theorem Zc{N:Nat}(hN:300 < N){types:List Int}{l:List Event}{c:List Call}{e:Int}(hc:gW N types l=some (c,e)):Wp (Ct N types l) fun r=>r.2.2=e∧(e≠0→r.1= []∧r.2.1=false)∧(e=0→Hc N types l c→Kp types c (Nk (t_ l l.length).1) r.1 r.2.1):=by
 obtain⟨r,h1,h2⟩:=Cs hN types l
 rw[hc]at h1
 cases h1
 unfold Ct
 refine .bD hc ?_
 rcases h2 with⟨h0,H,Xg⟩|⟨h0,_⟩
 ·simp only at h0 H Xg
  subst h0
  have hf:=H.pW
  obtain⟨t1,t2,op,R⟩:=ahn (by omega) Xg
  have he:=(aho R).len
  refine .aL rfl (.bD (Xf hN t2) ?_)
  generalize (t_ l l.length).1=E at he⊢
  refine .seq (P:=fun A=>∀i,i < 12→Row (A.getD i 0) (Nk E i)) (.iter E.length (fun k st=>st.2=(k:Int)∧∀i,i < 12→Row (st.1.getD i 0) fun j=>decide (i < k)&&Nk E i j) (by omega) ⟨rfl,fun i _=>Row.zero.dZ fun j=>by simp⟩ ?_ ?_) fun A _ hA=> .seq (C4 hN (Ol H.his (by omega) hA)) fun r _ hr=> .one ⟨rfl,fun h=>(h rfl).elim,fun _ _=>hr⟩
  ·rintro k ⟨A,v⟩ hk ⟨hv,hA⟩
   simp only at hv hA
   subst hv
   simp only[zG]
   refine .bg (decide_eq_true (by omega)) ?_
   refine .seq (P:=fun A'=>∀i,i < 12→Row (A'.getD i 0) fun j=>decide (i < k+1)&&Nk E i j) ?_ fun A' _ OL=> .bK (by omega) (.one ⟨by simp,OL⟩)
   refine PK (by omega) (by omega) (by omega) hA (fun j h=>(of_decide_eq_true h).2.1) (fun B j hj=>?_) (fun B=>?_)
   ·simp only[zF]
    refine Wp.eq (.bg (decide_eq_true (by omega)) (.ix hk (.ix hj ?_)))
    have e:decide (E[k] < E[j])=Nk E k j:=by
     unfold Nk
     rw[aW hk,aW hj,decide_eq_decide]
     exact⟨fun h=>⟨hk,hj,h⟩,fun h=>h.2.2⟩
    rw[e]
    exact .cond (fun hb=> .S3 (by omega) (.S3 (by omega) (.bK (by omega) (.one (by rw[hb];rfl))))) (fun hb=> .bK (by omega) (.one (by rw[hb];rfl)))
   ·simp only[zF]
    exact Wp.eq (.aL (by simp) (.one rfl))
  ·rintro⟨B,v⟩ ⟨hv,hB⟩
   simp only at hv hB
   subst hv
   simp only[zG]
   refine .aL (by simp) (.one fun i hi=>(hB i hi).dZ fun j=>?_)
   by_cases h:i < E.length
   ·simp[h]
   ·have:Nk E i j=false:=decide_eq_false (fun hh=>h hh.1)
    simp[this]
 ·exact .bg (by simpa using h0) (.one ⟨rfl,fun _=>⟨rfl,rfl⟩,fun h=>(h0 h).elim⟩)
theorem Kp.iff{types:List Int}{c:List Call}{q:Nat→Nat→Bool}{x:List Step}{b:Bool}(F:Kp types c q x b):b=true↔∃u,Gd types c q (S0 types) [] u:=by
 rcases F with⟨h,g,_⟩|⟨h,_,g⟩
 ·exact⟨fun _=>⟨x,g⟩,fun _=>h⟩
 ·exact⟨fun e=>(by rw[h]at e;cases e),fun⟨u,gu⟩=>(g u gu).elim⟩
end Sr
end Go.Proofs.YtjdkkabcenohcaaGreatDoor
