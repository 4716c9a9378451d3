/- Bytes, rows cut at a byte, numbers, lines. -/
import Derived.Test.YtjdkkabcenohcaaGreatDoorV1
import Derived.Test.YtjdkkabcenohcaaGreatDoorPl
import Derived.Lib.AtoiTie
import Derived.Lib.Join
set_option linter.unusedVariables false
set_option linter.unusedSimpArgs false
set_option linter.unusedSectionVars false
set_option maxRecDepth 100000
namespace Go.Proofs.YtjdkkabcenohcaaGreatDoor
open Go.RowKit
namespace Tx
def bs(s:ByteArray):List UInt8:=s.data.toList
def fj(l:List UInt8):ByteArray:=⟨l.toArray⟩
theorem Jg(s:ByteArray):fj (bs s)=s:=Lib.mk_data s
theorem gf(l:List UInt8):bs (fj l)=l:=by simp[bs,fj]
theorem uz(a b:ByteArray):bs (a++b)=bs a++bs b:=by simp[bs,ByteArray.data_append]
theorem k9(s:ByteArray):s.size=(bs s).length:=Lib.size_eq s
theorem KR{a b:ByteArray}(h:bs a=bs b):a=b:=by rw[←Jg a,h,Jg]
def eX(c:UInt8):List UInt8→List (List UInt8)
 | []=>[[]]
 |b::l=>if b=c then []::eX c l else match eX c l with
  | []=>[[b]]
  |p::r=>(b::p)::r
def jn(c:UInt8):List (List UInt8)→List UInt8
 | []=>[]
 | [x]=>x
 |x::y::r=>x++c::jn c (y::r)
theorem uA(c:UInt8): ∀s,eX c s≠ []
 | []=>by simp[eX]
 |b::l=>by
  unfold eX
  split
  ·simp
  ·split<;>simp
theorem pI(c:UInt8)(l:List UInt8):eX c (c::l)= []::eX c l:=by simp[eX]
theorem mJ{b c:UInt8}{l p:List UInt8}{r:List (List UInt8)}(h:b≠c)(hs:eX c l=p::r):eX c (b::l)=(b::p)::r:=by
 unfold eX
 rw[if_neg h,hs]
theorem KS(b c:UInt8)(l:List UInt8):Lib.index (b::l) [c]=if b=c then 0 else if Lib.index l [c]= -1 then -1 else Lib.index l [c]+1:=by
 rw[Lib.index]
 have e: [c].isPrefixOf (b::l)=decide (b=c):=by
  by_cases h:b=c
  ·subst h;simp[List.isPrefixOf]
  ·simp[List.isPrefixOf,h,Ne.symm h]
 rw[e]
 by_cases h:b=c
 ·simp[h]
 ·simp only[h,decide_false,if_false,Bool.false_eq_true,beq_iff_eq]
theorem Bq(c:UInt8): ∀s,Lib.splitK [c] 0 (Lib.count s [c]) s=eX c s
 | []=>by rw[Lib.count_one];rfl
 |b::l=>by
  have ih:=Bq c l
  by_cases h:b=c
  ·subst h
   rw[Lib.count_cons_eq,Nat.add_comm,pI,←ih,Lib.splitK,KS,if_pos rfl]
   rfl
  ·rw[Lib.count_cons_ne b c l h]
   generalize Lib.count l [c]=n at ih⊢
   obtain⟨p,r,hs⟩: ∃p r,eX c l=p::r:=by
    cases hs:eX c l with
    |nil=>exact absurd hs (uA c l)
    |cons p r=>exact⟨p,r,rfl⟩
   rw[mJ h hs]
   rw[hs]at ih
   cases n with
   |zero=>
    simp only[Lib.splitK]at ih⊢
    cases ih;rfl
   |succ n=>
    simp only[Lib.splitK]at ih⊢
    rw[KS,if_neg h]
    by_cases hi:Lib.index l [c]= -1
    ·rw[if_pos (by simpa using hi)]at ih
     rw[if_pos hi,if_pos (by rfl)]
     cases ih;rfl
    ·rw[if_neg (by simpa using hi)]at ih
     have hge:=Lib.index_ge l [c]
     rw[if_neg hi,if_neg (by simp;omega)]
     have e:(Lib.index l [c]+1).toNat=(Lib.index l [c]).toNat+1:=by omega
     rw[e]
     have e2:(b::l).take ((Lib.index l [c]).toNat+1+0)=b::l.take ((Lib.index l [c]).toNat+0):=rfl
     have e3:(b::l).drop ((Lib.index l [c]).toNat+1+ [c].length)=l.drop ((Lib.index l [c]).toNat+ [c].length):=rfl
     rw[e2,e3]
     cases ih;rfl
theorem vr{N:Nat}{s:ByteArray}(c:UInt8)(h:s.size < 4294967281):nX N s ⟨#[c]⟩=some ((eX c (bs s)).map fj):=by
 unfold nX
 rw[if_pos ⟨h,Nat.le_refl 1⟩]
 congr 1
 have h1:=Lib.splitB_data ⟨#[c]⟩ 0 (Lib.countB s ⟨#[c]⟩) s
 have h2:Lib.splitK [c] 0 (Lib.countB s ⟨#[c]⟩) (bs s)=eX c (bs s):=Bq c (bs s)
 rw[show(⟨#[c]⟩:ByteArray).data.toList= [c]from rfl,show s.data.toList=bs s from rfl,h2]at h1
 rw[←h1,List.map_map]
 have:(fj∘fun x:ByteArray=>x.data.toList)=id:=funext fun x=>Jg x
 rw[this,List.map_id]
theorem KU{c:UInt8}: ∀{s:List UInt8},c∉s→eX c s= [s]
 | [],_=>rfl
 |b::l,h=>by
  have h1:b≠c:=fun e=>h (by simp[e])
  exact mJ h1 (KU fun e=>h (by simp[e]))
theorem Cn{c:UInt8}: ∀{a:List UInt8} (b:List UInt8),c∉a→eX c (a++c::b)=a::eX c b
 | [],b,_=>pI c b
 |x::a,b,h=>by
  have h1:x≠c:=fun e=>h (by simp[e])
  exact mJ h1 (Cn b fun e=>h (by simp[e]))
theorem Du{c:UInt8}: ∀{ls:List (List UInt8)} (t:List UInt8),(∀x∈ls,c∉x)→eX c (ls.flatMap (· ++[c])++t)=ls++eX c t
 | [],_,_=>rfl
 |x::ls,t,h=>by
  have e:(x::ls).flatMap (· ++[c])++t=x++c::(ls.flatMap (· ++[c])++t):=by simp
  rw[e,Cn _ (h x (by simp)),Du t fun y hy=>h y (by simp[hy])]
  rfl
theorem pj{c:UInt8}{x:List UInt8}{r:List (List UInt8)}(h:r≠ []):jn c (x::r)=x++c::jn c r:=by
 cases r with
 |nil=>exact absurd rfl h
 |cons y r=>rfl
theorem Br(c:UInt8): ∀s,jn c (eX c s)=s
 | []=>rfl
 |b::l=>by
  have ih:=Br c l
  by_cases h:b=c
  ·subst h
   rw[pI,pj (uA b l),ih];rfl
  ·obtain⟨p,r,hs⟩: ∃p r,eX c l=p::r:=by
    cases hs:eX c l with
    |nil=>exact absurd hs (uA c l)
    |cons p r=>exact⟨p,r,rfl⟩
   rw[mJ h hs]
   rw[hs]at ih
   cases r with
   |nil=>simp only[jn]at ih⊢;rw[ih]
   |cons y r=>simp only[jn]at ih⊢;rw[List.cons_append,ih]
theorem Co(c:UInt8): ∀s,(eX c s).length=s.count c+1
 | []=>rfl
 |b::l=>by
  have ih:=Co c l
  by_cases h:b=c
  ·subst h
   rw[pI,List.length_cons,ih,List.count_cons_self]
  ·obtain⟨p,r,hs⟩: ∃p r,eX c l=p::r:=by
    cases hs:eX c l with
    |nil=>exact absurd hs (uA c l)
    |cons p r=>exact⟨p,r,rfl⟩
   rw[mJ h hs,List.count_cons_of_ne h]
   rw[hs]at ih
   simpa using ih
theorem zp: ∀(a b:List UInt8) (n:Nat),Lib.decFrom n (a++b)=(Lib.decFrom n a).bind fun m=>Lib.decFrom m b
 | [],b,n=>rfl
 |x::a,b,n=>by
  simp only[List.cons_append,Lib.decFrom]
  cases Lib.digitVal x with
  |none=>rfl
  |some d=>exact zp a b _
theorem Dv{k:Nat}(h:k < 10):Lib.digitVal (UInt8.ofNat (48+k))=some k:=by
 have:(UInt8.ofNat (48+k)).toNat=48+k:=by rw[UInt8.toNat_ofNat'];omega
 unfold Lib.digitVal
 rw[this,if_pos (by omega)]
 congr 1;omega
theorem MH: ∀u,Lib.decFrom 0 (Lib.decDigits u)=some u:=by
 intro u
 induction u using Nat.strongRecOn with
 |ind u ih=>
  unfold Lib.decDigits
  split
  ·rename_i h
   rw[Lib.decFrom,Dv h]
   simp[Lib.decFrom]
  ·rename_i h
   rw[zp,ih (u / 10) (by omega),Option.bind_some,Lib.decFrom,Dv (show u % 10 < 10 by omega)]
   simp only[Lib.decFrom]
   congr 1
   omega
theorem xc: ∀u,∀b∈Lib.decDigits u,48≤b.toNat∧b.toNat≤57:=by
 intro u
 induction u using Nat.strongRecOn with
 |ind u ih=>
  intro b hb
  unfold Lib.decDigits at hb
  have dg: ∀k,k < 10→48≤(UInt8.ofNat (48+k)).toNat∧(UInt8.ofNat (48+k)).toNat≤57:=fun k hk=>by
   have:(UInt8.ofNat (48+k)).toNat=48+k:=by rw[UInt8.toNat_ofNat'];omega
   omega
  split at hb
  ·rename_i h
   rw[List.mem_singleton.1 hb];exact dg u h
  ·rename_i h
   rcases List.mem_append.1 hb with hb|hb
   ·exact ih (u / 10) (by omega) b hb
   ·rw[List.mem_singleton.1 hb];exact dg _ (by omega)
theorem KV(u:Nat):Lib.decDigits u≠ []:=by
 unfold Lib.decDigits
 split<;>simp
theorem uB: ∀k u,u < 10 ^ (k+1)→(Lib.decDigits u).length≤k+1
 |0,u,h=>by
  unfold Lib.decDigits
  rw[dif_pos (by simpa using h)];simp
 |k+1,u,h=>by
  unfold Lib.decDigits
  split
  ·simp
  ·have:=uB k (u / 10) (by rw[Nat.pow_succ]at h;omega)
   simp;omega
def it(n:Int):List UInt8:=Lib.itoa n
theorem KW(n:Int): ∀b∈it n,b.toNat=45∨(48≤b.toNat∧b.toNat≤57):=by
 intro b hb
 unfold it Lib.itoa at hb
 split at hb
 ·rcases List.mem_cons.1 hb with rfl|hb
  ·exact .inl rfl
  ·exact .inr (xc _ b hb)
 ·exact .inr (xc _ b hb)
theorem yF{n:Int}{c:UInt8}(h:c=32∨c=10):c∉it n:=fun hc=>by
 have:=KW n c hc
 rcases h with rfl|rfl
 ·rw[show(32:UInt8).toNat=32 from rfl]at this;omega
 ·rw[show(10:UInt8).toNat=10 from rfl]at this;omega
theorem Tz{n:Int}(h: -1000000≤n∧n≤1000000):(it n).length≤8:=by
 unfold it Lib.itoa
 split
 ·have:=uB 6 n.natAbs (by simp;omega)
  simp;omega
 ·have:=uB 6 n.toNat (by simp;omega)
  omega
theorem HT(u:Nat):Lib.decNat (Lib.decDigits u)=some u:=by
 unfold Lib.decNat
 have:=KV u
 rw[if_neg (by simpa using this)]
 exact MH u
theorem Cp{n:Int}(h: -1000000≤n∧n≤1000000):Lib.atoiAll (it n)= .ok n:=by
 rw[Lib.atoiAll_short _ (by have:=Tz h;omega)]
 have:Lib.atoi (it n)=some n:=by
  unfold it Lib.itoa
  split
  ·rename_i hn
   simp only[Lib.atoi]
   rw[if_pos (by rfl),HT]
   simp;omega
  ·rename_i hn
   have hd:=HT n.toNat
   obtain⟨b,r,Xr⟩: ∃b r,Lib.decDigits n.toNat=b::r:=by
    cases h:Lib.decDigits n.toNat with
    |nil=>exact absurd h (KV _)
    |cons b r=>exact⟨b,r,rfl⟩
   have hb:=xc n.toNat b (by rw[Xr];simp)
   rw[Xr]at hd⊢
   have h45:b≠45:=fun e=>by subst e;rw[show(45:UInt8).toNat=45 from rfl]at hb;omega
   have h43:b≠43:=fun e=>by subst e;rw[show(43:UInt8).toNat=43 from rfl]at hb;omega
   simp only[Lib.atoi]
   rw[if_neg (by simpa using h45),if_neg (by simpa using h43),hd]
   simp;omega
 rw[this];rfl
def gq(l:List UInt8)(n:Int):Prop:=l=it n∧ -1000000≤n∧n≤1000000
theorem xd{N:Nat}{s:ByteArray}(hs:s.size≤8192):Wp (ld N s) fun r=>(r.2=true→gq (bs s) r.1)∧∀n,gq (bs s) n→r=(n,true):=by
 unfold ld
 have hA:yB N s=some (match Lib.atoiAll (bs s)with
  | .ok v=>(v,false)
  | .range=>(Lib.atoiSat (bs s),true)
  |_=>(0,true)):=by
  unfold yB
  rw[if_pos (by omega)];rfl
 refine .aZ hA ?_
 cases h:Lib.atoiAll (bs s)with
 |ok v=>
  have hb:=Lib.atoiAll_bounds h
  refine .aZ (a:=fj (it v)) (by show pF N v=_;unfold pF;rw[if_pos hb];rfl) (.one ⟨fun hr=>?_,fun n hn=>?_⟩)
  ·simp only[Bool.not_false,Bool.true_and,Bool.and_eq_true,decide_eq_true_eq]at hr
   exact⟨by rw[←hr.1.1,gf],hr.1.2,hr.2⟩
  ·obtain⟨h1,h2⟩:=hn
   rw[h1,Cp h2]at h
   cases h
   have:fj (it v)=s:=KR (by rw[gf,h1])
   simp[this,h2]
 |range=>
  refine .aZ rfl (.one ⟨fun hr=>?_,fun n hn=>?_⟩)
  ·simp at hr
  ·rw[hn.1,Cp hn.2]at h;cases h
 |_=>
  refine .aZ rfl (.one ⟨fun hr=>?_,fun n hn=>?_⟩)
  ·simp at hr
  ·rw[hn.1,Cp hn.2]at h;cases h
end Tx
namespace Tx
theorem yG{c:UInt8}: ∀{a:List UInt8} {r:List (List UInt8)},jn c (a::r)=a++r.flatMap (c:: ·)
 |a,[]=>by simp[jn]
 |a,y::r=>by rw[pj (by simp),yG];simp
theorem Fs{c:UInt8}: ∀{a:List UInt8} {r:List (List UInt8)},c∉a→(∀x∈r,c∉x)→eX c (a++r.flatMap (c:: ·))=a::r
 |a,[],h,_=>by simpa using KU h
 |a,y::r,h,hr=>by
  have e:a++(y::r).flatMap (c:: ·)=a++c::(y++r.flatMap (c:: ·)):=by simp
  rw[e,Cn _ h,Fs (hr y (by simp)) fun x hx=>hr x (by simp[hx])]
theorem OQ{c:UInt8}: ∀{ls:List (List UInt8)} {p:List UInt8},p∈ls→p.length≤(jn c ls).length
 | [],p,h=>by simp at h
 |a::r,p,h=>by
  rcases List.mem_cons.1 h with rfl|h
  ·rw[yG];simp
  ·cases r with
   |nil=>simp at h
   |cons y r=>
    have:=OQ (c:=c) h
    rw[pj (by simp)]
    simp only[List.length_append,List.length_cons];omega
theorem KX{c:UInt8}{s p:List UInt8}(h:p∈eX c s):p.length≤s.length:=by
 have:=OQ (c:=c) h
 rw[Br]at this;exact this
def pR:List (List UInt8):=[[],[114,101,103],[113,117,101,117,101],[115,116,97,99,107],[115,101,116],[116,105,99,107,101,116]]
def sH:List (List UInt8):=[[101,110,100],[119,114,105,116,101],[114,101,97,100],[101,110,113],[100,101,113],[112,117,115,104],[112,111,112],[97,100,100],[114,101,109,111,118,101],[104,97,115],[116,97,107,101]]
theorem TA{c:UInt8}(h:c=32∨c=10){x:List UInt8}(hx:x∈pR):c∉x:=by
 have h1: ∀x∈pR,(32:UInt8)∉x∧(10:UInt8)∉x:=by decide
 rcases h with rfl|rfl
 ·exact(h1 x hx).1
 ·exact(h1 x hx).2
theorem TB{c:UInt8}(h:c=32∨c=10){x:List UInt8}(hx:x∈sH):c∉x:=by
 have h1: ∀x∈sH,(32:UInt8)∉x∧(10:UInt8)∉x:=by decide
 rcases h with rfl|rfl
 ·exact(h1 x hx).1
 ·exact(h1 x hx).2
theorem g_{α:Type}{l:List α}{i:Nat}{d:α}(h:i < l.length):l.getD i d∈l:=by
 rw[List.getD_eq_getElem?_getD,List.getElem?_eq_getElem h]
 exact List.getElem_mem h
theorem zZ{α:Type}{l:List α}(h:l.Nodup){i j:Nat}{x:α}(hi:l[i]? =some x)(hj:l[j]? =some x):i=j:=by
 obtain⟨h1,h2⟩:=List.getElem?_eq_some_iff.1 hi
 obtain⟨h3,h4⟩:=List.getElem?_eq_some_iff.1 hj
 exact(List.getElem_inj h).1 (h2.trans h4.symm)
theorem vt{N:Nat}{xs:List (List UInt8)}{v:List UInt8}(hN:300 < N)(hl:xs.length≤20):Wp (dF N (xs.map fj) (fj v)) fun r=>(r= -1∧v∉xs)∨∃k:Nat,r=k∧xs[k]? =some v:=by
 unfold dF
 refine .elim (P:=fun t=>match t with| .inl _=>v∉xs| .inr r=>∃k:Nat,r=k∧xs[k]? =some v) (.iter xs.length (fun k i=>i=(k:Int)∧∀j,j < k→xs[j]? ≠some v) (by omega) ⟨rfl,fun j h=>absurd h (Nat.not_lt_zero _)⟩ ?_ ?_) (fun _ _ h=> .one (.inl ⟨rfl,h⟩)) (fun r _ h=> .one (.inr h))
 ·rintro k i hk ⟨rfl,h⟩
  simp only[fN,List.length_map]
  refine .aF (decide_eq_true (by omega)) (.ix (by simpa using hk) (.cond (fun he=> .one ⟨k,rfl,?_⟩) (fun he=> .aV (by omega) (.one ⟨by simp,fun j hj=>?_⟩))))
  ·have he:fj v=(xs.map fj)[k]'(by simpa using hk):=of_decide_eq_true he
   rw[List.getElem_map]at he
   rw[List.getElem?_eq_getElem hk,←gf xs[k],←he,gf]
  ·rcases Nat.lt_or_ge j k with h1|h1
   ·exact h j h1
   ·obtain rfl:j=k:=by omega
    have he: ¬fj v=(xs.map fj)[j]'(by simpa using hk):=of_decide_eq_false he
    rw[List.getElem_map]at he
    rw[List.getElem?_eq_getElem hk]
    intro e
    exact he (by rw[Option.some.inj e])
 ·rintro i ⟨rfl,h⟩
  simp only[fN,List.length_map]
  refine .aw (decide_eq_false (by omega)) (.one fun hm=>?_)
  obtain⟨j,hj,he⟩:=List.mem_iff_getElem.1 hm
  exact h j hj (by rw[List.getElem?_eq_getElem hj,he])
def pJ(k:Int):Bool:=(((decide (k=2))||(decide (k=4)))||(decide (k=6)))||(decide (k=10))
structure pm(e:Event):Prop where
 who: -1000000≤e.who∧e.who≤1000000
 aB: -1000000≤e.aB∧e.aB≤1000000
 kind:0≤e.kind∧e.kind≤10
 value:if pJ e.kind=true then e.value=0 else -1000000≤e.value∧e.value≤1000000
def Bs(e:Event):List (List UInt8):=it e.aB::sH.getD e.kind.toNat []::(if pJ e.kind=true then []else [it e.value])
def uC(e:Event):List UInt8:=it e.who++(Bs e).flatMap (32:: ·)
theorem TC{e:Event}(h:pm e){c:UInt8}(hc:c=32∨c=10): ∀x∈Bs e,c∉x:=by
 intro x hx
 have hk:=h.kind
 have hw:c∉sH.getD e.kind.toNat []:=TB hc (g_ (by simp[sH];omega))
 unfold Bs at hx
 split at hx
 ·simp only[List.mem_cons,List.not_mem_nil,or_false]at hx
  rcases hx with rfl|rfl
  ·exact yF hc
  ·exact hw
 ·simp only[List.mem_cons,List.not_mem_nil,or_false]at hx
  rcases hx with rfl|rfl|rfl
  ·exact yF hc
  ·exact hw
  ·exact yF hc
theorem Qe{e:Event}(h:pm e):eX 32 (uC e)=it e.who::Bs e:=Fs (yF (.inl rfl)) (TC h (.inl rfl))
theorem rr(l:List UInt8):(fj l).size=l.length:=by rw[k9,gf]
theorem z6{N:Nat}{line:ByteArray}(hN:300 < N)(hs:line.size≤8192):Wp (qN N line) fun r=>(r.2.2.2.2=true→pm ⟨r.1,r.2.1,r.2.2.1,r.2.2.2.1⟩∧bs line=uC ⟨r.1,r.2.1,r.2.2.1,r.2.2.2.1⟩)∧∀e,pm e→bs line=uC e→r=(e.who,e.aB,e.kind,e.value,true):=by
 unfold qN
 refine .aZ (vr 32 (by omega)) ?_
 have key: ∀e,pm e→bs line=uC e→eX 32 (bs line)=it e.who::Bs e:=fun e he h=>by rw[h];exact Qe he
 have back: ∀a r,eX 32 (bs line)=a::r→bs line=a++r.flatMap (32:: ·):=fun a r h=>by rw[←yG,←h,Br]
 have hsz: ∀p∈eX 32 (bs line),(fj p).size≤8192:=fun p hp=>by
  have:=KX hp
  rw[rr]
  rw[k9]at hs;omega
 generalize eX 32 (bs line)=W at key back hsz⊢
 simp only[List.length_map]
 refine .cond (fun h=> .one ⟨fun h=>by simp at h,fun e he hl=>?_⟩) (fun h=>?_)
 ·exfalso
  have h2:=congrArg List.length (key e he hl)
  have h3:(W.length:Int) < 3:=of_decide_eq_true h
  unfold Bs at h2
  split at h2<;>simp at h2<;>omega
 have h3: ¬(W.length:Int) < 3:=of_decide_eq_false h
 obtain⟨a,b,c,rest,rfl⟩: ∃a b c rest,W=a::b::c::rest:=by
  match W,h3 with
  | [],h=>simp at h
  | [_],h=>simp at h
  | [_,_],h=>simp at h
  |a::b::c::rest,_=>exact⟨a,b,c,rest,rfl⟩
 refine .aZ (a:=fj a) rfl (.seq (xd (hsz a (by simp))) fun r7 _ h7=> .aZ (a:=fj b) rfl (.seq (xd (hsz b (by simp))) fun r9 _ h9=> .seq (P:=fun r:Int=>(r= -1∧c∉sH)∨∃k:Nat,r=k∧sH[k]? =some c) (.aZ (a:=fj c) rfl (.aZ rfl (.seq (vt (xs:=sH) (v:=c) hN (by decide)) fun r _ h=> .one h))) fun K _ hK=>?_))
 simp only[gf]at h7 h9
 have tell: ∀e,pm e→bs line=uC e→r7=(e.who,true)∧r9=(e.aB,true)∧K=e.kind∧rest=(if pJ e.kind=true then []else [it e.value]):=fun e he hl=>by
  have hk:=he.kind
  have h1:=key e he hl
  simp only[Bs,List.cons.injEq]at h1
  obtain⟨h1,h2,h4,h5⟩:=h1
  refine⟨h7.2 e.who ⟨h1,he.who⟩,h9.2 e.aB ⟨h2,he.aB⟩,?_,h5⟩
  have hm:sH[e.kind.toNat]? =some c:=by
   have hlt:e.kind.toNat < sH.length:=by simp[sH];omega
   rw[h4,List.getD_eq_getElem?_getD,List.getElem?_eq_getElem hlt];rfl
  rcases hK with⟨_,hK⟩|⟨k,rfl,hK⟩
  ·exact absurd (List.mem_of_getElem? hm) hK
  ·have:=zZ (by decide:sH.Nodup) hm hK
   omega
 refine .cond (fun hbad=> .one ⟨fun h=>by simp at h,fun e he hl=>?_⟩) (fun hok=> .aZ rfl ?_)
 ·obtain⟨t1,t2,t3,_⟩:=tell e he hl
  have hk:=he.kind
  exfalso
  rw[t1,t2,t3]at hbad
  simp at hbad
  omega
 simp only[Bool.or_eq_false_iff,Bool.not_eq_false',decide_eq_false_iff_not]at hok
 obtain⟨⟨o7,o9⟩,oK⟩:=hok
 obtain⟨k,rfl,KY⟩: ∃k:Nat,K=k∧sH[k]? =some c:=by
  rcases hK with⟨rfl,_⟩|h
  ·exact absurd (by decide) oK
  ·exact h
 have qf:k < 11:=(List.getElem?_eq_some_iff.1 KY).1
 have HU:sH.getD k []=c:=by rw[List.getD_eq_getElem?_getD,KY];rfl
 have n7:=h7.1 o7
 have n9:=h9.1 o9
 have hb:=back _ _ rfl
 refine .cond (fun yH=> .one ⟨fun hlen=>?_,fun e he hl=>?_⟩) (fun yH=> .cond (fun hlen=> .one ⟨fun h=>by simp at h,fun e he hl=>?_⟩) (fun hlen=>?_))
 ·have hr:rest= []:=by
   have:((rest.length+1+1+1:Nat):Int)=3:=of_decide_eq_true hlen
   exact List.eq_nil_of_length_eq_zero (by omega)
  subst hr
  have hbk:pJ (k:Int)=true:=yH
  refine⟨⟨n7.2,n9.2,by simp only;omega,by simp only[hbk,if_true]⟩,?_⟩
  rw[hb]
  simp only[uC,Bs,hbk,Int.toNat_natCast,HU,n7.1.symm,n9.1.symm,if_true]
 ·obtain⟨t1,t2,t3,t4⟩:=tell e he hl
  have hbk:pJ e.kind=true:=by rw[←t3];exact yH
  have hv:=he.value
  rw[if_pos hbk]at t4 hv
  subst t4
  rw[t1,t2,t3,hv]
  rfl
 ·obtain⟨t1,t2,t3,t4⟩:=tell e he hl
  have hbk: ¬pJ e.kind=true:=by rw[←t3];exact Bool.eq_false_iff.1 yH
  rw[if_neg hbk]at t4
  subst t4
  exact absurd hlen (by simp)
 ·have h4:((rest.length+1+1+1:Nat):Int)=4:=by simpa using hlen
  obtain⟨d,rfl⟩: ∃d,rest= [d]:=by
   match rest,h4 with
   | [d],_=>exact⟨d,rfl⟩
   | [],h=>simp at h
   |_::_::_,h=>simp at h;omega
  refine .aZ (a:=fj d) rfl (.seq (xd (hsz d (by simp))) fun gz _ OS=> .one ⟨fun hr=>?_,fun e he hl=>?_⟩)
  ·simp only[gf]at OS
   have n22:=OS.1 hr
   have hbk:pJ (k:Int)=false:=yH
   refine⟨⟨n7.2,n9.2,by simp only;omega,by simp only[hbk];exact n22.2⟩,?_⟩
   rw[hb]
   simp only[uC,Bs,hbk,Int.toNat_natCast,HU,n7.1.symm,n9.1.symm,n22.1.symm]
   rfl
  ·simp only[gf]at OS
   obtain⟨t1,t2,t3,t4⟩:=tell e he hl
   have hbk: ¬pJ e.kind=true:=by rw[←t3];exact Bool.eq_false_iff.1 yH
   have hv:=he.value
   rw[if_neg hbk]at t4 hv
   simp only[List.cons.injEq,and_true]at t4
   rw[t1,t2,t3,OS.2 e.value ⟨t4,hv⟩]
def uD:List UInt8:=[116,104,105,110,103,115]
structure oe(t:List Int):Prop where
 len:1≤t.length∧t.length≤4
 all: ∀x∈t,1≤x∧x≤5
def wj(t:List Int):List (List UInt8):=t.map fun x=>pR.getD x.toNat []
def xe(t:List Int):List UInt8:=uD++(wj t).flatMap (32:: ·)
theorem TD{t:List Int}(h:oe t){c:UInt8}(hc:c=32∨c=10): ∀x∈wj t,c∉x:=by
 intro x hx
 obtain⟨y,hy,rfl⟩:=List.mem_map.1 hx
 have:=h.all y hy
 exact TA hc (g_ (by simp[pR];omega))
theorem Qf{t:List Int}(h:oe t):eX 32 (xe t)=uD::wj t:=Fs (by decide) (TD h (.inl rfl))
theorem KZ{t:List Int}(h:oe t){k:Nat}(hk:k < t.length):(wj t)[k]? =some (pR.getD (t.getD k 0).toNat []):=by
 unfold wj
 rw[List.getElem?_map,List.getElem?_eq_getElem hk,aG hk];rfl
theorem K0{N:Nat}{line:ByteArray}(hN:300 < N)(hs:line.size≤8192):Wp (pH N line) fun r=>(r.2=true→oe r.1∧bs line=xe r.1)∧∀t,oe t→bs line=xe t→r=(t,true):=by
 unfold pH
 refine .aZ (vr 32 (by omega)) ?_
 have key: ∀t,oe t→bs line=xe t→eX 32 (bs line)=uD::wj t:=fun t ht h=>by rw[h];exact Qf ht
 have back: ∀a r,eX 32 (bs line)=a::r→bs line=a++r.flatMap (32:: ·):=fun a r h=>by rw[←yG,←h,Br]
 have hne:=uA 32 (bs line)
 generalize eX 32 (bs line)=W at key back hne⊢
 obtain⟨a,rest,rfl⟩: ∃a r,W=a::r:=by
  cases W with
  |nil=>exact absurd rfl hne
  |cons a r=>exact⟨a,r,rfl⟩
 have hb:=back _ _ rfl
 have tell: ∀t,oe t→bs line=xe t→a=uD∧rest=wj t:=fun t ht hl=>by
  have:=key t ht hl
  simpa using this
 refine .aZ (a:=fj a) rfl (.cond (fun h=> .one ⟨fun h=>by simp at h,fun t ht hl=>?_⟩) (fun h=>?_))
 ·exfalso
  obtain⟨t1,t2⟩:=tell t ht hl
  have hl:=ht.len
  have hlen:rest.length=t.length:=by rw[t2];simp[wj]
  rw[t1]at h
  simp only[Bool.or_eq_true,Bool.not_eq_true',decide_eq_false_iff_not,decide_eq_true_eq,List.length_map,List.length_cons]at h
  rcases h with(h|h)|h
  ·exact h rfl
  ·omega
  ·omega
 simp only[Bool.or_eq_false_iff,Bool.not_eq_false',decide_eq_true_eq,decide_eq_false_iff_not,List.length_map,List.length_cons]at h
 obtain⟨⟨ha,hl2⟩,hl5⟩:=h
 have ha:a=uD:=by rw[←gf a,ha];rfl
 have Xu:((a::rest).map fj).drop (1:Int).toNat=rest.map fj:=rfl
 refine .elim (P:=fun x=>match x with| .inl out=>oe out∧rest=wj out| .inr r=>r=([],false)∧∃x∈rest,∀k:Nat,1≤k→pR[k]? ≠some x) (.ck ?_ ?_) (fun out _ h=> .one ⟨fun _=>⟨h.1,?_⟩,fun t ht hl=>?_⟩) (fun r _ h=> .one ⟨fun h2=>?_,fun t ht hl=>?_⟩)
 ·simp[nH];omega
 ·refine .iter rest.length (fun k s=>s.2=(k:Int)∧s.1.length=k∧(∀x∈s.1,1≤x∧x≤5)∧wj s.1=rest.take k) (by omega) ⟨rfl,rfl,by simp,rfl⟩ ?_ ?_
  ·rintro k ⟨out,v⟩ hk ⟨hv,hol,hall,K1⟩
   simp only at hv hol hall K1
   subst hv
   simp only[pd,Xu,List.length_map]
   refine .aF (decide_eq_true (by omega)) (.ix (by simpa using hk) (.aZ rfl ?_))
   rw[List.getElem_map]
   refine .seq (vt (xs:=pR) (v:=rest[k]) hN (by decide)) fun i _ hi=> .cond (fun hlt=> .one ⟨rfl,rest[k],List.getElem_mem hk,fun j hj he=>?_⟩) (fun hlt=> .ck (cC ⟨?_,?_⟩) (.aV (by omega) (.one ⟨by simp,by simp;omega,fun x hx=>?_,?_⟩)))
   ·have hlt:i < 1:=of_decide_eq_true hlt
    rcases hi with⟨_,hi⟩|⟨q,rfl,hi⟩
    ·exact hi (List.mem_of_getElem? he)
    ·have:=zZ (by decide:pR.Nodup) he hi
     omega
   ·simp only[List.length_singleton];exact Nat.le_trans (m:=2000) (by omega) (by decide)
   ·simp only[List.length_singleton];omega
   all_goals
    have hlt: ¬i < 1:=of_decide_eq_false hlt
    obtain⟨q,rfl,hj⟩: ∃q:Nat,i=q∧pR[q]? =some rest[k]:=by
     rcases hi with⟨rfl,_⟩|h
     ·exact absurd (by decide) hlt
     ·exact h
    have hq6:q < 6:=(List.getElem?_eq_some_iff.1 hj).1
   ·rcases List.mem_append.1 hx with hx|hx
    ·exact hall x hx
    ·rw[List.mem_singleton.1 hx];omega
   ·rw[List.take_add_one,List.getElem?_eq_getElem hk,←K1]
    simp only[wj,List.map_append,List.map_cons,List.map_nil,Int.toNat_natCast,Option.toList_some]
    rw[List.getD_eq_getElem?_getD,hj];rfl
  ·rintro⟨out,v⟩ ⟨hv,hol,hall,K1⟩
   simp only at hv hol hall K1
   subst hv
   simp only[pd,Xu,List.length_map]
   exact .aw (decide_eq_false (by omega)) (.one ⟨⟨by omega,hall⟩,by rw[K1,List.take_length]⟩)
 ·rw[hb,ha,h.2];rfl
 ·obtain⟨_,t2⟩:=tell t ht hl
  rw[h.2]at t2
  have hlen:out.length=t.length:=by have:=congrArg List.length t2;simpa[wj]using this
  have:out=t:=by
   refine List.ext_getElem hlen fun i h1 h3=>?_
   have e1:=KZ h.1 h1
   rw[t2,KZ ht h3,aG h1,aG h3]at e1
   have e2:=Option.some.inj e1
   have b1:=h.1.all _ (List.getElem_mem h1)
   have b2:=ht.all _ (List.getElem_mem h3)
   have l1:t[i].toNat < pR.length:=by simp[pR];omega
   have l2:out[i].toNat < pR.length:=by simp[pR];omega
   have:=zZ (by decide:pR.Nodup) (i:=t[i].toNat) (j:=out[i].toNat) (x:=pR.getD t[i].toNat []) (by rw[List.getElem?_eq_getElem l1,aG l1]) (by rw[e2,List.getElem?_eq_getElem l2,aG l2])
   omega
  rw[this]
 ·rw[h.1]at h2;simp at h2
 ·exfalso
  obtain⟨_,x,hx,hn⟩:=h
  obtain⟨_,t2⟩:=tell t ht hl
  rw[t2]at hx
  obtain⟨y,hy,rfl⟩:=List.mem_map.1 hx
  have:=ht.all y hy
  have l1:y.toNat < pR.length:=by simp[pR];omega
  exact hn y.toNat (by omega) (by rw[List.getElem?_eq_getElem l1,aG l1])
end Tx
end Go.Proofs.YtjdkkabcenohcaaGreatDoor
