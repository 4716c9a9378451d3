import Derived.Test.YtjdkkabcenohcaaGreatDoorV1
import Derived.Test.YtjdkkabcenohcaaGreatDoorPl
import Derived.Lib.AtoiTie
import Derived.Lib.Join
set_option linter.unusedVariables false
set_option linter.unusedSimpArgs false
set_option linter.unusedSectionVars false
set_option maxRecDepth 100000
namespace Go.Proofs.YtjdkkabcenohcaaGreatDoor
open Go.RowKit
namespace Tx
def bs(s:ByteArray):List UInt8:=s.data.toList
def jS(l:List UInt8):ByteArray:=⟨l.toArray⟩
theorem U5(s:ByteArray):jS (bs s)=s:=Lib.mk_data s
theorem kA(l:List UInt8):bs (jS l)=l:=by simp[bs,jS]
theorem wx(a b:ByteArray):bs (a++b)=bs a++bs b:=by simp[bs,ByteArray.data_append]
theorem nM(s:ByteArray):s.size=(bs s).length:=Lib.size_eq s
theorem aey{a b:ByteArray}(h:bs a=bs b):a=b:=by rw[←U5 a,h,U5]
def jv(c:UInt8):List UInt8→List (List UInt8)
 | []=>[[]]
 |b::l=>if b=c then []::jv c l else match jv c l with
  | []=>[[b]]
  |p::r=>(b::p)::r
def jn(c:UInt8):List (List UInt8)→List UInt8
 | []=>[]
 | [x]=>x
 |x::y::r=>x++c::jn c (y::r)
theorem Dw(c:UInt8): ∀s,jv c s≠ []
 | []=>by simp[jv]
 |b::l=>by
  unfold jv
  split
  ·simp
  ·split<;>simp
theorem yI(c:UInt8)(l:List UInt8):jv c (c::l)= []::jv c l:=by simp[jv]
theorem uv{b c:UInt8}{l p:List UInt8}{r:List (List UInt8)}(h:b≠c)(hs:jv c l=p::r):jv c (b::l)=(b::p)::r:=by
 unfold jv
 rw[if_neg h,hs]
theorem WP(b c:UInt8)(l:List UInt8):Lib.index (b::l) [c]=if b=c then 0 else if Lib.index l [c]= -1 then -1 else Lib.index l [c]+1:=by
 rw[Lib.index]
 have e: [c].isPrefixOf (b::l)=decide (b=c):=by
  by_cases h:b=c
  ·subst h;simp[List.isPrefixOf]
  ·simp[List.isPrefixOf,h,Ne.symm h]
 rw[e]
 by_cases h:b=c
 ·simp[h]
 ·simp only[h,decide_false,if_false,Bool.false_eq_true,beq_iff_eq]
theorem J9(c:UInt8): ∀s,Lib.splitK [c] 0 (Lib.count s [c]) s=jv c s
 | []=>by rw[Lib.count_one];rfl
 |b::l=>by
  have ih:=J9 c l
  by_cases h:b=c
  ·subst h
   rw[Lib.count_cons_eq,Nat.add_comm,yI,←ih,Lib.splitK,WP,if_pos rfl]
   rfl
  ·rw[Lib.count_cons_ne b c l h]
   generalize Lib.count l [c]=n at ih⊢
   obtain⟨p,r,hs⟩: ∃p r,jv c l=p::r:=by
    cases hs:jv c l with
    |nil=>exact absurd hs (Dw c l)
    |cons p r=>exact⟨p,r,rfl⟩
   rw[uv h hs]
   rw[hs]at ih
   cases n with
   |zero=>
    simp only[Lib.splitK]at ih⊢
    cases ih;rfl
   |succ n=>
    simp only[Lib.splitK]at ih⊢
    rw[WP,if_neg h]
    by_cases hi:Lib.index l [c]= -1
    ·rw[if_pos (by simpa using hi)]at ih
     rw[if_pos hi,if_pos (by rfl)]
     cases ih;rfl
    ·rw[if_neg (by simpa using hi)]at ih
     have hge:=Lib.index_ge l [c]
     rw[if_neg hi,if_neg (by simp;omega)]
     have e:(Lib.index l [c]+1).toNat=(Lib.index l [c]).toNat+1:=by omega
     rw[e]
     have e2:(b::l).take ((Lib.index l [c]).toNat+1+0)=b::l.take ((Lib.index l [c]).toNat+0):=rfl
     have e3:(b::l).drop ((Lib.index l [c]).toNat+1+ [c].length)=l.drop ((Lib.index l [c]).toNat+ [c].length):=rfl
     rw[e2,e3]
     cases ih;rfl
theorem IR{N:Nat}{s:ByteArray}(c:UInt8)(h:s.size < 4294967281):yR N s ⟨#[c]⟩=some ((jv c (bs s)).map jS):=by
 unfold yR
 rw[if_pos ⟨h,Nat.le_refl 1⟩]
 congr 1
 have h1:=Lib.splitB_data ⟨#[c]⟩ 0 (Lib.countB s ⟨#[c]⟩) s
 have h2:Lib.splitK [c] 0 (Lib.countB s ⟨#[c]⟩) (bs s)=jv c (bs s):=J9 c (bs s)
 rw[show(⟨#[c]⟩:ByteArray).data.toList= [c]from rfl,show s.data.toList=bs s from rfl,h2]at h1
 rw[←h1,List.map_map]
 have:(jS∘fun x:ByteArray=>x.data.toList)=id:=funext fun x=>U5 x
 rw[this,List.map_id]
theorem WQ{c:UInt8}: ∀{s:List UInt8},c∉s→jv c s= [s]
 | [],_=>rfl
 |b::l,h=>by
  have h1:b≠c:=fun e=>h (by simp[e])
  exact uv h1 (WQ fun e=>h (by simp[e]))
theorem LG{c:UInt8}: ∀{a:List UInt8} (b:List UInt8),c∉a→jv c (a++c::b)=a::jv c b
 | [],b,_=>yI c b
 |x::a,b,h=>by
  have h1:x≠c:=fun e=>h (by simp[e])
  exact uv h1 (LG b fun e=>h (by simp[e]))
theorem Nb{c:UInt8}: ∀{ls:List (List UInt8)} (t:List UInt8),(∀x∈ls,c∉x)→jv c (ls.flatMap (· ++[c])++t)=ls++jv c t
 | [],_,_=>rfl
 |x::ls,t,h=>by
  have e:(x::ls).flatMap (· ++[c])++t=x++c::(ls.flatMap (· ++[c])++t):=by simp
  rw[e,LG _ (h x (by simp)),Nb t fun y hy=>h y (by simp[hy])]
  rfl
theorem vJ{c:UInt8}{x:List UInt8}{r:List (List UInt8)}(h:r≠ []):jn c (x::r)=x++c::jn c r:=by
 cases r with
 |nil=>exact absurd rfl h
 |cons y r=>rfl
theorem Gg(c:UInt8): ∀s,jn c (jv c s)=s
 | []=>rfl
 |b::l=>by
  have ih:=Gg c l
  by_cases h:b=c
  ·subst h
   rw[yI,vJ (Dw b l),ih];rfl
  ·obtain⟨p,r,hs⟩: ∃p r,jv c l=p::r:=by
    cases hs:jv c l with
    |nil=>exact absurd hs (Dw c l)
    |cons p r=>exact⟨p,r,rfl⟩
   rw[uv h hs]
   rw[hs]at ih
   cases r with
   |nil=>simp only[jn]at ih⊢;rw[ih]
   |cons y r=>simp only[jn]at ih⊢;rw[List.cons_append,ih]
theorem LH(c:UInt8): ∀s,(jv c s).length=s.count c+1
 | []=>rfl
 |b::l=>by
  have ih:=LH c l
  by_cases h:b=c
  ·subst h
   rw[yI,List.length_cons,ih,List.count_cons_self]
  ·obtain⟨p,r,hs⟩: ∃p r,jv c l=p::r:=by
    cases hs:jv c l with
    |nil=>exact absurd hs (Dw c l)
    |cons p r=>exact⟨p,r,rfl⟩
   rw[uv h hs,List.count_cons_of_ne h]
   rw[hs]at ih
   simpa using ih
theorem Ii: ∀(a b:List UInt8) (n:Nat),Lib.decFrom n (a++b)=(Lib.decFrom n a).bind fun m=>Lib.decFrom m b
 | [],b,n=>rfl
 |x::a,b,n=>by
  simp only[List.cons_append,Lib.decFrom]
  cases Lib.digitVal x with
  |none=>rfl
  |some d=>exact Ii a b _
theorem Nc{k:Nat}(h:k < 10):Lib.digitVal (UInt8.ofNat (48+k))=some k:=by
 have:(UInt8.ofNat (48+k)).toNat=48+k:=by rw[UInt8.toNat_ofNat'];omega
 unfold Lib.digitVal
 rw[this,if_pos (by omega)]
 congr 1;omega
theorem YO: ∀u,Lib.decFrom 0 (Lib.decDigits u)=some u:=by
 intro u
 induction u using Nat.strongRecOn with
 |ind u ih=>
  unfold Lib.decDigits
  split
  ·rename_i h
   rw[Lib.decFrom,Nc h]
   simp[Lib.decFrom]
  ·rename_i h
   rw[Ii,ih (u / 10) (by omega),Option.bind_some,Lib.decFrom,Nc (show u % 10 < 10 by omega)]
   simp only[Lib.decFrom]
   congr 1
   omega
theorem Gi: ∀u,∀b∈Lib.decDigits u,48≤b.toNat∧b.toNat≤57:=by
 intro u
 induction u using Nat.strongRecOn with
 |ind u ih=>
  intro b hb
  unfold Lib.decDigits at hb
  have dg: ∀k,k < 10→48≤(UInt8.ofNat (48+k)).toNat∧(UInt8.ofNat (48+k)).toNat≤57:=fun k hk=>by
   have:(UInt8.ofNat (48+k)).toNat=48+k:=by rw[UInt8.toNat_ofNat'];omega
   omega
  split at hb
  ·rename_i h
   rw[List.mem_singleton.1 hb];exact dg u h
  ·rename_i h
   rcases List.mem_append.1 hb with hb|hb
   ·exact ih (u / 10) (by omega) b hb
   ·rw[List.mem_singleton.1 hb];exact dg _ (by omega)
theorem WR(u:Nat):Lib.decDigits u≠ []:=by
 unfold Lib.decDigits
 split<;>simp
theorem Dx: ∀k u,u < 10 ^ (k+1)→(Lib.decDigits u).length≤k+1
 |0,u,h=>by
  unfold Lib.decDigits
  rw[dif_pos (by simpa using h)];simp
 |k+1,u,h=>by
  unfold Lib.decDigits
  split
  ·simp
  ·have:=Dx k (u / 10) (by rw[Nat.pow_succ]at h;omega)
   simp;omega
def it(n:Int):List UInt8:=Lib.itoa n
theorem WT(n:Int): ∀b∈it n,b.toNat=45∨(48≤b.toNat∧b.toNat≤57):=by
 intro b hb
 unfold it Lib.itoa at hb
 split at hb
 ·rcases List.mem_cons.1 hb with rfl|hb
  ·exact .inl rfl
  ·exact .inr (Gi _ b hb)
 ·exact .inr (Gi _ b hb)
theorem J_{n:Int}{c:UInt8}(h:c=32∨c=10):c∉it n:=fun hc=>by
 have:=WT n c hc
 rcases h with rfl|rfl
 ·rw[show(32:UInt8).toNat=32 from rfl]at this;omega
 ·rw[show(10:UInt8).toNat=10 from rfl]at this;omega
theorem J'{n:Int}(h: -1000000≤n∧n≤1000000):(it n).length≤8:=by
 unfold it Lib.itoa
 split
 ·have:=Dx 6 n.natAbs (by simp;omega)
  simp;omega
 ·have:=Dx 6 n.toNat (by simp;omega)
  omega
theorem Te(u:Nat):Lib.decNat (Lib.decDigits u)=some u:=by
 unfold Lib.decNat
 have:=WR u
 rw[if_neg (by simpa using this)]
 exact YO u
theorem LI{n:Int}(h: -1000000≤n∧n≤1000000):Lib.atoiAll (it n)= .ok n:=by
 rw[Lib.atoiAll_short _ (by have:=J' h;omega)]
 have:Lib.atoi (it n)=some n:=by
  unfold it Lib.itoa
  split
  ·rename_i hn
   simp only[Lib.atoi]
   rw[if_pos (by rfl),Te]
   simp;omega
  ·rename_i hn
   have hd:=Te n.toNat
   obtain⟨b,r,hbr⟩: ∃b r,Lib.decDigits n.toNat=b::r:=by
    cases h:Lib.decDigits n.toNat with
    |nil=>exact absurd h (WR _)
    |cons b r=>exact⟨b,r,rfl⟩
   have hb:=Gi n.toNat b (by rw[hbr];simp)
   rw[hbr]at hd⊢
   have h45:b≠45:=fun e=>by subst e;rw[show(45:UInt8).toNat=45 from rfl]at hb;omega
   have h43:b≠43:=fun e=>by subst e;rw[show(43:UInt8).toNat=43 from rfl]at hb;omega
   simp only[Lib.atoi]
   rw[if_neg (by simpa using h45),if_neg (by simpa using h43),hd]
   simp;omega
 rw[this];rfl
def gH(l:List UInt8)(n:Int):Prop:=l=it n∧ -1000000≤n∧n≤1000000
theorem Gj{N:Nat}{s:ByteArray}(hs:s.size≤8192):Wp (rc N s) fun r=>(r.2=true→gH (bs s) r.1)∧∀n,gH (bs s) n→r=(n,true):=by
 unfold rc
 have hA:Hv N s=some (match Lib.atoiAll (bs s)with
  | .ok v=>(v,false)
  | .range=>(Lib.atoiSat (bs s),true)
  |_=>(0,true)):=by
  unfold Hv
  rw[if_pos (by omega)];rfl
 refine .bD hA ?_
 cases h:Lib.atoiAll (bs s)with
 |ok v=>
  have hb:=Lib.atoiAll_bounds h
  refine .bD (a:=jS (it v)) (by show qq N v=_;unfold qq;rw[if_pos hb];rfl) (.one ⟨fun hr=>?_,fun n hn=>?_⟩)
  ·simp only[Bool.not_false,Bool.true_and,Bool.and_eq_true,decide_eq_true_eq]at hr
   exact⟨by rw[←hr.1.1,kA],hr.1.2,hr.2⟩
  ·obtain⟨h1,h2⟩:=hn
   rw[h1,LI h2]at h
   cases h
   have:jS (it v)=s:=aey (by rw[kA,h1])
   simp[this,h2]
 |range=>
  refine .bD rfl (.one ⟨fun hr=>?_,fun n hn=>?_⟩)
  ·simp at hr
  ·rw[hn.1,LI hn.2]at h;cases h
 |_=>
  refine .bD rfl (.one ⟨fun hr=>?_,fun n hn=>?_⟩)
  ·simp at hr
  ·rw[hn.1,LI hn.2]at h;cases h
end Tx
namespace Tx
theorem Ka{c:UInt8}: ∀{a:List UInt8} {r:List (List UInt8)},jn c (a::r)=a++r.flatMap (c:: ·)
 |a,[]=>by simp[jn]
 |a,y::r=>by rw[vJ (by simp),Ka];simp
theorem PH{c:UInt8}: ∀{a:List UInt8} {r:List (List UInt8)},c∉a→(∀x∈r,c∉x)→jv c (a++r.flatMap (c:: ·))=a::r
 |a,[],h,_=>by simpa using WQ h
 |a,y::r,h,hr=>by
  have e:a++(y::r).flatMap (c:: ·)=a++c::(y++r.flatMap (c:: ·)):=by simp
  rw[e,LG _ h,PH (hr y (by simp)) fun x hx=>hr x (by simp[hx])]
theorem aaS{c:UInt8}: ∀{ls:List (List UInt8)} {p:List UInt8},p∈ls→p.length≤(jn c ls).length
 | [],p,h=>by simp at h
 |a::r,p,h=>by
  rcases List.mem_cons.1 h with rfl|h
  ·rw[Ka];simp
  ·cases r with
   |nil=>simp at h
   |cons y r=>
    have:=aaS (c:=c) h
    rw[vJ (by simp)]
    simp only[List.length_append,List.length_cons];omega
theorem PI{c:UInt8}{s p:List UInt8}(h:p∈jv c s):p.length≤s.length:=by
 have:=aaS (c:=c) h
 rw[Gg]at this;exact this
def oz:List (List UInt8):=[[],[114,101,103],[113,117,101,117,101],[115,116,97,99,107],[115,101,116],[116,105,99,107,101,116]]
def sE:List (List UInt8):=[[101,110,100],[119,114,105,116,101],[114,101,97,100],[101,110,113],[100,101,113],[112,117,115,104],[112,111,112],[97,100,100],[114,101,109,111,118,101],[104,97,115],[116,97,107,101]]
theorem aez{c:UInt8}(h:c=32∨c=10){x:List UInt8}(hx:x∈oz):c∉x:=by
 have h1: ∀x∈oz,(32:UInt8)∉x∧(10:UInt8)∉x:=by decide
 rcases h with rfl|rfl
 ·exact(h1 x hx).1
 ·exact(h1 x hx).2
theorem aeA{c:UInt8}(h:c=32∨c=10){x:List UInt8}(hx:x∈sE):c∉x:=by
 have h1: ∀x∈sE,(32:UInt8)∉x∧(10:UInt8)∉x:=by decide
 rcases h with rfl|rfl
 ·exact(h1 x hx).1
 ·exact(h1 x hx).2
theorem jX{α:Type}{l:List α}{i:Nat}{d:α}(h:i < l.length):l.getD i d∈l:=by
 rw[List.getD_eq_getElem?_getD,List.getElem?_eq_getElem h]
 exact List.getElem_mem h
theorem IU{α:Type}{l:List α}(h:l.Nodup){i j:Nat}{x:α}(hi:l[i]? =some x)(hj:l[j]? =some x):i=j:=by
 obtain⟨h1,h2⟩:=List.getElem?_eq_some_iff.1 hi
 obtain⟨h3,h4⟩:=List.getElem?_eq_some_iff.1 hj
 exact(List.getElem_inj h).1 (h2.trans h4.symm)
theorem EA{N:Nat}{xs:List (List UInt8)}{v:List UInt8}(hN:300 < N)(hl:xs.length≤20):Wp (io N (xs.map jS) (jS v)) fun r=>(r= -1∧v∉xs)∨∃k:Nat,r=k∧xs[k]? =some v:=by
 unfold io
 refine .elim (P:=fun t=>match t with| .inl _=>v∉xs| .inr r=>∃k:Nat,r=k∧xs[k]? =some v) (.iter xs.length (fun k i=>i=(k:Int)∧∀j,j < k→xs[j]? ≠some v) (by omega) ⟨rfl,fun j h=>absurd h (Nat.not_lt_zero _)⟩ ?_ ?_) (fun _ _ h=> .one (.inl ⟨rfl,h⟩)) (fun r _ h=> .one (.inr h))
 ·rintro k i hk ⟨rfl,h⟩
  simp only[kZ,List.length_map]
  refine .bg (decide_eq_true (by omega)) (.ix (by simpa using hk) (.cond (fun he=> .one ⟨k,rfl,?_⟩) (fun he=> .bK (by omega) (.one ⟨by simp,fun j hj=>?_⟩))))
  ·have he:jS v=(xs.map jS)[k]'(by simpa using hk):=of_decide_eq_true he
   rw[List.getElem_map]at he
   rw[List.getElem?_eq_getElem hk,←kA xs[k],←he,kA]
  ·rcases Nat.lt_or_ge j k with h1|h1
   ·exact h j h1
   ·obtain rfl:j=k:=by omega
    have he: ¬jS v=(xs.map jS)[j]'(by simpa using hk):=of_decide_eq_false he
    rw[List.getElem_map]at he
    rw[List.getElem?_eq_getElem hk]
    intro e
    exact he (by rw[Option.some.inj e])
 ·rintro i ⟨rfl,h⟩
  simp only[kZ,List.length_map]
  refine .aL (decide_eq_false (by omega)) (.one fun hm=>?_)
  obtain⟨j,hj,he⟩:=List.mem_iff_getElem.1 hm
  exact h j hj (by rw[List.getElem?_eq_getElem hj,he])
def s9(k:Int):Bool:=(((decide (k=2))||(decide (k=4)))||(decide (k=6)))||(decide (k=10))
structure ry(e:Event):Prop where
 who: -1000000≤e.who∧e.who≤1000000
 aj: -1000000≤e.aj∧e.aj≤1000000
 kind:0≤e.kind∧e.kind≤10
 value:if s9 e.kind=true then e.value=0 else -1000000≤e.value∧e.value≤1000000
def Gk(e:Event):List (List UInt8):=it e.aj::sE.getD e.kind.toNat []::(if s9 e.kind=true then []else [it e.value])
def om(e:Event):List UInt8:=it e.who++(Gk e).flatMap (32:: ·)
theorem WU{e:Event}(h:ry e){c:UInt8}(hc:c=32∨c=10): ∀x∈Gk e,c∉x:=by
 intro x hx
 have hk:=h.kind
 have hw:c∉sE.getD e.kind.toNat []:=aeA hc (jX (by simp[sE];omega))
 unfold Gk at hx
 split at hx
 ·simp only[List.mem_cons,List.not_mem_nil,or_false]at hx
  rcases hx with rfl|rfl
  ·exact J_ hc
  ·exact hw
 ·simp only[List.mem_cons,List.not_mem_nil,or_false]at hx
  rcases hx with rfl|rfl|rfl
  ·exact J_ hc
  ·exact hw
  ·exact J_ hc
theorem aeB{e:Event}(h:ry e):(10:UInt8)∉om e:=by
 unfold om
 intro hm
 rcases List.mem_append.1 hm with hm|hm
 ·exact J_ (.inr rfl) hm
 ·obtain⟨x,hx,hm⟩:=List.mem_flatMap.1 hm
  rcases List.mem_cons.1 hm with e1|e1
  ·cases e1
  ·exact WU h (.inr rfl) x hx e1
theorem abx{e:Event}(h:ry e):jv 32 (om e)=it e.who::Gk e:=PH (J_ (.inl rfl)) (WU h (.inl rfl))
theorem fV(l:List UInt8):(jS l).size=l.length:=by rw[nM,kA]
theorem EB{N:Nat}{line:ByteArray}(hN:300 < N)(hs:line.size≤8192):Wp (Ar N line) fun r=>(r.2.2.2.2=true→ry ⟨r.1,r.2.1,r.2.2.1,r.2.2.2.1⟩∧bs line=om ⟨r.1,r.2.1,r.2.2.1,r.2.2.2.1⟩)∧∀e,ry e→bs line=om e→r=(e.who,e.aj,e.kind,e.value,true):=by
 unfold Ar
 refine .bD (IR 32 (by omega)) ?_
 have key: ∀e,ry e→bs line=om e→jv 32 (bs line)=it e.who::Gk e:=fun e he h=>by rw[h];exact abx he
 have back: ∀a r,jv 32 (bs line)=a::r→bs line=a++r.flatMap (32:: ·):=fun a r h=>by rw[←Ka,←h,Gg]
 have hsz: ∀p∈jv 32 (bs line),(jS p).size≤8192:=fun p hp=>by
  have:=PI hp
  rw[fV]
  rw[nM]at hs;omega
 generalize jv 32 (bs line)=W at key back hsz⊢
 simp only[List.length_map]
 refine .cond (fun h=> .one ⟨fun h=>by simp at h,fun e he hl=>?_⟩) (fun h=>?_)
 ·exfalso
  have h2:=congrArg List.length (key e he hl)
  have h3:(W.length:Int) < 3:=of_decide_eq_true h
  unfold Gk at h2
  split at h2<;>simp at h2<;>omega
 have h3: ¬(W.length:Int) < 3:=of_decide_eq_false h
 obtain⟨a,b,c,rest,rfl⟩: ∃a b c rest,W=a::b::c::rest:=by
  match W,h3 with
  | [],h=>simp at h
  | [_],h=>simp at h
  | [_,_],h=>simp at h
  |a::b::c::rest,_=>exact⟨a,b,c,rest,rfl⟩
 refine .bD (a:=jS a) rfl (.seq (Gj (hsz a (by simp))) fun r7 _ h7=> .bD (a:=jS b) rfl (.seq (Gj (hsz b (by simp))) fun r9 _ h9=> .seq (P:=fun r:Int=>(r= -1∧c∉sE)∨∃k:Nat,r=k∧sE[k]? =some c) (.bD (a:=jS c) rfl (.bD rfl (.seq (EA (xs:=sE) (v:=c) hN (by decide)) fun r _ h=> .one h))) fun K _ hK=>?_))
 simp only[kA]at h7 h9
 have tell: ∀e,ry e→bs line=om e→r7=(e.who,true)∧r9=(e.aj,true)∧K=e.kind∧rest=(if s9 e.kind=true then []else [it e.value]):=fun e he hl=>by
  have hk:=he.kind
  have h1:=key e he hl
  simp only[Gk,List.cons.injEq]at h1
  obtain⟨h1,h2,h4,h5⟩:=h1
  refine⟨h7.2 e.who ⟨h1,he.who⟩,h9.2 e.aj ⟨h2,he.aj⟩,?_,h5⟩
  have hm:sE[e.kind.toNat]? =some c:=by
   have hlt:e.kind.toNat < sE.length:=by simp[sE];omega
   rw[h4,List.getD_eq_getElem?_getD,List.getElem?_eq_getElem hlt];rfl
  rcases hK with⟨_,hK⟩|⟨k,rfl,hK⟩
  ·exact absurd (List.mem_of_getElem? hm) hK
  ·have:=IU (by decide:sE.Nodup) hm hK
   omega
 refine .cond (fun hbad=> .one ⟨fun h=>by simp at h,fun e he hl=>?_⟩) (fun hok=> .bD rfl ?_)
 ·obtain⟨t1,t2,t3,_⟩:=tell e he hl
  have hk:=he.kind
  exfalso
  rw[t1,t2,t3]at hbad
  simp at hbad
  omega
 simp only[Bool.or_eq_false_iff,Bool.not_eq_false',decide_eq_false_iff_not]at hok
 obtain⟨⟨o7,o9⟩,oK⟩:=hok
 obtain⟨k,rfl,WV⟩: ∃k:Nat,K=k∧sE[k]? =some c:=by
  rcases hK with⟨rfl,_⟩|h
  ·exact absurd (by decide) oK
  ·exact h
 have zA:k < 11:=(List.getElem?_eq_some_iff.1 WV).1
 have rN:sE.getD k []=c:=by rw[List.getD_eq_getElem?_getD,WV];rfl
 have n7:=h7.1 o7
 have n9:=h9.1 o9
 have hb:=back _ _ rfl
 refine .cond (fun Hz=> .one ⟨fun hlen=>?_,fun e he hl=>?_⟩) (fun Hz=> .cond (fun hlen=> .one ⟨fun h=>by simp at h,fun e he hl=>?_⟩) (fun hlen=>?_))
 ·have hr:rest= []:=by
   have:((rest.length+1+1+1:Nat):Int)=3:=of_decide_eq_true hlen
   exact List.eq_nil_of_length_eq_zero (by omega)
  subst hr
  have hbk:s9 (k:Int)=true:=Hz
  refine⟨⟨n7.2,n9.2,by simp only;omega,by simp only[hbk,if_true]⟩,?_⟩
  rw[hb]
  simp only[om,Gk,hbk,Int.toNat_natCast,rN,n7.1.symm,n9.1.symm,if_true]
 ·obtain⟨t1,t2,t3,t4⟩:=tell e he hl
  have hbk:s9 e.kind=true:=by rw[←t3];exact Hz
  have hv:=he.value
  rw[if_pos hbk]at t4 hv
  subst t4
  rw[t1,t2,t3,hv]
  rfl
 ·obtain⟨t1,t2,t3,t4⟩:=tell e he hl
  have hbk: ¬s9 e.kind=true:=by rw[←t3];exact Bool.eq_false_iff.1 Hz
  rw[if_neg hbk]at t4
  subst t4
  exact absurd hlen (by simp)
 ·have h4:((rest.length+1+1+1:Nat):Int)=4:=by simpa using hlen
  obtain⟨d,rfl⟩: ∃d,rest= [d]:=by
   match rest,h4 with
   | [d],_=>exact⟨d,rfl⟩
   | [],h=>simp at h
   |_::_::_,h=>simp at h;omega
  refine .bD (a:=jS d) rfl (.seq (Gj (hsz d (by simp))) fun fZ _ h22=> .one ⟨fun hr=>?_,fun e he hl=>?_⟩)
  ·simp only[kA]at h22
   have n22:=h22.1 hr
   have hbk:s9 (k:Int)=false:=Hz
   refine⟨⟨n7.2,n9.2,by simp only;omega,by simp only[hbk];exact n22.2⟩,?_⟩
   rw[hb]
   simp only[om,Gk,hbk,Int.toNat_natCast,rN,n7.1.symm,n9.1.symm,n22.1.symm]
   rfl
  ·simp only[kA]at h22
   obtain⟨t1,t2,t3,t4⟩:=tell e he hl
   have hbk: ¬s9 e.kind=true:=by rw[←t3];exact Bool.eq_false_iff.1 Hz
   have hv:=he.value
   rw[if_neg hbk]at t4 hv
   simp only[List.cons.injEq,and_true]at t4
   rw[t1,t2,t3,h22.2 e.value ⟨t4,hv⟩]
theorem aby{e e':Event}(h:ry e)(h':ry e')(hl:(om e).length≤8192)(he:om e=om e'):e=e':=by
 obtain⟨r,_,_,hr⟩:=EB (N:=1000) (line:=jS (om e)) (by decide) (by rw[fV];exact hl)
 have h1:=hr e h (kA _)
 have h2:=hr e' h' (by rw[kA,he])
 rw[h1]at h2
 cases e;cases e'
 simp at h2
 simp[h2]
def yb:List UInt8:=[116,104,105,110,103,115]
structure qz(t:List Int):Prop where
 len:1≤t.length∧t.length≤4
 all: ∀x∈t,1≤x∧x≤5
def wy(t:List Int):List (List UInt8):=t.map fun x=>oz.getD x.toNat []
def rO(t:List Int):List UInt8:=yb++(wy t).flatMap (32:: ·)
theorem WW{t:List Int}(h:qz t){c:UInt8}(hc:c=32∨c=10): ∀x∈wy t,c∉x:=by
 intro x hx
 obtain⟨y,hy,rfl⟩:=List.mem_map.1 hx
 have:=h.all y hy
 exact aez hc (jX (by simp[oz];omega))
theorem aeC{t:List Int}(h:qz t):(10:UInt8)∉rO t:=by
 unfold rO
 intro hm
 rcases List.mem_append.1 hm with hm|hm
 ·exact absurd hm (by decide)
 ·obtain⟨x,hx,hm⟩:=List.mem_flatMap.1 hm
  rcases List.mem_cons.1 hm with e1|e1
  ·cases e1
  ·exact WW h (.inr rfl) x hx e1
theorem abz{t:List Int}(h:qz t):jv 32 (rO t)=yb::wy t:=PH (by decide) (WW h (.inl rfl))
theorem WY{t:List Int}(h:qz t){k:Nat}(hk:k < t.length):(wy t)[k]? =some (oz.getD (t.getD k 0).toNat []):=by
 unfold wy
 rw[List.getElem?_map,List.getElem?_eq_getElem hk,aW hk];rfl
theorem Nf{N:Nat}{line:ByteArray}(hN:300 < N)(hs:line.size≤8192):Wp (yH N line) fun r=>(r.2=true→qz r.1∧bs line=rO r.1)∧∀t,qz t→bs line=rO t→r=(t,true):=by
 unfold yH
 refine .bD (IR 32 (by omega)) ?_
 have key: ∀t,qz t→bs line=rO t→jv 32 (bs line)=yb::wy t:=fun t ht h=>by rw[h];exact abz ht
 have back: ∀a r,jv 32 (bs line)=a::r→bs line=a++r.flatMap (32:: ·):=fun a r h=>by rw[←Ka,←h,Gg]
 have hne:=Dw 32 (bs line)
 generalize jv 32 (bs line)=W at key back hne⊢
 obtain⟨a,rest,rfl⟩: ∃a r,W=a::r:=by
  cases W with
  |nil=>exact absurd rfl hne
  |cons a r=>exact⟨a,r,rfl⟩
 have hb:=back _ _ rfl
 have tell: ∀t,qz t→bs line=rO t→a=yb∧rest=wy t:=fun t ht hl=>by
  have:=key t ht hl
  simpa using this
 refine .bD (a:=jS a) rfl (.cond (fun h=> .one ⟨fun h=>by simp at h,fun t ht hl=>?_⟩) (fun h=>?_))
 ·exfalso
  obtain⟨t1,t2⟩:=tell t ht hl
  have hl:=ht.len
  have hlen:rest.length=t.length:=by rw[t2];simp[wy]
  rw[t1]at h
  simp only[Bool.or_eq_true,Bool.not_eq_true',decide_eq_false_iff_not,decide_eq_true_eq,List.length_map,List.length_cons]at h
  rcases h with(h|h)|h
  ·exact h rfl
  ·omega
  ·omega
 simp only[Bool.or_eq_false_iff,Bool.not_eq_false',decide_eq_true_eq,decide_eq_false_iff_not,List.length_map,List.length_cons]at h
 obtain⟨⟨ha,hl2⟩,hl5⟩:=h
 have ha:a=yb:=by rw[←kA a,ha];rfl
 have hdr:((a::rest).map jS).drop (1:Int).toNat=rest.map jS:=rfl
 refine .elim (P:=fun x=>match x with| .inl out=>qz out∧rest=wy out| .inr r=>r=([],false)∧∃x∈rest,∀k:Nat,1≤k→oz[k]? ≠some x) (.ck ?_ ?_) (fun out _ h=> .one ⟨fun _=>⟨h.1,?_⟩,fun t ht hl=>?_⟩) (fun r _ h=> .one ⟨fun h2=>?_,fun t ht hl=>?_⟩)
 ·simp[pB];omega
 ·refine .iter rest.length (fun k s=>s.2=(k:Int)∧s.1.length=k∧(∀x∈s.1,1≤x∧x≤5)∧wy s.1=rest.take k) (by omega) ⟨rfl,rfl,by simp,rfl⟩ ?_ ?_
  ·rintro k ⟨out,v⟩ hk ⟨hv,hol,hall,WZ⟩
   simp only at hv hol hall WZ
   subst hv
   simp only[xU,hdr,List.length_map]
   refine .bg (decide_eq_true (by omega)) (.ix (by simpa using hk) (.bD rfl ?_))
   rw[List.getElem_map]
   refine .seq (EA (xs:=oz) (v:=rest[k]) hN (by decide)) fun i _ hi=> .cond (fun hlt=> .one ⟨rfl,rest[k],List.getElem_mem hk,fun j hj he=>?_⟩) (fun hlt=> .ck (eT ⟨?_,?_⟩) (.bK (by omega) (.one ⟨by simp,by simp;omega,fun x hx=>?_,?_⟩)))
   ·have hlt:i < 1:=of_decide_eq_true hlt
    rcases hi with⟨_,hi⟩|⟨q,rfl,hi⟩
    ·exact hi (List.mem_of_getElem? he)
    ·have:=IU (by decide:oz.Nodup) he hi
     omega
   ·simp only[List.length_singleton];exact Nat.le_trans (m:=2000) (by omega) (by decide)
   ·simp only[List.length_singleton];omega
   all_goals
    have hlt: ¬i < 1:=of_decide_eq_false hlt
    obtain⟨q,rfl,hj⟩: ∃q:Nat,i=q∧oz[q]? =some rest[k]:=by
     rcases hi with⟨rfl,_⟩|h
     ·exact absurd (by decide) hlt
     ·exact h
    have hq6:q < 6:=(List.getElem?_eq_some_iff.1 hj).1
   ·rcases List.mem_append.1 hx with hx|hx
    ·exact hall x hx
    ·rw[List.mem_singleton.1 hx];omega
   ·rw[List.take_add_one,List.getElem?_eq_getElem hk,←WZ]
    simp only[wy,List.map_append,List.map_cons,List.map_nil,Int.toNat_natCast,Option.toList_some]
    rw[List.getD_eq_getElem?_getD,hj];rfl
  ·rintro⟨out,v⟩ ⟨hv,hol,hall,WZ⟩
   simp only at hv hol hall WZ
   subst hv
   simp only[xU,hdr,List.length_map]
   exact .aL (decide_eq_false (by omega)) (.one ⟨⟨by omega,hall⟩,by rw[WZ,List.take_length]⟩)
 ·rw[hb,ha,h.2];rfl
 ·obtain⟨_,t2⟩:=tell t ht hl
  rw[h.2]at t2
  have hlen:out.length=t.length:=by have:=congrArg List.length t2;simpa[wy]using this
  have:out=t:=by
   refine List.ext_getElem hlen fun i h1 h3=>?_
   have e1:=WY h.1 h1
   rw[t2,WY ht h3,aW h1,aW h3]at e1
   have e2:=Option.some.inj e1
   have b1:=h.1.all _ (List.getElem_mem h1)
   have b2:=ht.all _ (List.getElem_mem h3)
   have l1:t[i].toNat < oz.length:=by simp[oz];omega
   have l2:out[i].toNat < oz.length:=by simp[oz];omega
   have:=IU (by decide:oz.Nodup) (i:=t[i].toNat) (j:=out[i].toNat) (x:=oz.getD t[i].toNat []) (by rw[List.getElem?_eq_getElem l1,aW l1]) (by rw[e2,List.getElem?_eq_getElem l2,aW l2])
   omega
  rw[this]
 ·rw[h.1]at h2;simp at h2
 ·exfalso
  obtain⟨_,x,hx,hn⟩:=h
  obtain⟨_,t2⟩:=tell t ht hl
  rw[t2]at hx
  obtain⟨y,hy,rfl⟩:=List.mem_map.1 hx
  have:=ht.all y hy
  have l1:y.toNat < oz.length:=by simp[oz];omega
  exact hn y.toNat (by omega) (by rw[List.getElem?_eq_getElem l1,aW l1])
theorem abA{t t':List Int}(h:qz t)(h':qz t')(hl:(rO t).length≤8192)(he:rO t=rO t'):t=t':=by
 obtain⟨r,_,_,hr⟩:=Nf (N:=1000) (line:=jS (rO t)) (by decide) (by rw[fV];exact hl)
 have h1:=hr t h (kA _)
 have h2:=hr t' h' (by rw[kA,he])
 rw[h1]at h2
 exact(Prod.mk.inj h2).1
end Tx
end Go.Proofs.YtjdkkabcenohcaaGreatDoor
