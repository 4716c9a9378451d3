import Derived.Test.YtjdkkabcenohcaaGreatDoorAny
set_option linter.unusedVariables false
set_option linter.unusedSimpArgs false
set_option linter.unusedSectionVars false
namespace Go.Proofs.YtjdkkabcenohcaaGreatDoor
open Go.RowKit
variable {P:Program} {n:Nat} {base:Nat} {w0 w:World} {L:List Chunk} {e:Env}
variable {ops rest:List Oper} {Q:Exit→Act→World→Prop} {d:Nat} {D:Option Tmp} {op:Op} {t:TypeId} {pos:String} {af:Array Edge} {G:Option (Nat×Bool)} {v u:Value} {x y z:Operand}
theorem Y.index{T E m i:Nat}{dE:TypeDesc}{kd:IntKind}{cs:Array Value}(hT:P.underlying T=some (.array m E))(hE:P.underlying E=some dE)(hd:fx dE=true)(hk:P.cellsOf E=0+1)(hx:aD n e x (.agg cs))(hy:aD n e y (.int kd (i:Int)))(hi:i < m)(hv:cs[i]? =some v):
  Yd P n base w0 e L ⟨D,.index T x y,t,pos,af,G⟩ v:=by
 intro a w ha _
 simp[execOp,hx a ha,hy a ha,Instr.index,asIntOf,run_underlying hT,hi,kw hk,part,run_isAgg_plain hE hd,hv]
section
variable {K:Act→World→Prop}
end
theorem KK.dB{F:Prop}{K:Act→World→Prop}(hF: ∀w,St base w0 L w→F)(h:F→KK n base w0 e L K):KK n base w0 e L K:=fun a w ha hw=>h (hF w hw) a w ha hw
end Go.Proofs.YtjdkkabcenohcaaGreatDoor
set_option linter.unusedVariables false
set_option linter.unusedSimpArgs false
set_option linter.unusedSectionVars false
namespace Go.Proofs.YtjdkkabcenohcaaGreatDoor
open Go.RowKit
section
variable {α β σ ρ:Type}
def iter(body:σ→Option (σ ⊕ ρ)):Nat→σ→Option ρ
 |0,_=>none
 |n+1,s=>match body s with
  |none=>none
  |some (.inl s')=>iter body n s'
  |some (.inr r)=>some r
def bd(m:Option α)(f:α→Option β):Option β:=match m with
 |none=>none
 |some a=>f a
def ck(b:Bool)(x:Option α):Option α:=cond b x none
def lb(a:α)(f:α→Option β):Option β:=f a
def ix(l:List α)(i:Int):Option α:=if 0≤i then l[i.toNat]? else none
def ax(n:Nat)(d:α)(a:List α)(i:Int):Option α:=if 0≤i∧i < n then some (a.getD i.toNat d)else none
def SR(n:Int)(i:Int):Bool:=decide (0≤i∧i < n)
def bB(z:Int):Bool:=decide (-9223372036854775808≤z∧z≤9223372036854775807)
def eY(bytes n:Nat):Bool:=decide (n≤maxLen∧n * bytes≤140737488355328)
def jS(bytes:Nat)(k:Int):Bool:=decide (0≤k∧k.toNat≤maxLen∧bytes * k.toNat≤140737488355328)
theorem ic{body:σ→Option (σ ⊕ ρ)}{k:Nat}{s:σ}{o:ρ}(h:iter body k s=some o):
  ∃k' t,k=k'+1∧body s=some t∧Sum.elim (fun s'=>iter body k' s'=some o) (fun r=>r=o) t:=by
 cases k with
 |zero=>cases h
 |succ k=>
  unfold iter at h
  cases hb:body s with
  |none=>rw[hb]at h;cases h
  |some t=>
   rw[hb]at h
   refine⟨k,t,rfl,rfl,?_⟩
   cases t with
   |inl s'=>exact h
   |inr r=>exact Option.some.inj h
theorem al{m:Option α}{f:α→Option β}{r:β}(h:bd m f=some r): ∃x,m=some x∧f x=some r:=by
 cases m with
 |none=>cases h
 |some a=>exact⟨a,rfl,h⟩
theorem bx{b:Bool}{x:Option α}{r:α}(h:ck b x=some r):b=true∧x=some r:=by
 cases b with
 |true=>exact⟨rfl,h⟩
 |false=>cases h
theorem km{b:Bool}{x y:Option α}{r:α}(hb:b=true)(h:cond b x y=some r):x=some r:=by subst hb;exact h
theorem ko{b:Bool}{x y:Option α}{r:α}(hb:b=false)(h:cond b x y=some r):y=some r:=by subst hb;exact h
theorem fq{b:Bool}{x y z:Option α}(hb:b=true)(h:cond b x y=z):x=z:=by subst hb;exact h
theorem gor{b c:Bool}(hb:b=true)(h:(!b||c)=true):c=true:=by subst hb;simpa using h
theorem ai{l:List α}{i:Int}{x:α}(h:ix l i=some x):0≤i∧i < l.length:=by
 unfold ix at h
 split at h
 ·have:=(List.getElem?_eq_some_iff.1 h).1;omega
 ·cases h
theorem aI{l:List α}{i:Int}{x:α}(h:ix l i=some x):l[i.toNat]? =some x:=by
 unfold ix at h
 split at h
 ·exact h
 ·cases h
theorem uH{n:Nat}{d:α}{a:List α}{i:Int}{x:α}(h:ax n d a i=some x):0≤i∧i < n:=by
 unfold ax at h
 split at h
 ·assumption
 ·cases h
theorem qU{n:Nat}{d:α}{a:List α}{i:Int}{x:α}(h:ax n d a i=some x):a.getD i.toNat d=x:=by
 unfold ax at h
 split at h
 ·exact Option.some.inj h
 ·cases h
theorem Wi{n i:Int}(h:SR n i=true):0≤i∧i < n:=by simpa[SR]using h
theorem nj{z:Int}(h:bB z=true): -9223372036854775808≤z∧z≤9223372036854775807:=by simpa[bB]using h
theorem Lo{b n:Nat}(h:eY b n=true):n≤maxLen∧n * b≤140737488355328:=by simpa[eY]using h
theorem ad1{b:Nat}{k:Int}(h:jS b k=true):0≤k∧k.toNat≤maxLen∧b * k.toNat≤140737488355328:=by simpa[jS]using h
end
theorem gq(b:Bool){p:Prop}(h1:b=true→p)(h2:b=false→p):p:=by cases b;exact h2 rfl;exact h1 rfl
theorem JM{b:Bool}(h:(b==true)=false)(k:b=true):False:=by subst k;simp at h
theorem Oa{b:Bool}(h:(b==false)=false)(k:b=false):False:=by subst k;simp at h
theorem Gd.un{n:Nat}{ops:List Oper}{e:Env}{j dj:Nat}{want:Bool}(hj:Cc ops j=some dj)(h:e.get? dj=some undef):Gd ops n e j want false:=by
 intro a ha
 unfold yielded
 rw[IG,hj]
 simp only[Option.bind_some]
 have:=ha.get _ _ h
 cases hh:a.tmps[dj]? with
 |none=>rfl
 |some v=>
  have:v=undef:=by rw[←this];simp[Array.getD_eq_getD_getElem?,hh]
  subst this;rfl
def uI(k:IntKind)(x y:Int):Int:=k.wrap (BitVec.ofInt k.bits x &&& BitVec.ofInt k.bits y).toNat
def pa(k:IntKind)(x y:Int):Int:=k.wrap (BitVec.ofInt k.bits x ||| BitVec.ofInt k.bits y).toNat
def akT(k:IntKind)(x y:Int):Int:=k.wrap (BitVec.ofInt k.bits x ^^^ BitVec.ofInt k.bits y).toNat
def Cg(k:IntKind)(x y:Int):Int:=k.wrap (BitVec.ofInt k.bits x &&& ~~~(BitVec.ofInt k.bits y)).toNat
def mz(k:IntKind)(x y:Int):Int:=k.wrap (x * 2 ^ (min y.toNat k.bits))
def kx(k:IntKind)(x y:Int):Int:=x.fdiv (2 ^ (min y.toNat k.bits))
def eI(k:IntKind)(x:Int):List Value:=[.int k x]
def eB(x:Bool):List Value:=[.bool x]
def eS(x:ByteArray):List Value:=[.string x]
def gj{α:Type}(n:Nat)(enc:α→List Value)(d:α)(a:List α):List Value:=(List.range n).flatMap fun i=>enc (a.getD i d)
def fb{α:Type}(n:Nat)(d:α)(a:List α)(i:Int)(v:α):List α:=(List.range n).map fun j=>if j=i.toNat then v else a.getD j d
theorem gy{α:Type}{n:Nat}{d:α}{a:List α}{i:Int}{v:α}{j:Nat}(h:j < n):(fb n d a i v).getD j d=if j=i.toNat then v else a.getD j d:=by
 unfold fb
 rw[List.getD_eq_getElem?_getD,List.getElem?_map,List.getElem?_range h];rfl
theorem ad2{α:Type}{n sz:Nat}{enc:α→List Value}{d:α}{a:List α}(hz: ∀x,(enc x).length=sz):(gj n enc d a).length=n * sz:=by
 unfold gj
 have: ∀l:List Nat,(l.flatMap fun i=>enc (a.getD i d)).length=l.length * sz:=by
  intro l
  induction l with
  |nil=>simp
  |cons x l ih=>simp only[List.flatMap_cons,List.length_append,hz,ih,List.length_cons,Nat.add_mul];omega
 rw[this,List.length_range]
theorem FX{α:Type}{n:Nat}{enc:α→List Value}{d:α}{a:List α}:gj n enc d a=((List.range n).map fun i=>a.getD i d).flatMap enc:=by
 unfold gj
 rw[List.flatMap_map]
theorem ad3{α:Type}{n:Nat}{enc:α→List Value}{d:α}(h1: ∀x,∀v∈enc x,v.oneCell'=true): ∀a,∀v∈gj n enc d a,v.oneCell'=true:=by
 intro a v hv
 obtain⟨i,_,hi⟩:=List.mem_flatMap.1 hv
 exact h1 _ _ hi
theorem AR{k:IntKind}: ∀x,∀v∈eI k x,v.oneCell'=true:=by intro x v hv;obtain rfl:=List.mem_singleton.1 hv;rfl
theorem aib: ∀x,∀v∈eB x,v.oneCell'=true:=by intro x v hv;obtain rfl:=List.mem_singleton.1 hv;rfl
theorem Di{α:Type}{n sz i j off:Nat}{enc:α→List Value}{d x:α}{a:List α}{pre post:List Value}{v:Value}(hz: ∀x,(enc x).length=sz)(hp:pre.length=off)(hi:i < n)(hx:a.getD i d=x)(hv:(enc x)[j]? =some v):
  (pre++(gj n enc d a++post))[off+i * sz+j]? =some v:=by
 subst hx
 have hj:j < sz:=by rw[←hz (a.getD i d)];exact(List.getElem?_eq_some_iff.1 hv).1
 have hl:i * sz+j < (gj n enc d a).length:=by
  rw[ad2 hz]
  have:(i+1) * sz≤n * sz:=Nat.mul_le_mul_right _ hi
  rw[Nat.add_mul]at this;omega
 rw[List.getElem?_append_right (by omega),show off+i * sz+j - pre.length=i * sz+j by omega,List.getElem?_append_left hl,FX,uQ hz _ i j (by simpa using hi) hj]
 simpa using hv
theorem Wj{α:Type}{n:Nat}{d:α}{a:List α}{i:Int}{v:α}(h0:0≤i)(hi:i < n):(List.range n).map (fun j=>(fb n d a i v).getD j d)=((List.range n).map fun j=>a.getD j d).set i.toNat v:=by
 apply List.ext_getElem
 ·simp
 ·intro j h1 h2
  have hj:j < n:=by simpa using h1
  simp only[List.getElem_map,List.getElem_range,List.getElem_set]
  rw[gy hj]
  by_cases h:j=i.toNat
  ·rw[if_pos h,if_pos h.symm]
  ·rw[if_neg h,if_neg (Ne.symm h)]
theorem xM{α:Type}{n sz j off p:Nat}{i:Int}{enc:α→List Value}{d x x':α}{a:List α}{pre post:List Value}{v:Value}(hz: ∀x,(enc x).length=sz)(hp:pre.length=off)(hi:0≤i∧i < n)(hx:a.getD i.toNat d=x)(hj:j < sz)(hs:(enc x).set j v=enc x')(hpp:p=off+i.toNat * sz+j):
  (pre++(gj n enc d a++post)).set p v=pre++(gj n enc d (fb n d a i x')++post):=by
 subst hpp;subst hx
 have hi':i.toNat < n:=by omega
 have hl:i.toNat * sz+j < (gj n enc d a).length:=by
  rw[ad2 hz]
  have:(i.toNat+1) * sz≤n * sz:=Nat.mul_le_mul_right _ hi'
  rw[Nat.add_mul]at this;omega
 rw[List.set_append_right _ _ (by omega),show off+i.toNat * sz+j - pre.length=i.toNat * sz+j by omega,List.set_append_left _ _ hl,FX,FX,Wj hi.1 hi.2]
 rw[Eh hz _ i.toNat j v x' (by simpa using hi') hj (by simpa using hs)]
theorem Wk{a b c ds:List Value}(h:b.length=ds.length){o:Nat}(ho:o=a.length):putAt (a++(b++c)) o ds=a++(ds++c):=by
 subst ho
 unfold putAt
 have h1:(a++(b++c)).drop (a.length+ds.length)=c:=by
  rw[←h,←List.append_assoc,show a.length+b.length=(a++b).length by simp,List.drop_left]
 rw[h1,List.take_left,List.append_assoc]
abbrev aw(b:Nat)(T:TypeId)(cs:List Value):Chunk:=mx b (.cells cs.toArray T (0,0))
abbrev cR{α:Type}(enc:α→List Value)(sz:Nat)(A:Option Addr)(cap:Nat)(E:TypeId)(xs:List α):Chunk:=eR A cap E sz xs.length (xs.flatMap enc)
variable {P:Program} {n:Nat} {base:Nat} {w0 w:World} {L:List Chunk} {e:Env}
variable {ops rest:List Oper} {Q:Exit→Act→World→Prop} {d:Nat} {D:Option Tmp} {op:Op} {t:TypeId} {pos:String} {af:Array Edge} {G:Option (Nat×Bool)} {v u:Value} {x y z:Operand}
theorem Oc(h:St base w0 L w){i b off:Nat}{T:TypeId}{cs:List Value}(hi:L[i]? =some (aw b T cs))(hv:cs[off]? =some v):w.cell? ⟨b,off,none⟩=some v:=
 g_ (h.obj hi) (by simpa using hv)
theorem Y.lW{T T' b off i:Nat}{cs:List Value}{dT:TypeDesc}(hT:P.underlying T=some dT)(hd:fx dT=true)(hx:aD n e x (.pointer (some ⟨b,off,none⟩)))(hi:L[i]? =some (aw b T' cs))(hv:cs[off]? =some v):
  Yd P n base w0 e L ⟨D,.load T x,t,pos,af,G⟩ v:=Y.load hT hd hx (fun w hw=>Oc hw hi hv)
theorem Y.yQ{T T' b off i k:Nat}{cs ds:List Value}{dT:TypeDesc}(hT:P.underlying T=some dT)(hd:xG dT=true)(hk:P.cellsOf T=k+1)(hx:aD n e x (.pointer (some ⟨b,off,none⟩)))(hi:L[i]? =some (aw b T' cs))(hl:ds.length=k+1)(hv: ∀j v,ds[j]? =some v→cs[off+j]? =some v):
  Yd P n base w0 e L ⟨D,.load T x,t,pos,af,G⟩ (.agg ds.toArray):=Y.SK hT hd hk hx hl (fun w hw j v hj=>Oc hw hi (hv j v hj))
theorem mB{cs:List Value}: ∀j v,cs[j]? =some v→cs[0+j]? =some v:=fun j v h=>by rw[Nat.zero_add];exact h
theorem Lp{pre ds post:List Value}{o:Nat}(ho:pre.length=o): ∀j v,ds[j]? =some v→(pre++(ds++post))[o+j]? =some v:=fun j v h=>by
 have hj:=(List.getElem?_eq_some_iff.1 h).1
 rw[List.getElem?_append_right (by omega),show o+j - pre.length=j by omega,List.getElem?_append_left hj];exact h
section
variable {α:Type} {enc:α→List Value} {sz:Nat} {A:Option Addr} {cap m k i p E T T':Nat} {xs:List α} {a:α} {kd:IntKind} {idx:Int}
theorem bi.Lq{c:Nat}(h:bi enc sz w (.slice A m c) xs)(hb:0≤idx∧idx < xs.length):xk A:=by
 obtain⟨a,c',e,-,hh⟩:=h
 obtain⟨rfl,rfl,rfl⟩:A=a∧m=xs.length∧c=c':=by simpa using e
 exact(hh idx.toNat (by omega)).1
theorem bi.cells(h:bi enc sz w (.slice A m cap) xs)(hx:xs[k]? =some a){j:Nat}(hv:(enc a)[j]? =some v):w.cell? (dr A (k * sz+j))=some v:=by
 obtain⟨a',c',e,-,hh⟩:=h
 obtain⟨rfl,rfl,rfl⟩:A=a'∧m=xs.length∧cap=c':=by simpa using e
 obtain⟨hk,rfl⟩:=List.getElem?_eq_some_iff.1 hx
 exact(hh k hk).2 j v hv
theorem bi.form(h:bi enc sz w v xs): ∃A cap,v= .slice A xs.length cap∧xs.length≤cap∧bi enc sz w (.slice A xs.length cap) xs:=by
 obtain⟨a,c,e,hc,hh⟩:=h
 exact⟨a,c,e,hc,⟨a,c,rfl,hc,hh⟩⟩
theorem Y.mT{c:Nat}(hT:P.underlying T=some (.slice E))(hk:P.cellsOf E=k+1)(h:bi enc sz w (.slice A xs.length c) xs)(hx:aD n e x (.slice A xs.length c))(hy:aD n e y (.int kd idx))(hb:0≤idx∧idx < xs.length):
  Yd P n base w0 e L ⟨D,.indexAddr T x y,t,pos,af,G⟩ (.pointer (some (dr A (idx.toNat * (k+1))))):=Y.Cd hT hk hx hy hb (h.Lq hb)
theorem Y.mU(hT:P.underlying T=some (.slice E))(hk:P.cellsOf E=k+1)(hi:L[i]? =some (cR enc sz A cap T' xs))(hx:aD n e x (.slice A m cap))(hm:m=xs.length)(hy:aD n e y (.int kd idx))(hb:0≤idx∧idx < xs.length):
  Yd P n base w0 e L ⟨D,.indexAddr T x y,t,pos,af,G⟩ (.pointer (some (dr A (idx.toNat * (k+1))))):=by
 subst hm
 intro a w ha hw
 exact Y.Cd hT hk hx hy hb ((hw.iA hi).2.2 (by omega)) a w ha hw
theorem Y.Dj{T i off ft k:Nat}{fs:Array Field}{j c:Nat}(hT:P.underlying T=some (.struct fs))(hf:pO P fs i off ft)(hk:P.cellsOf ft=k+1)(h:bi enc sz w (.slice A xs.length c) xs)(hb:0≤idx∧idx < xs.length)(hx:aD n e x (.pointer (some (dr A j)))):
  Yd P n base w0 e L ⟨D,.fieldAddr T x i,t,pos,af,G⟩ (.pointer (some (dr A (j+off)))):=Y.wc hT hf hk (h.Lq hb).1 hx
theorem Y.gQ{T i i' off ft k:Nat}{fs:Array Field}{j:Nat}(hT:P.underlying T=some (.struct fs))(hf:pO P fs i off ft)(hk:P.cellsOf ft=k+1)(hi:L[i']? =some (cR enc sz A cap T' xs))(hb:0≤idx∧idx < xs.length)(hx:aD n e x (.pointer (some (dr A j)))):
  Yd P n base w0 e L ⟨D,.fieldAddr T x i,t,pos,af,G⟩ (.pointer (some (dr A (j+off)))):=by
 intro a w ha hw
 exact Y.wc hT hf hk ((hw.iA hi).2.2 (by omega)).1 hx a w ha hw
theorem Y.pE{dT:TypeDesc}{j:Nat}{L:List Chunk}(hT:P.underlying T=some dT)(hd:fx dT=true)(h:bi enc sz w0 (.slice A m cap) xs)(hx:aD n e x (.pointer (some (dr A p))))(ha:ix xs idx=some a)(hp:p=idx.toNat * sz+j)(hv:(enc a)[j]? =some v):
  Yd P n w0.heap.size w0 e L ⟨D,.load T x,t,pos,af,G⟩ v:=Y.load hT hd hx (fun w hw=>by subst hp;exact hw.JD (h.cells (aI ha) hv))
theorem Y.wi{dT:TypeDesc}{j:Nat}{L:List Chunk}{ds:List Value}(hT:P.underlying T=some dT)(hd:xG dT=true)(hk:P.cellsOf T=k+1)(h:bi enc sz w0 (.slice A m cap) xs)(hx:aD n e x (.pointer (some (dr A p))))(ha:ix xs idx=some a)(hp:p=idx.toNat * sz+j)(hl:ds.length=k+1)(hv: ∀q v,ds[q]? =some v→(enc a)[j+q]? =some v):
  Yd P n w0.heap.size w0 e L ⟨D,.load T x,t,pos,af,G⟩ (.agg ds.toArray):=by
 have hs:A.isSome=true:=(h.Lq (ai ha)).1
 exact Y.IH hT hd hk hs hx hl (fun w hw q v hq=>by subst hp;rw[Nat.add_assoc];exact hw.JD (h.cells (aI ha) (hv q v hq)))
theorem SS(hw:St base w0 L w)(hz: ∀a,(enc a).length=sz)(hi:L[i]? =some (cR enc sz A cap T' xs))(ha:xs[k]? =some a){j:Nat}(hv:(enc a)[j]? =some v):w.cell? (dr A (k * sz+j))=some v:=by
 obtain⟨hk,rfl⟩:=List.getElem?_eq_some_iff.1 ha
 exact hw.ah8 hz hi hk j v hv
theorem Y.gD{dT:TypeDesc}{j:Nat}(hT:P.underlying T=some dT)(hd:fx dT=true)(hz: ∀a,(enc a).length=sz)(hi:L[i]? =some (cR enc sz A cap T' xs))(hx:aD n e x (.pointer (some (dr A p))))(ha:xs[idx.toNat]? =some a)(hp:p=idx.toNat * sz+j)(hv:(enc a)[j]? =some v):
  Yd P n base w0 e L ⟨D,.load T x,t,pos,af,G⟩ v:=Y.load hT hd hx (fun w hw=>by subst hp;exact SS hw hz hi ha hv)
theorem Y.wj{dT:TypeDesc}{j:Nat}{ds:List Value}(hT:P.underlying T=some dT)(hd:xG dT=true)(hk:P.cellsOf T=k+1)(hz: ∀a,(enc a).length=sz)(hi:L[i]? =some (cR enc sz A cap T' xs))(hx:aD n e x (.pointer (some (dr A p))))(ha:xs[idx.toNat]? =some a)(hp:p=idx.toNat * sz+j)(hl:ds.length=k+1)(hv: ∀q v,ds[q]? =some v→(enc a)[j+q]? =some v):
  Yd P n base w0 e L ⟨D,.load T x,t,pos,af,G⟩ (.agg ds.toArray):=by
 intro ac w hac hw
 have hlt:=(List.getElem?_eq_some_iff.1 ha).1
 have hs:A.isSome=true:=((hw.iA hi).2.2 (by omega)).1
 exact Y.IH hT hd hk hs hx hl (fun w hw q v hq=>by subst hp;rw[Nat.add_assoc];exact SS hw hz hi ha (hv q v hq)) ac w hac hw
theorem Y.ag1{b:Nat}(hT:P.underlying T=some (.slice E))(hk:P.cellsOf E=k+1)(hx:aD n e x (.slice (some ⟨b,0,none⟩) m cap))(hm:m=xs.length)(hy:aD n e y (.int kd idx))(hb:0≤idx∧idx < xs.length):
  Yd P n base w0 e L ⟨D,.indexAddr T x y,t,pos,af,G⟩ (.pointer (some (dr (some ⟨b,0,none⟩) (idx.toNat * (k+1))))):=by
 subst hm
 exact Y.Cd hT hk hx hy hb ⟨rfl,fun p hp=>by cases hp;rfl⟩
theorem Y.UJ(hT:P.underlying T=some (.slice E))(hk:P.cellsOf E=k+1)(hok:0 < xs.length→xk A)(hx:aD n e x (.slice A m cap))(hm:m=xs.length)(hy:aD n e y (.int kd idx))(hb:0≤idx∧idx < xs.length):
  Yd P n base w0 e L ⟨D,.indexAddr T x y,t,pos,af,G⟩ (.pointer (some (dr A (idx.toNat * (k+1))))):=by
 subst hm
 exact Y.Cd hT hk hx hy hb (hok (by omega))
theorem Y.wEl{c:Nat}(hT:P.underlying T=some (.slice E))(hk:P.cellsOf E=k+1)(h: ∀w,St base w0 L w→bi enc sz w (.slice A xs.length c) xs)(hx:aD n e x (.slice A xs.length c))(hy:aD n e y (.int kd idx))(hb:0≤idx∧idx < xs.length):
  Yd P n base w0 e L ⟨D,.indexAddr T x y,t,pos,af,G⟩ (.pointer (some (dr A (idx.toNat * (k+1))))):=fun a w ha hw=>Y.mT hT hk (h w hw) hx hy hb a w ha hw
theorem Y.ag2{dT:TypeDesc}{j:Nat}(hT:P.underlying T=some dT)(hd:fx dT=true)(h: ∀w,St base w0 L w→bi enc sz w (.slice A m cap) xs)(hx:aD n e x (.pointer (some (dr A p))))(ha:ix xs idx=some a)(hp:p=idx.toNat * sz+j)(hv:(enc a)[j]? =some v):
  Yd P n base w0 e L ⟨D,.load T x,t,pos,af,G⟩ v:=Y.load hT hd hx (fun w hw=>by subst hp;exact(h w hw).cells (aI ha) hv)
theorem bi.ofRow(hz: ∀a,(enc a).length=sz)(h:St base w0 L w)(hi:L[i]? =some (cR enc sz A cap T' xs))(hm:m=xs.length:=by rfl):bi enc sz w (.slice A m cap) xs:=by subst hm;exact bi.row hz h hi
theorem bi.ad4:bi enc sz w (.slice none 0 0) ([]:List α):=bi.nil
end
section
variable {kd:IntKind} {p q:Int} {tx ty:TypeId}
theorem Y.uO(hx:aD n e x (.int kd p))(hy:aD n e y (.int kd q)):Yd P n base w0 e L ⟨D,.binOp .and tx x y ty,t,pos,af,G⟩ (.int kd (uI kd p q)):=
 fun a w ha _=>by simp[execOp,hx a ha,hy a ha,eqGuard,binOp,Op.intBits,uI]
theorem Y.bor(hx:aD n e x (.int kd p))(hy:aD n e y (.int kd q)):Yd P n base w0 e L ⟨D,.binOp .or tx x y ty,t,pos,af,G⟩ (.int kd (pa kd p q)):=
 fun a w ha _=>by simp[execOp,hx a ha,hy a ha,eqGuard,binOp,Op.intBits,pa]
theorem Y.aic(hx:aD n e x (.int kd p))(hy:aD n e y (.int kd q)):Yd P n base w0 e L ⟨D,.binOp .andNot tx x y ty,t,pos,af,G⟩ (.int kd (Cg kd p q)):=
 fun a w ha _=>by simp[execOp,hx a ha,hy a ha,eqGuard,binOp,Op.intBits,Cg]
theorem Y.shl{Wl:IntKind}(hx:aD n e x (.int kd p))(hy:aD n e y (.int Wl q))(h:0≤q):Yd P n base w0 e L ⟨D,.binOp .shl tx x y ty,t,pos,af,G⟩ (.int kd (mz kd p q)):=by
 intro a w ha _
 have: ¬q < 0:=by omega
 simp[execOp,hx a ha,hy a ha,eqGuard,binOp,Op.shift,this,mz]
theorem Y.shr{Wl:IntKind}(hx:aD n e x (.int kd p))(hy:aD n e y (.int Wl q))(h:0≤q):Yd P n base w0 e L ⟨D,.binOp .shr tx x y ty,t,pos,af,G⟩ (.int kd (kx kd p q)):=by
 intro a w ha _
 have: ¬q < 0:=by omega
 simp[execOp,hx a ha,hy a ha,eqGuard,binOp,Op.shift,this,kx]
theorem Y.UK(hx:aD n e x (.int kd p))(hy:aD n e y (.int kd q)):Yd P n base w0 e L ⟨D,.binOp .add tx x y ty,t,pos,af,G⟩ (.int kd (kd.wrap (p+q))):=by
 intro a w ha _;simp[execOp,hx a ha,hy a ha,eqGuard,binOp,Op.intArith]
theorem Y.mB(hx:aD n e x (.int kd p))(hy:aD n e y (.int kd q)):Yd P n base w0 e L ⟨D,.binOp .sub tx x y ty,t,pos,af,G⟩ (.int kd (kd.wrap (p - q))):=by
 intro a w ha _;simp[execOp,hx a ha,hy a ha,eqGuard,binOp,Op.intArith]
end
theorem dm{α:Type}{xs:List α}{a:α}{idx:Int}(h:0≤idx∧idx < xs.length):(xs.set idx.toNat a)[idx.toNat]? =some a:=by
 rw[List.getElem?_set_self (by omega)]
theorem fy{α β:Type}{f:α→Prop}{x o:β}(h:Sum.elim f (fun r=>r=o) (Sum.inr x:α ⊕ β)):x=o:=h
theorem iB: ∀v∈([]:List Value),v.oneCell'=true:=by simp
theorem bu{v:Value}{l:List Value}(h:v.oneCell'=true)(hl: ∀u∈l,u.oneCell'=true): ∀u∈v::l,u.oneCell'=true:=by
 intro u hu
 rcases List.mem_cons.1 hu with rfl|hu
 ·exact h
 ·exact hl u hu
theorem AF{l m:List Value}(h: ∀u∈l,u.oneCell'=true)(hl: ∀u∈m,u.oneCell'=true): ∀u∈l++m,u.oneCell'=true:=by
 intro u hu
 rcases List.mem_append.1 hu with hu|hu
 ·exact h u hu
 ·exact hl u hu
def Wm:List (Nat×Value)→Prop
 | []=>True
 |p::r=>p.2.oneCell'=true∧Wm r
theorem bH: ∀{vs:List (Nat×Value)},Wm vs→∀p∈vs,p.2.oneCell'=true
 | [],_,p,hp=>by cases hp
 |q::r,h,p,hp=>by
  rcases List.mem_cons.1 hp with rfl|hp
  ·exact h.1
  ·exact bH h.2 p hp
theorem II{k:IntKind}(h:k.signed=false)(x:Int):0≤k.wrap x:=by
 unfold IntKind.wrap
 simp only[h,Bool.false_and,Bool.false_eq_true,if_false]
 exact Int.emod_nonneg _ (by cases k<;>simp[IntKind.bits])
theorem iQ{cs:List Value}{k m:Nat}(h:k < m)(hm:cs.length=m):k < cs.length:=by omega
theorem JN{cs ds:List Value}{o m l:Nat}(h:o+l≤m)(hm:cs.length=m)(hd:ds.length=l):o+ds.length≤cs.length:=by omega
theorem Hk{i n off sz j m:Nat}(h:i < n)(h2:decide (off+(n - 1) * sz+j < m)=true):off+i * sz+j < m:=by
 have h2:=of_decide_eq_true h2
 have:i * sz≤(n - 1) * sz:=Nat.mul_le_mul_right _ (by omega)
 omega
theorem Ej{cs ds:List Value}(h:cs.length=ds.length):putAt cs 0 ds=ds:=adX h
theorem qV{α:Type}{n:Nat}{d:α}{a:List α}{i:Int}{x:α}(h:ax n d a i=some x):i.toNat < n:=by
 have:=uH h;omega
theorem UL{A:Option Addr}{m m' c:Nat}(h:m=m'):some (Value.slice A m c)=some (Value.slice A m' c):=by rw[h]
section
variable {K:Act→World→Prop}
variable {α:Type} {enc:α→List Value} {sz:Nat} {A:Option Addr} {cap m k i p E T T':Nat} {xs ys:List α} {a a':α} {kd:IntKind} {idx:Int}
theorem WO.dC{T b k i:Nat}{E:TypeId}{cs cs':List Value}(hc:P.cellsOf T=1)(hx:aD n e x (.pointer (some ⟨b,k,none⟩)))(hy:aD n e y v)(hv:v.oneCell'=true)
  (hi:L[i]? =some (aw b E cs))(hk:k < cs.length)(hs:cs.set k v=cs')(h:KK n base w0 e (L.set i (aw b E cs')) K):WO P ops n base w0 e L ⟨none,.store T x y,t,pos,af,none⟩ K Q:=
 WO.store hc hx hy hv hi (by simpa using hk) (by subst hs;simpa using h)
theorem WO.q_{T k b o i:Nat}{E:TypeId}{cs cs' ds:List Value}(hc:P.cellsOf T=k+1)(hx:aD n e x (.pointer (some ⟨b,o,none⟩)))(hy:aD n e y (.agg ds.toArray))(hl:ds.length=k+1)(h1: ∀v∈ds,v.oneCell'=true)
  (hi:L[i]? =some (aw b E cs))(hk:o+ds.length≤cs.length)(hs:putAt cs o ds=cs')(h:KK n base w0 e (L.set i (aw b E cs')) K):WO P ops n base w0 e L ⟨none,.store T x y,t,pos,af,none⟩ K Q:=
 WO.adY hc hx hy hl h1 hi (by simpa using hk) (by subst hs;simpa using h)
theorem WO.AU(hc:P.cellsOf T=1)(hx:aD n e x (.pointer (some (dr A p))))(hy:aD n e y v)(hv:v.oneCell'=true)(hz: ∀a,(enc a).length=sz){j:Nat}
  (hi:L[i]? =some (cR enc sz A cap T' xs))(ha:xs[idx.toNat]? =some a)(hp:p=idx.toNat * sz+j)(hj:j < sz)(hs:(enc a).set j v=enc a')(h:KK n base w0 e (L.set i (cR enc sz A cap T' (xs.set idx.toNat a'))) K):
  WO P ops n base w0 e L ⟨none,.store T x y,t,pos,af,none⟩ K Q:=by
 subst hp
 obtain⟨hk,rfl⟩:=List.getElem?_eq_some_iff.1 ha
 have hle:(idx.toNat+1) * sz≤xs.length * sz:=Nat.mul_le_mul_right _ hk
 rw[Nat.add_mul]at hle
 refine WO.OK hc hx hy hv hi (by rw[o_ hz];omega) ?_
 rw[Eh hz xs _ j v a' hk hj hs]
 simpa[cR]using h
theorem WO.ST(hc:P.cellsOf T=k+1)(hx:aD n e x (.pointer (some (dr A p))))(hy:aD n e y (.agg (enc a').toArray))(hz: ∀a,(enc a).length=sz)(hsz:sz=k+1)(h1: ∀v∈enc a',v.oneCell'=true)
  (hi:L[i]? =some (cR enc sz A cap T' xs))(hb:0≤idx∧idx < xs.length)(hp:p=idx.toNat * sz)(h:KK n base w0 e (L.set i (cR enc sz A cap T' (xs.set idx.toNat a'))) K):
  WO P ops n base w0 e L ⟨none,.store T x y,t,pos,af,none⟩ K Q:=by
 subst hp
 have hk:idx.toNat < xs.length:=by omega
 have hle:(idx.toNat+1) * sz≤xs.length * sz:=Nat.mul_le_mul_right _ hk
 rw[Nat.add_mul]at hle
 refine WO.Ln hc hx hy (by rw[hz,hsz]) h1 hi (by rw[o_ hz,hz];omega) ?_
 rw[OJ hz xs _ a' hk]
 simpa[cR]using h
theorem WO.fH{t E size bytes i c cap m2:Nat}{A:Option Addr}{ty:TypeId}(hT:P.underlying t=some (.slice E))(hz: ∃i z,P.info? E=some i∧i.zero=some z∧i.size=size∧i.bytes=bytes∧z.cells.size=size∧0 < size)
  (wh: ∀a,(enc a).length=size)(h1: ∀a,∀u∈enc a,u.oneCell'=true){b:Nat}
  (hx:aD n e x (.slice A m cap))(hm:m=xs.length)(hy:aD n e y (.slice (some ⟨b,0,none⟩) ys.length c))(hi:L[i]? =some (cR enc size A cap E xs))(hi2:L[m2]? =some (cR enc size (some ⟨b,0,none⟩) c E ys))(hb:eY bytes (xs.length+ys.length)=true)(hd:Nat.blt d n=true)
  (h: ∀A' cap',KK n base w0 ((d,.slice A' (xs++ys).length cap')::e) (L.set i (cR enc size A' cap' E (xs++ys))) K):
  WO P ops n base w0 e L ⟨some d,.call {callee:= .builtin .append,args:= #[x,y],argTypes:= #[t,t]},ty,pos,af,none⟩ K Q:=by
 subst hm
 obtain⟨hb1,hb2⟩:=Lo hb
 refine WO.append (news:=ys.flatMap enc) hT hz hx hy hi (o_ wh ys) (fun w hw j u hj=>?_) (fun u hu=>?_) hb1 hb2 hd (fun A' cap'=>?_)
 ·have:=(hw.AE hi2 hj).2
  rw[eX]
  simpa[dr]using this
 ·obtain⟨a,_,ha⟩:=List.mem_flatMap.1 hu
  exact h1 a u ha
 ·have:=h A' cap'
  simpa[cR,List.flatMap_append]using this
theorem WO.Hl(hc:P.cellsOf T=1)(hx:aD n e x (.pointer (some (dr A p))))(hy:aD n e y v)(hv:v.oneCell'=true)(hz: ∀a,(enc a).length=sz){j:Nat}
  (hi:L[i]? =some (cR enc sz A cap T' (xs.set idx.toNat a)))(hb:0≤idx∧idx < xs.length)(hp:p=idx.toNat * sz+j)(hj:j < sz)(hs:(enc a).set j v=enc a')(h:KK n base w0 e (L.set i (cR enc sz A cap T' (xs.set idx.toNat a'))) K):
  WO P ops n base w0 e L ⟨none,.store T x y,t,pos,af,none⟩ K Q:=by
 refine WO.AU hc hx hy hv hz hi (a:=a) (dm hb) hp hj hs ?_
 rw[List.set_set];exact h
theorem MS{k:Nat}{z:α}{zs:List Value}(h:enc z=zs):(List.replicate k zs).flatten=(List.replicate k z).flatMap enc:=by simp[List.flatMap,h]
theorem WO.ag3{T E bytes:Nat}{z:α}{zs:List Value}(hT:P.underlying T=some (.slice E))(hz: ∃i z,P.info? E=some i∧i.zero=some z∧i.size=sz∧i.bytes=bytes∧z.cells=zs.toArray∧zs.length=sz∧0 < sz)(hez:enc z=zs)(hx:aD n e x (.int kd idx))(hb:jS bytes idx=true)(hd:Nat.blt d n=true)
  (h: ∀b,KK n base w0 ((d,.slice (some ⟨b,0,none⟩) (List.replicate idx.toNat z).length idx.toNat)::e) (cR enc sz (some ⟨b,0,none⟩) idx.toNat E (List.replicate idx.toNat z)::L) K):WO P ops n base w0 e L ⟨some d,.makeSlice T x x,t,pos,af,none⟩ K Q:=by
 obtain⟨h0,hm,hbb⟩:=ad1 hb
 refine WO.agZ hT hz (by rw[Int.toNat_of_nonneg h0];exact hx) ⟨hbb,?_⟩ hd (fun b=>?_)
 ·unfold maxLen at hm;omega
 ·have hK:=h b
  intro a w ha hw
  refine hK a w (by simpa using ha) (St.N' (o:=some b) hw (fun o ho=>?_))
  subst ho
  obtain⟨i,z',hi,wh,hs,hby,hzc,hzl,hpos⟩:=hz
  have hl:((List.replicate idx.toNat z).flatMap enc).length=idx.toNat * sz:=by simp[hez,hzl]
  refine⟨by simpa[hez]using hl,.inr ⟨b,_,rfl,rfl,by simp,hm,?_,?_⟩⟩
  ·rw[MS hez];simpa using hl
  ·rw[MS hez];simp only[List.length_replicate]
   rw[List.take_of_length_le (by simpa using Nat.le_of_eq hl)]
theorem WO.cC{T E len:Nat}{zv:Value}{es:List (Nat×Operand)}{vs:List Value}(hT:P.underlying T=some (.slice E))(hz: ∃i,P.info? E=some i∧i.zero=some zv∧i.size=sz)(hx:MP n e 0 es vs)(hl:vs.length=len)(wh: ∀a,(enc a).length=sz)(hs:vs.map (fun v=>v.cells.toList)=ys.map enc)(JJ:ys.length=len)(hpos:0 < sz)(hsm:len * sz≤16777216)(hd:Nat.blt d n=true)
  (h: ∀b,KK n base w0 ((d,.slice (some ⟨b,0,none⟩) ys.length ys.length)::e) (cR enc sz (some ⟨b,0,none⟩) ys.length E ys::L) K):WO P ops n base w0 e L ⟨some d,.buildSlice T len es.toArray,t,pos,af,none⟩ K Q:=by
 have hlen: ∀v∈vs,v.cells.size=sz:=by
  intro v hv
  have:v.cells.toList∈ys.map enc:=by rw[←hs];exact List.mem_map.2 ⟨v,hv,rfl⟩
  obtain⟨a,_,ha⟩:=List.mem_map.1 this
  have h2:v.cells.toList.length=sz:=by rw[←ha];exact wh a
  simpa using h2
 refine WO.V' hT hz hx hl hlen hsm hd (fun b=>?_)
 subst JJ
 intro a w ha hw
 refine h b a w ha (St.N' (o:=some b) hw (fun o ho=>?_))
 subst ho
 have hfl:(vs.flatMap fun v=>v.cells.toList)=ys.flatMap enc:=by rw[List.flatMap_def,hs,List.flatMap_def]
 have JJ:=o_ wh ys
 by_cases hcap:ys.length≤maxLen
 ·refine⟨JJ,.inr ⟨b,_,rfl,rfl,Nat.le_refl _,hcap,?_,?_⟩⟩
  ·rw[hfl];simpa using JJ
  ·rw[hfl];exact List.take_of_length_le (by simpa using Nat.le_of_eq JJ)
 ·exfalso
  have:ys.length * 1≤ys.length * sz:=Nat.mul_le_mul_left _ hpos
  unfold maxLen at hcap;omega
theorem St.qp(h:St base w0 L w)(enc:α→List Value)(sz:Nat)(E:TypeId):St base w0 (cR enc sz none 0 E ([]:List α)::L) w:=by
 have:=h.Wd E sz
 simpa[cR]using this
end
section
variable {kd:IntKind} {p q:Int} {tx ty:TypeId}
def ak2(k:IntKind)(x y:Int):Int:=k.wrap (x.tdiv y)
def ad5(k:IntKind)(x y:Int):Int:=x.tmod y
def sx(s:ByteArray)(i:Int):Option Int:=(if 0≤i then s[i.toNat]? else none).map fun b=>(b.toNat:Int)
theorem Y.rem(hx:aD n e x (.int kd p))(hy:aD n e y (.int kd q))(h:q≠0):Yd P n base w0 e L ⟨D,.binOp .rem tx x y ty,t,pos,af,G⟩ (.int kd (ad5 kd p q)):=by
 intro a w ha _;simp[execOp,hx a ha,hy a ha,eqGuard,binOp,Op.intDiv,h,ad5]
theorem Y.Wn{T:TypeId}{s:ByteArray}{i r:Int}(hT:P.underlying T=some .string)(hx:aD n e x (.string s))(hy:aD n e y (.int kd i))(h:sx s i=some r):Yd P n base w0 e L ⟨D,.index T x y,t,pos,af,G⟩ (.int .u8 r):=by
 intro a w ha _
 unfold sx at h
 cases hb:(if 0≤i then s[i.toNat]? else none)with
 |none=>rw[hb]at h;cases h
 |some b=>
  rw[hb]at h
  obtain rfl:(b.toNat:Int)=r:=by simpa using h
  simp[execOp,hx a ha,hy a ha,Instr.index,asIntOf,run_underlying hT,hb]
end
theorem Y.OP{T:Nat}{places:List (Nat×Nat)}{z cs:Array Value}{xs:List (Nat×Operand)}{vs:List (Nat×Value)}(hs:Shape P T places z)(hx:MO n e xs vs)(hc:Instr.fill (places.toArray[·]?) z vs=some cs):
  Yd P n base w0 e L ⟨D,.build T xs.toArray,t,pos,af,G⟩ (.agg cs):=by
 intro a w ha _
 obtain⟨fs,i,zv,hT,hi,hz,rfl,hp,hpos⟩:=hs
 have h2:=run_places (P:=P) (w:=w) fs.toList places hp hpos
 have h3:(fs.mapM (m:=Sem) fun f=>do pure (f.offset,←sizeOf f.type)).run P w= .ok places.toArray w:=by
  rw[Array.mapM_eq_mapM_toList,Sem.run_map,h2];rfl
 have h4:=hx a ha
 have h6:(xs.toArray.map fun(p:Nat×Operand)=>(p.1,a.eval p.2))=vs.toArray:=by rw[←h4];simp
 simp only[execOp,Instr.build,Sem.run_bind,zeroValue,typeInfo,Sem.run_pure,run_program,Result.andThen_ok,hi,hz,run_underlying hT,h3,h6,hc]
theorem Y.ad6{T E m k:Nat}{z cs:Array Value}{xs:List (Nat×Operand)}{vs:List (Nat×Value)}(hT:P.underlying T=some (.array m E))(hk:P.cellsOf E=k+1)(hz: ∃i zv,P.info? T=some i∧i.zero=some zv∧zv.cells=z)(hx:MO n e xs vs)(hc:Instr.fill (fun i=>some (i * (k+1),k+1)) z vs=some cs):
  Yd P n base w0 e L ⟨D,.build T xs.toArray,t,pos,af,G⟩ (.agg cs):=by
 intro a w ha _
 obtain⟨i,zv,hi,hz,rfl⟩:=hz
 have h4:=hx a ha
 have h6:(xs.toArray.map fun(p:Nat×Operand)=>(p.1,a.eval p.2))=vs.toArray:=by rw[←h4];simp
 simp only[execOp,Instr.build,Sem.run_bind,zeroValue,typeInfo,Sem.run_pure,run_program,Result.andThen_ok,hi,hz,run_underlying hT,kw hk,h6,hc]
theorem WD.fin{R:Act→Prop}(hR: ∀a,(∀w,St base w0 L w→Q .normal a w)→R a)(k: ∀a w,Fits n e a→St base w0 L w→Q .normal a w):WD P ops n base w0 e L [] R:=fun a ha=>hR a fun w hw=>k a w ha hw
theorem W.rq{id:Nat}{l:List Oper}(s:Nat)(hm:P.follows .mixedOrders=true)(h:WX P l n base w0 e L L s l.length (Array.replicate l.length false) (fun a w=>Q .normal a w)):W P n base w0 e L (.region id l.toArray true) Q:=by
 intro a w ha hw
 have h1:=wp_region_any (id:=id) (ops:=l.toArray) (Q:=fun x a w=>x= .normal∧Q .normal a w) (a:=a) (w:=w) hm (by simpa using Ei _ _ _ _ (h a w.drew ha hw.drew))
 refine wp_mono h1 ?_
 rintro e a w ⟨rfl,h⟩
 exact h
theorem St.dZ{L':List Chunk}(h:St base w0 L w)(e:L=L'):St base w0 L' w:=e▸h
theorem St.cY(h:St base w0 L w)(k:Nat)(idx:List Nat)(hi:(decide idx.Nodup&&idx.all (fun i=>Nat.blt i k)&&Nat.ble k L.length)=true):St base w0 (idx.filterMap (L[·]?)++L.drop k) w:=by
 simp only[Bool.and_eq_true,decide_eq_true_eq,List.all_eq_true,Nat.blt_eq,Nat.ble_eq]at hi
 obtain⟨⟨hn,hl⟩,hk⟩:=hi
 have e: ∀i,i < k→(L.take k)[i]? =L[i]? :=fun i hi=>by rw[List.getElem?_take_of_lt hi]
 have h0:St base w0 (L.take k++L.drop k) w:=by rw[List.take_append_drop];exact h
 refine h0.sub ⟨((List.range k).filter (fun i=>decide (i∉idx))).filterMap ((L.take k)[·]?),?_⟩
 have e0: ∀l:List Nat,(∀i∈l,i < k)→l.filterMap (L[·]?)=l.filterMap ((L.take k)[·]?):=by
  intro l
  induction l with
  |nil=>intro _;rfl
  |cons a l ih=>
   intro h
   rw[List.filterMap_cons,List.filterMap_cons,e a (h a (by simp)),ih (fun i hi=>h i (by simp[hi]))]
 have e1:=e0 idx hl
 have hkl:(L.take k).length=k:=by rw[List.length_take];omega
 have hp:(idx.filterMap ((L.take k)[·]?)++((List.range k).filter (fun i=>decide (i∉idx))).filterMap ((L.take k)[·]?)).Perm (L.take k):=by
  conv=>rhs;rw[←Ef (L.take k),hkl]
  rw[←List.filterMap_append]
  refine List.Perm.filterMap _ ?_
  rw[List.perm_ext_iff_of_nodup]
  ·intro a
   simp only[List.mem_append,List.mem_filter,List.mem_range,decide_eq_true_eq]
   constructor
   ·rintro(h|h)
    ·exact hl a h
    ·exact h.1
   ·intro h
    by_cases ha:a∈idx
    ·exact .inl ha
    ·exact .inr ⟨h,ha⟩
  ·rw[List.nodup_append]
   refine⟨hn,List.Pairwise.filter _ List.nodup_range,fun a ha b hb e=>?_⟩
   subst e
   simp at hb
   exact hb.2 ha
  ·exact List.nodup_range
 rw[e1]
 generalize idx.filterMap ((L.take k)[·]?)=X at hp⊢
 generalize ((List.range k).filter (fun i=>decide (i∉idx))).filterMap ((L.take k)[·]?)=Y at hp⊢
 generalize L.take k=Z at hp⊢
 generalize L.drop k=T
 calc X++T++Y
   _=X++(T++Y):=List.append_assoc _ _ _
   _ |>.Perm (X++(Y++T)):=List.Perm.append_left X List.perm_append_comm
   _=(X++Y)++T:=(List.append_assoc _ _ _).symm
   _ |>.Perm (Z++T):=List.Perm.append_right T hp
theorem Pure.calls{f:FuncId}{vs:List Value}(h:Pure P f vs w v)(hw:St base w0 L w):Calls P f vs.toArray w fun e w'=>∃g:Unit,True∧e= .returned v∧St base w0 L w':=
 h.mono fun e w' ⟨he,hs⟩=>⟨(),trivial,he,hw.same hs⟩
theorem Made.calls{f:FuncId}{vs:List Value}{γ:Type}{V:γ→Value}{C:γ→List Chunk}{I:γ→Prop}(h:Made P f vs w V C I)(hw:St base w0 L w):Calls P f vs.toArray w fun e w'=>∃g,I g∧e= .returned (V g)∧St base w0 (C g++L) w':=
 h.mono fun e w' ⟨g,hI,he,hs⟩=>⟨g,hI,he,hw.merge hs⟩
section
variable {K:Act→World→Prop}
theorem WO.Hm{γ:Type}{f:FuncId}{x:Operand}{first cap:List Value}{args:List Operand}{vs:List Value}{ats:Array TypeId}{D:Option Tmp}(V:γ→Value)(L':γ→List Chunk)(I:γ→Prop)(hg:se P f)(hf:aD n e x (.func (.func f) first.toArray cap.toArray))(hx:ik n e args vs)(hd:OB D n=true)
  (hc: ∀w,St base w0 L w→Calls P f (first++vs++cap).toArray w fun e w'=>∃g,I g∧e= .returned (V g)∧St base w0 (L' g) w')(h: ∀g,I g→KK n base w0 (IE D (V g) e) (L' g) K):
  WO P ops n base w0 e L ⟨D,.call {callee:= .value x,args:=args.toArray,argTypes:=ats},t,pos,af,none⟩ K Q:=by
 refine WO.of_run rfl fun a w ha hw=>?_
 unfold Oper.wp
 rw[V9 hg hf hx a w ha]
 simp only[Oper.upon]
 have h1:first.toArray++vs.toArray++cap.toArray=(first++vs++cap).toArray:=by simp
 rw[h1]
 refine(hc w hw).mono ?_
 rintro e' w' ⟨g,hI,rfl,hs⟩
 exact h g hI _ _ (ha.Ys hd) hs
end
def gz{α:Type}:List (Int×α)→Int→Option α
 | [],_=>none
 |(a,v)::r,k=>if a=k then some v else gz r k
def kX{α:Type}:List (Int×α)→Int→α→List (Int×α)
 | [],k,v=>[(k,v)]
 |(a,u)::r,k,v=>if a=k then(a,v)::r else(a,u)::kX r k v
def AV{α:Type}(f:α→Value)(m:List (Int×α)):List (Int×Value):=m.map fun p=>(p.1,f p.2)
def cM{α:Type}(f:α→Value)(o:Option Nat)(m:List (Int×α)):Chunk:= .one o fun x=>match o with|none=>m= []|some b=>∃es clock,x=some (.map es clock)∧yE es (AV f m)∧Go.MapKept.Stamped es clock
theorem St.Lr{α:Type}(h:St base w0 L w)(f:α→Value):St base w0 (cM f none ([]:List (Int×α))::L) w:=by
 refine⟨h.below,h.ot,fun c hc=>?_,h.nodup,h.ge⟩
 rcases List.mem_cons.1 hc with rfl|hc
 ·rfl
 ·exact h.sat c hc
theorem NJ{P:Program}{w:World}{T KT E:Nat}{z:Value}(hT:P.underlying T=some (.map KT E))(hK:P.underlying KT=some (.int .i64))(hz: ∃i,P.info? E=some i∧i.zero=some z)(k:Int)(FP:Bool):
  (Instr.lookup T (.map none) (.int .i64 k) FP).run P w= .ok (if FP then .tuple #[z,.bool false]else z) w:=by
 obtain⟨i,hi,hz⟩:=hz
 unfold Instr.lookup
 have hf:=run_findKey (P:=P) (w:=w) (es:= #[]) (l:=[]) hK rfl k
 simp only[List.toList_toArray]at hf
 simp only[Sem.run_bind,run_underlying hT,Result.andThen_ok,run_checkKey hK,Sem.run_pure,hf]
 simp[lh,zeroValue,typeInfo,hi,hz]
theorem OQ{α:Type}(f:α→Value)(k:Int): ∀m:List (Int×α),Ee (AV f m) k=(gz m k).map f
 | []=>rfl
 |(a,v)::r=>by
  simp only[AV,List.map_cons,Ee,gz]
  by_cases h:a=k
  ·rw[if_pos h,if_pos h];rfl
  ·rw[if_neg h,if_neg h];exact OQ f k r
theorem OS{α:Type}(f:α→Value)(k:Int)(v:α): ∀m:List (Int×α),wb (AV f m) k (f v)=AV f (kX m k v)
 | []=>rfl
 |(a,u)::r=>by
  simp only[AV,List.map_cons,wb,kX]
  by_cases h:a=k
  ·rw[if_pos h,if_pos h];rfl
  ·rw[if_neg h,if_neg h];simp only[List.map_cons];exact congrArg _ (OS f k v r)
section
variable {α:Type} {f:α→Value} {m:List (Int×α)} {a:α} {k:Int} {i b T KT E:Nat} {o:Option Nat}
theorem Y.gz{dv:α}(hT:P.underlying T=some (.map KT E))(hK:P.underlying KT=some (.int .i64))(hz: ∃i,P.info? E=some i∧i.zero=some (f dv))(hx:aD n e x (.map o))(hy:aD n e y (.int .i64 k))(hi:L[i]? =some (cM f o m)):
  Yd P n base w0 e L ⟨D,.lookup T x y false,t,pos,af,G⟩ (f ((gz m k).getD dv)):=by
 cases o with
 |none=>
  intro ac w ha hw
  have hm:m= []:=hw.sat _ (List.mem_of_getElem? hi)
  subst hm
  have:=NJ (P:=P) (w:=w) hT hK hz k false
  simp[execOp,hx ac ha,hy ac ha,this,Go.Proofs.YtjdkkabcenohcaaGreatDoor.gz]
 |some b=>
  have:=Y.adV (D:=D) (t:=t) (pos:=pos) (af:=af) (G:=G) (base:=base) (w0:=w0) hT hK hz hx hy hi
  rw[OQ]at this
  have e1:(((Go.Proofs.YtjdkkabcenohcaaGreatDoor.gz m k).map f).getD (f dv))=f ((Go.Proofs.YtjdkkabcenohcaaGreatDoor.gz m k).getD dv):=by cases Go.Proofs.YtjdkkabcenohcaaGreatDoor.gz m k<;>rfl
  rw[←e1];exact this
variable {K:Act→World→Prop}
theorem WO.UM{T:Nat}(f:α→Value)(hd:Nat.blt d n=true)(h: ∀b,KK n base w0 ((d,.map (some b))::e) (cM f (some b) []::L) K):WO P ops n base w0 e L ⟨some d,.makeMap T none,t,pos,af,none⟩ K Q:=
 WO.makeMap hd h
theorem WO.Yx(hT:P.underlying T=some (.map KT E))(hK:P.underlying KT=some (.int .i64))(hx:aD n e x (.map (some b)))(hy:aD n e y (.int .i64 k))(hz:aD n e z (f a))
  (hi:L[i]? =some (cM f (some b) m))(h:KK n base w0 e (L.set i (cM f (some b) (kX m k a))) K):WO P ops n base w0 e L ⟨none,.mapUpdate T x y z,t,pos,af,none⟩ K Q:=
 WO.adW hT hK hx hy hz hi (by rw[OS];exact h)
end
def kY(A:Option Addr)(c i sz:Nat):Option Addr:=if c=i then A else A.map fun p=>p.add (i * sz)
section
variable {α:Type} {enc:α→List Value} {sz:Nat} {A:Option Addr} {cap m k E T T':Nat} {xs:List α} {kd Wl:IntKind} {lo hi:Int}
theorem abk{A:Option Addr}{c i sz:Nat}(h:xk A):xk (kY A c i sz):=by
 unfold kY
 split
 ·exact h
 ·obtain⟨h1,h2⟩:=h
  cases A with
  |none=>cases h1
  |some p=>
   obtain⟨b,o,s⟩:=p
   obtain rfl:s=none:=h2 _ rfl
   rw[Option.map_some,eX]
   exact⟨rfl,fun q hq=>by cases hq;rfl⟩
theorem abl{A:Option Addr}{c i sz j:Nat}(h:xk A)(hc:c≠i):dr (kY A c i sz) j=dr A (i * sz+j):=by
 unfold kY
 rw[if_neg hc]
 obtain⟨h1,h2⟩:=h
 cases A with
 |none=>cases h1
 |some p=>
  obtain⟨b,o,s⟩:=p
  obtain rfl:s=none:=h2 _ rfl
  rw[Option.map_some,eX]
  simp[dr,Nat.add_assoc]
theorem bi.sub(h:bi enc sz w (.slice A xs.length cap) xs){i j:Nat}(hb:i≤j∧j≤xs.length):bi enc sz w (.slice (kY A cap i sz) ((xs.take j).drop i).length (cap - i)) ((xs.take j).drop i):=by
 obtain⟨a,c,e,hc,hh⟩:=h
 obtain⟨rfl,rfl⟩:A=a∧cap=c:=by simpa using e
 refine⟨_,_,rfl,by simp;omega,fun q hq=>?_⟩
 have Ft:q < j - i:=by simp at hq;omega
 obtain⟨ho,hat⟩:=hh (i+q) (by omega)
 refine⟨abk ho,fun r v hr=>?_⟩
 rw[abl ho (by omega)]
 have:=hat r v (by simpa using hr)
 rw[←this]
 congr 2
 rw[Nat.add_mul];omega
def pB(n:Nat)(lo hi:Int):Bool:=decide (0≤lo∧lo≤hi∧hi≤n)
theorem Dk{n:Nat}{lo hi:Int}(h:pB n lo hi=true):0≤lo∧lo≤hi∧hi≤n:=by simpa[pB]using h
theorem AG{n:Nat}{lo hi:Int}(h:pB n lo hi=true):lo.toNat≤hi.toNat∧hi.toNat≤n:=by have:=Dk h;omega
theorem Y.ad7(hT:P.underlying T=some (.slice E))(hk:P.cellsOf E=k+1)(hx:aD n e x (.slice A m cap))(hm:m=xs.length)(hc:xs.length≤cap)(hz:aD n e z (.int Wl hi))(hb:pB xs.length 0 hi=true):
  Yd P n base w0 e L ⟨D,.slice T x none (some z) none,t,pos,af,G⟩ (.slice A (xs.take hi.toNat).length cap):=by
 have hb:=Dk hb
 have:=Y.sliceTo (D:=D) (t:=t) (pos:=pos) (af:=af) (G:=G) (base:=base) (w0:=w0) (L:=L) hT hk hx hz ⟨by omega,by omega⟩
 rw[List.length_take,Nat.min_eq_left (by omega)]
 exact this
theorem Y.FY(hT:P.underlying T=some (.slice E))(hk:P.cellsOf E=k+1)(hx:aD n e x (.slice A m cap))(hm:m=xs.length)(hc:xs.length≤cap)(hy:aD n e y (.int kd lo))(hb:pB xs.length lo xs.length=true):
  Yd P n base w0 e L ⟨D,.slice T x (some y) none none,t,pos,af,G⟩ (.slice (kY A cap lo.toNat (k+1)) (xs.drop lo.toNat).length (cap - lo.toNat)):=by
 intro a w ha _
 have hb:=Dk hb
 have h2:lo≤(xs.length:Int):=by omega
 subst hm
 simp only[execOp,hx a ha,Option.map_some,Option.map_none,hy a ha]
 simp[Instr.sliceAt,Instr.slice,Instr.sliceBounds,Instr.sliceBound,asIntOf,run_underlying hT,kw hk,hb.1,h2,kY]
theorem bi.Lt(h:bi enc sz w (.slice A xs.length cap) xs){i:Nat}(hb:i≤xs.length):bi enc sz w (.slice (kY A cap i sz) (xs.drop i).length (cap - i)) (xs.drop i):=by
 have:=h.sub (i:=i) (j:=xs.length) ⟨hb,Nat.le_refl _⟩
 rwa[List.take_length]at this
theorem bi.Dl(h:bi enc sz w (.slice A m cap) xs):xs.length≤cap:=by
 obtain⟨a,c,e,hc,-⟩:=h
 obtain⟨-,-,rfl⟩:A=a∧m=xs.length∧cap=c:=by simpa using e
 exact hc
end
theorem St.aaH{α:Type}{enc:α→List Value}{sz i cap E j:Nat}{A:Option Addr}{xs:List α}(h:St base w0 L w)(hz: ∀a,(enc a).length=sz)(hi:L[i]? =some (cR enc sz A cap E xs)):St base w0 (L.set i (cR enc sz A cap E (xs.take j))) w:=by
 have Ed:(cR enc sz A cap E (xs.take j)).sat w:=by
  have hs:=h.sat _ (List.mem_of_getElem? hi)
  obtain⟨hl,hr⟩:=hs
  refine⟨o_ hz _,?_⟩
  rcases hr with⟨rfl,hm,rfl⟩|⟨g,cur,rfl,hx,rJ,hcm,hcs,ij⟩
  ·exact .inl ⟨rfl,by simp[List.length_eq_zero_iff.1 hm],rfl⟩
  ·refine .inr ⟨g,cur,rfl,hx,by simp;omega,hcm,hcs,?_⟩
   have e1:(xs.take j).flatMap enc=(xs.flatMap enc).take ((xs.take j).length * sz):=by
    have h2:xs.flatMap enc=(xs.take j).flatMap enc++(xs.drop j).flatMap enc:=by rw[←List.flatMap_append,List.take_append_drop]
    rw[h2,←o_ hz,List.take_left]
   rw[e1,←ij,List.take_take,Nat.min_eq_left (Nat.mul_le_mul_right _ (by simp;omega))]
 exact h.OC hi rfl rfl rfl (Nat.le_refl _) (fun _ _ _=>rfl) Ed (by cases A<;>simp[eR,Chunk.one]) (fun b hb=> .inl hb)
theorem Y.ad8{α:Type}{enc:α→List Value}{sz k i cap E E' T m:Nat}{A:Option Addr}{xs:List α}{kd:IntKind}{hi':Int}(hT:P.underlying T=some (.slice E))(hk:P.cellsOf E=k+1)(hi:L[i]? =some (cR enc sz A cap E' xs))(hx:aD n e x (.slice A m cap))(hm:m=xs.length)(hz:aD n e z (.int kd hi'))(hb:pB xs.length 0 hi'=true):
  Yd P n base w0 e L ⟨D,.slice T x none (some z) none,t,pos,af,G⟩ (.slice A (xs.take hi'.toNat).length cap):=by
 intro a w ha hw
 exact Y.ad7 hT hk hx hm (hw.iA hi).1 hz hb a w ha hw
theorem Y.Lu{α:Type}{enc:α→List Value}{sz k i cap E E' T m:Nat}{A:Option Addr}{xs:List α}{kd:IntKind}{hi':Int}(hT:P.underlying T=some (.slice E))(hk:P.cellsOf E=k+1)(hi:L[i]? =some (cR enc sz A cap E' xs))(hx:aD n e x (.slice A m cap))(hm:m=xs.length)(hz:aD n e z (.int kd hi'))(hb:pB xs.length 0 hi'=true):
  Yd P n base w0 e L ⟨D,.slice T x none (some z) none,t,pos,af,G⟩ (.slice A (xs.take hi'.toNat).length cap):=Y.ad8 hT hk hi hx hm hz hb
theorem Y.SU{α:Type}{enc:α→List Value}{sz k i cap E E' T m:Nat}{A:Option Addr}{xs:List α}{kd:IntKind}{lo:Int}(hT:P.underlying T=some (.slice E))(hk:P.cellsOf E=k+1)(hi:L[i]? =some (cR enc sz A cap E' xs))(hx:aD n e x (.slice A m cap))(hm:m=xs.length)(hy:aD n e y (.int kd lo))(hb:pB xs.length lo xs.length=true):
  Yd P n base w0 e L ⟨D,.slice T x (some y) none none,t,pos,af,G⟩ (.slice (kY A cap lo.toNat (k+1)) (xs.drop lo.toNat).length (cap - lo.toNat)):=by
 intro a w ha hw
 exact Y.FY hT hk hx hm (hw.iA hi).1 hy hb a w ha hw
section
variable {α:Type} {enc:α→List Value} {sz:Nat} {A:Option Addr} {cap m k E T T':Nat} {xs ys:List α} {kd:IntKind} {idx:Int}
def ak3{α:Type}(n:Nat)(d:α)(a:List α):List α:=(List.range n).map fun i=>a.getD i d
variable {K:Act→World→Prop}
theorem WO.SV{t E size bytes i c cap m m2:Nat}{A:Option Addr}{ty:TypeId}{ad:Addr}(hT:P.underlying t=some (.slice E))(hz: ∃i z,P.info? E=some i∧i.zero=some z∧i.size=size∧i.bytes=bytes∧z.cells.size=size∧0 < size)
  (wh: ∀a,(enc a).length=size)(h1: ∀a,∀u∈enc a,u.oneCell'=true)
  (hx:aD n e x (.slice A m2 cap))(hm:m2=xs.length)(hy:aD n e y (.slice (some ad) m c))(hi:L[i]? =some (cR enc size A cap E xs))(hs: ∀w,St base w0 L w→bi enc size w (.slice (some ad) m c) ys)(hb:eY bytes (xs.length+ys.length)=true)(hd:Nat.blt d n=true)
  (h: ∀A' cap',KK n base w0 ((d,.slice A' (xs++ys).length cap')::e) (L.set i (cR enc size A' cap' E (xs++ys))) K):
  WO P ops n base w0 e L ⟨some d,.call {callee:= .builtin .append,args:= #[x,y],argTypes:= #[t,t]},ty,pos,af,none⟩ K Q:=by
 intro a w ha hw
 subst hm
 have hs0:=hs w hw
 have hml:m=ys.length:=by
  obtain⟨a',c',e',-,-⟩:=hs0
  simpa using(by simpa using e':some ad=a'∧m=ys.length∧c=c').2.1
 subst hml
 obtain⟨hb1,hb2⟩:=Lo hb
 refine WO.append (news:=ys.flatMap enc) hT hz hx hy hi (o_ wh ys) (fun w hw j u hj=>?_) (fun u hu=>?_) hb1 hb2 hd (fun A' cap'=>?_) a w ha hw
 ·have hjl:j < ys.length * size:=by rw[←o_ wh ys];exact(List.getElem?_eq_some_iff.1 hj).1
  have hpos:0 < size:=by obtain⟨_,_,_,_,_,_,_,h⟩:=hz;exact h
  have hq:j / size < ys.length:=(Nat.div_lt_iff_lt_mul hpos).2 hjl
  have hr:j % size < size:=Nat.mod_lt _ hpos
  have e1:j=j / size * size+j % size:=by rw[Nat.mul_comm];exact(Nat.div_add_mod j size).symm
  rw[e1,uQ wh ys _ _ hq hr]at hj
  have hok:=(hs w hw).Lq (idx:=((j / size:Nat):Int)) ⟨Int.natCast_nonneg _,Int.ofNat_lt.2 hq⟩
  have:=(hs w hw).cells (List.getElem?_eq_getElem hq) hj
  rw[←e1]at this
  obtain⟨b,o,s⟩:=ad
  obtain rfl:s=none:=hok.2 _ rfl
  rw[eX]
  simpa[dr]using this
 ·obtain⟨a,_,ha⟩:=List.mem_flatMap.1 hu
  exact h1 a u ha
 ·have:=h A' cap'
  simpa[cR,List.flatMap_append]using this
end
theorem Wo{T E:TypeId}{A:Option Addr}{m c:Nat}(hT:P.underlying T=some (.slice E))(w:World)(dp:Nat):(Op.equalIn (dp+1) T (.slice A m c) (.slice none 0 0)).run P w= .ok A.isNone w:=by
 unfold Op.equalIn
 rw[Sem.run_bind,run_underlying hT]
 cases A<;>rfl
theorem Y.aaI{T E:TypeId}{A:Option Addr}{m c:Nat}{ty:TypeId}(hT:P.underlying T=some (.slice E))(hx:aD n e x (.slice A m c)):Yd P n base w0 e L ⟨D,.binOp .eql T x (.const (.slice none 0 0)) ty,t,pos,af,G⟩ (.bool A.isNone):=by
 intro a w ha _
 have:=Wo (P:=P) (A:=A) (m:=m) (c:=c) hT w 9999
 simp[execOp,hx a ha,o0,eqGuard,binOp,Op.equal,Op.maxDepth,this]
def Dm(tmps:Array Value):ResultVar→Sem Value
 | .tmp t=>pure (tmps.getD t undef)
 | .cell a t=>do loadVar t (←asAddr (tmps.getD a undef))
def Rv(P:Program)(n:Nat)(base:Nat)(w0:World)(e:Env)(L:List Chunk)(r:ResultVar)(v:Value):Prop:=∀a w,Fits n e a→St base w0 L w→(Dm a.tmps r).run P w= .ok v w
def Ib(P:Program)(n:Nat)(base:Nat)(w0:World)(e:Env)(L:List Chunk):List ResultVar→List Value→Prop
 | [],[]=>True
 |r::rs,v::vs=>Rv P n base w0 e L r v∧Ib P n base w0 e L rs vs
 |_,_=>False
theorem Rv.tmp{s:Tmp}(h:e.get? s=some v):Rv P n base w0 e L (.tmp s) v:=by
 intro a w ha _
 have:=ha.get s v h
 show(pure (a.tmps.getD s undef):Sem Value).run P w=_
 rw[this];rfl
theorem Rv.ag4{p:Tmp}{ty k b i T':Nat}{dT:TypeDesc}{cs:List Value}(hT:P.underlying ty=some dT)(hd:xG dT=true)(hk:P.cellsOf ty=k+1)(hp:e.get? p=some (.pointer (some ⟨b,0,none⟩)))(hi:L[i]? =some (aw b T' cs))(hc:cs.length=k+1):Rv P n base w0 e L (.cell p ty) (.agg cs.toArray):=by
 intro a w ha hw
 have h1:(loadCells ⟨b,0,none⟩ cs.length).run P w= .ok cs.toArray w:=run_loadCells_list w ⟨b,0,none⟩ cs (fun j v hj=>by rw[eX,Nat.zero_add];exact Oc hw hi hj)
 rw[hc]at h1
 have hg':a.tmps[p]?.getD undef= .pointer (some ⟨b,0,none⟩):=by simpa using ha.get p _ hp
 simp[Dm,hg',asAddr,loadVar,zp hT hd,kw hk,h1]
theorem Rv.cell{p:Tmp}{ty b i T':Nat}{dT:TypeDesc}{cs:List Value}(hT:P.underlying ty=some dT)(hd:fx dT=true)(hp:e.get? p=some (.pointer (some ⟨b,0,none⟩)))(hi:L[i]? =some (aw b T' cs))(hc:cs[0]? =some v):Rv P n base w0 e L (.cell p ty) v:=by
 intro a w ha hw
 have hg':a.tmps[p]?.getD undef= .pointer (some ⟨b,0,none⟩):=by simpa using ha.get p _ hp
 simp[Dm,hg',asAddr,loadVar,run_isAgg_plain hT hd,Oc hw hi hc]
def JO(P:Program)(w:World)(tmps:Array Value):List ResultVar→List Value→Prop
 | [],[]=>True
 |r::rs,v::vs=>(Dm tmps r).run P w= .ok v w∧JO P w tmps rs vs
 |_,_=>False
theorem JP{P:Program}{w:World}(tmps:Array Value): ∀(rs:List ResultVar) (vs:List Value),JO P w tmps rs vs→(rs.mapM (Dm tmps)).run P w= .ok vs w
 | [],[],_=>by simp
 |r::rs,v::vs,h=>by
  have ih:=JP tmps rs vs h.2
  rw[List.mapM_cons,Sem.run_bind,h.1,Result.andThen_ok,Sem.run_bind,ih,Result.andThen_ok,Sem.run_pure]
 | [],_::_,h=>h.elim
 |_::_,[],h=>h.elim
theorem UN(fn:Func)(tmps:Array Value):results fn tmps=(do let vs ←fn.results.mapM (Dm tmps);pure (if h:vs.size=1 then vs[0]else .tuple vs)):=by
 unfold results
 congr 1
theorem Ic{P:Program}{w:World}{fn:Func}{rs:List ResultVar}{vs:List Value}{tmps:Array Value}(hr:fn.results=rs.toArray)(h:JO P w tmps rs vs):
  (results fn tmps).run P w= .ok (if h:vs.toArray.size=1 then vs.toArray[0]else .tuple vs.toArray) w:=by
 rw[UN,hr,List.mapM_toArray,Sem.run_bind,map_eq_pure_bind,Sem.run_bind,JP tmps rs vs h]
 simp
theorem FZ{a:Act}{w:World}(ha:Fits n e a)(hw:St base w0 L w): ∀{rs:List ResultVar} {vs:List Value},Ib P n base w0 e L rs vs→JO P w a.tmps rs vs
 | [],[],_=>trivial
 |r::rs,v::vs,h=>⟨h.1 a w ha hw,FZ ha hw h.2⟩
 | [],_::_,h=>h.elim
 |_::_,[],h=>h.elim
def zu:List Value→Value
 | [v]=>v
 |vs=> .tuple vs.toArray
theorem SW(vs:List Value):(if h:vs.toArray.size=1 then vs.toArray[0]else .tuple vs.toArray)=zu vs:=by
 match vs with
 | []=>rfl
 | [v]=>rfl
 |v::u::r=>rfl
theorem W.lr{fn:Func}{R:Ending→World→Prop}{rs:List ResultVar}{vs:List Value}(hr:fn.results=rs.toArray)(hv:Ib P n base w0 e L rs vs)(hQ: ∀a w,bodyPost P fn R .ret a w→Q .ret a w)(h: ∀w,St base w0 L w→R (.returned (zu vs)) w):W P n base w0 e L .ret Q:=
 fun a w ha hw=>wp_ret (hQ a w ⟨ha.defers,_,by rw[Ic hr (FZ ha hw hv),SW],h w hw⟩)
theorem W.fI{fn:Func}{R:Ending→World→Prop}{rs:List ResultVar}{vs:List Value}(hr:fn.results=rs.toArray)(hv:Ib P n base w0 e L rs vs)(hQ: ∀a w,bodyPost P fn R .normal a w→Q .normal a w)(h: ∀w,St base w0 L w→R (.returned (zu vs)) w): ∀a w,Fits n e a→St base w0 L w→Q .normal a w:=
 fun a w ha hw=>hQ a w ⟨ha.defers,_,by rw[Ic hr (FZ ha hw hv),SW],h w hw⟩
end Go.Proofs.YtjdkkabcenohcaaGreatDoor
