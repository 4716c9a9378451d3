import Derived.Test.YtjdkkabcenohcaaGreatDoorBor
import Derived.LaidEqlPtr
set_option linter.unusedVariables false
set_option linter.unusedSimpArgs false
set_option linter.unusedSectionVars false
namespace Go.Proofs.YtjdkkabcenohcaaGreatDoor
open Go.RowKit
variable {P:Program} {n:Nat} {base:Nat} {w0 w:World} {L:List Chunk} {e:Env}
variable {ops rest:List Oper} {Q:Exit→Act→World→Prop} {d:Nat} {D:Option Tmp} {op:Op} {t:TypeId} {pos:String} {af:Array Edge} {G:Option (Nat×Bool)} {v u:Value} {x y z:Operand} {K:Act→World→Prop}
def bP(bs:List Nat):Int→Option Addr
 | .ofNat k=>some ⟨bs.getD k 0,0,none⟩
 | .negSucc _=>none
theorem qS{bs:List Nat}{p:Int}(h:0≤p):bP bs p=some ⟨bs.getD p.toNat 0,0,none⟩:=by
 cases p with
 |ofNat k=>rfl
 |negSucc k=>omega
theorem vw{bs:List Nat}{p:Int}(h:p < 0):bP bs p=none:=by
 cases p with
 |ofNat k=>exact absurd h (by simp)
 |negSucc k=>rfl
def vp(n:Nat)(p:Int):Bool:=decide (-1≤p)&&decide (p < n)
theorem jx{n:Nat}{p:Int}:vp n p=true↔ -1≤p∧p < n:=by simp[vp]
theorem X0{α:Type}{f:α→Bool}{xs:List α}(h:xs.all f=true): ∀x∈xs,f x=true:=fun x hx=>List.all_eq_true.1 h x hx
theorem sW{bs:List Nat}{m:Nat}{p:Int}(hl:bs.length=m)(h:vp m p=true)(b:Nat):bP (bs++[b]) p=bP bs p:=by
 obtain⟨h1,h2⟩:=jx.1 h
 by_cases g:p < 0
 ·rw[vw g,vw g]
 ·rw[qS (Int.not_lt.1 g),qS (Int.not_lt.1 g)]
  have:(bs++[b]).getD p.toNat 0=bs.getD p.toNat 0:=by
   rw[List.getD_eq_getElem?_getD,List.getD_eq_getElem?_getD,List.getElem?_append_left (by omega)]
  rw[this]
theorem aaf{bs:List Nat}{m:Nat}(hl:bs.length=m)(b:Nat):bP (bs++[b]) ((m:Nat):Int)=some ⟨b,0,none⟩:=by
 subst hl
 rw[qS (by omega)]
 simp
def gZ{α:Type}(enc:α→List Value)(T:TypeId)(bs:List Nat)(xs:List α):Chunk:=
 nB (cF (bs.length=xs.length)::(List.zip bs xs).map fun p=>aw p.1 T (enc p.2))
section
variable {α:Type} {enc:α→List Value} {T':TypeId} {bs:List Nat} {xs:List α} {a:α} {p q:Int} {i:Nat}
theorem RC: ∀{bs:List Nat} {xs:List α},bs.length=xs.length→owns ((List.zip bs xs).map fun p=>aw p.1 T' (enc p.2))=bs
 | [],[],_=>rfl
 |b::bs,x::xs,h=>by
  have ih:=RC (bs:=bs) (xs:=xs) (by simpa using h)
  simp only[List.zip_cons_cons,List.map_cons,m9,ih]
  rfl
 | [],_::_,h=>by simp at h
 |_::_,[],h=>by simp at h
theorem Js(h:St base w0 L w)(hi:L[i]? =some (gZ enc T' bs xs)):bs.length=xs.length∧bs.Nodup:=by
 have hm:=List.mem_of_getElem? hi
 have hs:=h.sat _ hm
 have hl:bs.length=xs.length:=hs (cF _) (by simp)
 refine⟨hl,?_⟩
 have h1:owns [gZ enc T' bs xs]=bs:=by
  have:owns [gZ enc T' bs xs]=owns (cF (bs.length=xs.length)::(List.zip bs xs).map fun p=>aw p.1 T' (enc p.2)):=by simp[owns,gZ,nB]
  rw[this,m9,RC hl];rfl
 rw[←h1]
 obtain⟨X,Y,rfl⟩:=List.append_of_mem hm
 have:=h.nodup
 rw[jf,m9]at this
 have h2:=(List.nodup_append.1 (List.nodup_append.1 this).2.1).1
 simpa[owns]using h2
theorem RD(h:St base w0 L w)(hi:L[i]? =some (gZ enc T' bs xs)){k:Nat}(ha:xs[k]? =some a):w.heap[bs.getD k 0]? =some (.cells (enc a).toArray T' (0,0)):=by
 have hs:=h.sat _ (List.mem_of_getElem? hi)
 have hl:bs.length=xs.length:=hs (cF _) (by simp)
 obtain⟨hk,rfl⟩:=List.getElem?_eq_some_iff.1 ha
 have hc:aw (bs.getD k 0) T' (enc xs[k])∈(List.zip bs xs).map fun p=>aw p.1 T' (enc p.2):=by
  refine List.mem_map.2 ⟨(bs[k]'(by omega),xs[k]),?_,by rw[aW (show k < bs.length by omega)]⟩
  rw[List.mem_iff_getElem]
  exact⟨k,by simp;omega,by simp⟩
 exact hs _ (List.mem_cons_of_mem _ hc)
theorem Y.qo(h:0≤p)(hx:aD n e x (.pointer (bP bs p))):Yd P n base w0 e L ⟨D,.nilCheck x,t,pos,af,G⟩ (.pointer (some ⟨bs.getD p.toNat 0,0,none⟩)):=by
 rw[qS h]at hx
 exact Y.nilCheck hx
theorem Y.HV{T off:Nat}{dT:TypeDesc}(hT:P.underlying T=some dT)(hd:fx dT=true)(hx:aD n e x (.pointer (some ⟨bs.getD p.toNat 0,off,none⟩)))(hi:L[i]? =some (gZ enc T' bs xs))(ha:xs[p.toNat]? =some a)(hv:(enc a)[off]? =some v):
  Yd P n base w0 e L ⟨D,.load T x,t,pos,af,G⟩ v:=
 Y.load hT hd hx fun w hw=>g_ (RD hw hi ha) (by simpa using hv)
theorem NA: ∀{bs:List Nat} {xs:List α} {k:Nat},bs.length=xs.length→k < xs.length→((List.zip bs xs).map fun p=>aw p.1 T' (enc p.2))[k]? =some (aw (bs.getD k 0) T' (enc (xs.getD k a)))
 |b::bs,x::xs,0,_,_=>rfl
 |b::bs,x::xs,k+1,h,hk=>by
  have:=NA (bs:=bs) (xs:=xs) (k:=k) (by simpa using h) (by simpa using hk)
  simpa using this
 | [],_::_,_,h,_=>by simp at h
 |_,[],_,_,h=>by simp at h
theorem Ul: ∀{bs:List Nat} {xs:List α} {k:Nat} (a:α),bs.length=xs.length→k < xs.length→((List.zip bs xs).map fun p=>aw p.1 T' (enc p.2)).set k (aw (bs.getD k 0) T' (enc a))=(List.zip bs (xs.set k a)).map fun p=>aw p.1 T' (enc p.2)
 |b::bs,x::xs,0,a,_,_=>rfl
 |b::bs,x::xs,k+1,a,h,hk=>by
  have:=Ul (bs:=bs) (xs:=xs) (k:=k) a (by simpa using h) (by simpa using hk)
  simp only[List.zip_cons_cons,List.map_cons,List.set_cons_succ,List.getD_cons_succ,this]
 | [],_::_,_,_,h,_=>by simp at h
 |_,[],_,_,_,h=>by simp at h
theorem adn{c0:Chunk}(hi:L[i]? =some c0)(c:Chunk):cp (c::L.eraseIdx i) (L.set i c):=by
 have h1:(L.set i c)[i]? =some c:=by
  have:=(List.getElem?_eq_some_iff.1 hi).1
  simp[this]
 have h2:=JQ h1
 have h3:(L.set i c).eraseIdx i=L.eraseIdx i:=List.eraseIdx_set_eq
 rw[h3]at h2
 exact .perm h2.symm
theorem WO.X1{T off:Nat}{a':α}(hc:P.cellsOf T=1)(hx:aD n e x (.pointer (some ⟨bs.getD p.toNat 0,off,none⟩)))(hy:aD n e y v)(hv:v.oneCell'=true)
  (hi:L[i]? =some (gZ enc T' bs xs))(ha:xs[p.toNat]? =some a)(hk:off < (enc a).length)(hs:(enc a).set off v=enc a')(h:KK n base w0 e (L.set i (gZ enc T' bs (xs.set p.toNat a'))) K):
  WO P ops n base w0 e L ⟨none,.store T x y,t,pos,af,none⟩ K Q:=by
 intro ac w hac hw
 have hl:=(Js hw hi).1
 obtain⟨hkx,rfl⟩:=List.getElem?_eq_some_iff.1 ha
 have hw1:=(cp.trans (.head hi) .Hp).at _ _ _ hw
 have hsp:=NA (T':=T') (enc:=enc) (a:=xs[p.toNat]) hl hkx
 rw[aW hkx]at hsp
 have hlz:p.toNat < ((List.zip bs xs).map fun p=>aw p.1 T' (enc p.2)).length:=(List.getElem?_eq_some_iff.1 hsp).1
 refine(WO.dC (ops:=ops) (Q:=Q) (K:=K) (i:=p.toNat+1) hc hx hy hv (b:=bs.getD p.toNat 0) (cs:=enc xs[p.toNat]) (cs':=enc a') (E:=T') ?_ hk hs ?_) ac w hac hw1
 ·rw[List.cons_append,List.getElem?_cons_succ,List.getElem?_append_left hlz];exact hsp
 ·rw[List.cons_append,List.set_cons_succ,List.set_append_left _ _ hlz,Ul a' hl hkx]
  have hl2:bs.length=(xs.set p.toNat a').length:=by rw[List.length_set];exact hl
  refine KK.AX (L':=L.set i (gZ enc T' bs (xs.set p.toNat a'))) ?_ h
  refine .trans (M:=(cF (bs.length=(xs.set p.toNat a').length)::(List.zip bs (xs.set p.toNat a')).map fun p=>aw p.1 T' (enc p.2))++L.eraseIdx i) ?_ (.trans .AW (adn hi _))
  exact .trans (.drop (M:=[cF _])) (.fact hl2)
theorem RE{T E:TypeId}{j:TypeInfo}(hT:P.underlying T=some (.pointer E))(hte:P.info? E=some j)(hsz:j.size≠0)(h:St base w0 L w)(hi:L[i]? =some (gZ enc T' bs xs))(hp:vp xs.length p=true)(hq:vp xs.length q=true)(dp:Nat):
  (Op.equalIn (dp+1) T (.pointer (bP bs p)) (.pointer (bP bs q))).run P w= .ok (decide (p=q)) w:=by
 obtain⟨hl,hn⟩:=Js h hi
 obtain⟨p1,p2⟩:=jx.1 hp
 obtain⟨q1,q2⟩:=jx.1 hq
 by_cases g:p < 0<;>by_cases g2:q < 0
 ·rw[vw g,vw g2,decide_eq_true (show p=q by omega)]
  simp[Op.equalIn,run_underlying hT]
 ·rw[vw g,qS (Int.not_lt.1 g2),decide_eq_false (show p≠q by omega)]
  simp[Op.equalIn,run_underlying hT]
 ·rw[qS (Int.not_lt.1 g),vw g2,decide_eq_false (show p≠q by omega)]
  simp[Op.equalIn,run_underlying hT]
 ·rw[qS (Int.not_lt.1 g),qS (Int.not_lt.1 g2)]
  by_cases e1:p=q
  ·subst e1
   simp[Op.equalIn,run_underlying hT,sizeOf,typeInfo,hte,hsz,run_sameAddr_same]
  ·have b1:=RD h hi (List.getElem?_eq_getElem (show p.toNat < xs.length by omega))
   have b2:=RD h hi (List.getElem?_eq_getElem (show q.toNat < xs.length by omega))
   have hne:(⟨bs.getD p.toNat 0,0,none⟩:Addr)≠⟨bs.getD q.toNat 0,0,none⟩:=by
    intro e2
    have e2:=congrArg Addr.block e2
    simp only at e2
    rw[aW (show p.toNat < bs.length by omega),aW (show q.toNat < bs.length by omega)]at e2
    have:=(List.getElem_inj hn).1 e2
    omega
   rw[decide_eq_false e1]
   generalize bs.getD p.toNat 0=A at b1 hne⊢
   generalize bs.getD q.toNat 0=B at b2 hne⊢
   simp[Op.equalIn,run_underlying hT,sizeOf,typeInfo,hte,hsz,run_sameAddr_other w hne b1 b2]
theorem Y.MA{T E:TypeId}{sz:Nat}{z:Value}{ty:TypeId}(hT:P.underlying T=some (.pointer E))(hte: ∃j,P.info? E=some j∧j.zero=some z∧j.size=sz)(hsz:sz≠0)(hx:aD n e x (.pointer (bP bs p)))(hy:aD n e y (.pointer (bP bs q)))(hp:vp xs.length p=true)(hq:vp xs.length q=true)(hi:L[i]? =some (gZ enc T' bs xs)):Yd P n base w0 e L ⟨D,.binOp .eql T x y ty,t,pos,af,G⟩ (.bool (decide (p=q))):=by
 intro a w ha hw
 obtain⟨j,hj,_,hj2⟩:=hte
 have:=RE hT hj (by rw[hj2];exact hsz) hw hi hp hq 9999
 simp[execOp,hx a ha,hy a ha,eqGuard,binOp,Op.equal,Op.maxDepth,this]
theorem Y.agc{T E:TypeId}{sz:Nat}{z:Value}{ty:TypeId}(hT:P.underlying T=some (.pointer E))(hte: ∃j,P.info? E=some j∧j.zero=some z∧j.size=sz)(hsz:sz≠0)(hx:aD n e x (.pointer (bP bs p)))(hy:aD n e y (.pointer (bP bs q)))(hp:vp xs.length p=true)(hq:vp xs.length q=true)(hi:L[i]? =some (gZ enc T' bs xs)):Yd P n base w0 e L ⟨D,.binOp .neq T x y ty,t,pos,af,G⟩ (.bool (!(decide (p=q)))):=by
 intro a w ha hw
 obtain⟨j,hj,_,hj2⟩:=hte
 have:=RE hT hj (by rw[hj2];exact hsz) hw hi hp hq 9999
 simp[execOp,hx a ha,hy a ha,eqGuard,binOp,Op.equal,Op.maxDepth,this]
theorem K_{bs:List Nat}{p:Int}:(bP bs p).isNone=decide (p < 0):=by
 by_cases g:p < 0
 ·rw[vw g,decide_eq_true g];rfl
 ·rw[qS (Int.not_lt.1 g),decide_eq_false (by omega)];rfl
theorem Ix{T E:TypeId}(hT:P.underlying T=some (.pointer E))(o:Option Addr)(w:World)(dp:Nat):(Op.equalIn (dp+1) T (.pointer o) (.pointer none)).run P w= .ok o.isNone w:=by
 cases o<;>simp[Op.equalIn,run_underlying hT]
theorem Y.VY{T E:TypeId}{ty:TypeId}(hT:P.underlying T=some (.pointer E))(hx:aD n e x (.pointer (bP bs p))):Yd P n base w0 e L ⟨D,.binOp .eql T x (.const (.pointer none)) ty,t,pos,af,G⟩ (.bool (decide (p < 0))):=by
 intro a w ha _
 have:=Ix (P:=P) hT (bP bs p) w 9999
 rw[K_]at this
 simp[execOp,hx a ha,o0,eqGuard,binOp,Op.equal,Op.maxDepth,this]
theorem Y.ahK{T E:TypeId}{ty:TypeId}(hT:P.underlying T=some (.pointer E))(hx:aD n e x (.pointer (bP bs p))):Yd P n base w0 e L ⟨D,.binOp .neq T x (.const (.pointer none)) ty,t,pos,af,G⟩ (.bool (!(decide (p < 0)))):=by
 intro a w ha _
 have:=Ix (P:=P) hT (bP bs p) w 9999
 rw[K_]at this
 simp[execOp,hx a ha,o0,eqGuard,binOp,Op.equal,Op.maxDepth,this]
theorem cp.ahL{b:Nat}{cs:List Value}{R R':List Chunk}(hcs:cs=enc a)(hR:R=R'):cp (aw b T' cs::R) (gZ enc T' [b] [a]::R'):=by
 subst hcs;subst hR
 exact .trans (.fact (p:=([b]:List Nat).length= [a].length) rfl) (.AW (M:=[cF _,aw b T' (enc a)]))
theorem RF: ∀{bs:List Nat} {xs:List α} {enc':α→List Value} (b:Nat) (a:α),bs.length=xs.length→(∀x∈xs,enc x=enc' x)→((List.zip bs xs).map fun p=>aw p.1 T' (enc p.2))++[aw b T' (enc' a)]=(List.zip (bs++[b]) (xs++[a])).map fun p=>aw p.1 T' (enc' p.2)
 | [],[],_,_,_,_,_=>rfl
 |b'::bs,x::xs,enc',b,a,h,hx=>by
  have ih:=RF (enc':=enc') (bs:=bs) (xs:=xs) b a (by simpa using h) fun x h=>hx x (List.mem_cons_of_mem _ h)
  simp only[List.cons_append,List.zip_cons_cons,List.map_cons,ih,hx x (List.mem_cons_self ..)]
 | [],_::_,_,_,_,h,_=>by simp at h
 |_::_,[],_,_,_,h,_=>by simp at h
theorem cp.ado{enc':α→List Value}{b:Nat}{cs:List Value}{R R':List Chunk}(hl:bs.length=xs.length)(hx: ∀x∈xs,enc x=enc' x)(hcs:cs=enc' a)(hR:R=R'):cp (aw b T' cs::gZ enc T' bs xs::R) (gZ enc' T' (bs++[b]) (xs++[a])::R'):=by
 subst hcs;subst hR
 have h1:cp (aw b T' (enc' a)::gZ enc T' bs xs::R) ((cF (bs.length=xs.length)::(List.zip bs xs).map fun p=>aw p.1 T' (enc p.2))++(aw b T' (enc' a)::R)):=
  .trans (.perm (.swap ..)) .Hp
 refine .trans h1 (.trans (M:=(cF ((bs++[b]).length=(xs++[a]).length)::(List.zip (bs++[b]) (xs++[a])).map fun p=>aw p.1 T' (enc' p.2))++R) ?_ .AW)
 rw[←RF b a hl hx]
 refine .trans (.drop (M:=[cF _])) ?_
 refine .trans (.fact (p:=(bs++[b]).length=(xs++[a]).length) (by simp[hl])) ?_
 refine .perm ?_
 simp
end
theorem NB{η α:Type}{enc enc':η→α→List Value}: ∀{hs:List η} {xs:List α},(∀h,∀x∈xs,enc h x=enc' h x)→ga enc hs xs=ga enc' hs xs
 | [],_,_=>rfl
 |_::_,[],_=>rfl
 |h::hs,x::xs,H=>by
  have ih:=NB (hs:=hs) (xs:=xs) fun h x hx=>H h x (List.mem_cons_of_mem _ hx)
  simp only[ga,List.zip_cons_cons,List.flatMap_cons]at ih⊢
  rw[ih,H h x (List.mem_cons_self ..)]
theorem adp{η α:Type}{enc enc':η→α→List Value}{bN:η→α→List Chunk}{sz cap E:Nat}{A:Option Addr}{hs:List η}{xs:List α}(H: ∀h,∀x∈xs,enc h x=enc' h x):cN enc bN sz A cap E hs xs=cN enc' bN sz A cap E hs xs:=by
 unfold cN;rw[NB H]
theorem W.AX{c:Code}{L':List Chunk}(h:cp L L')(k:W P n base w0 e L' c Q):W P n base w0 e L c Q:=fun a w ha hw=>k a w ha (h.at _ _ _ hw)
end Go.Proofs.YtjdkkabcenohcaaGreatDoor
