import Derived.Test.YtjdkkabcenohcaaGreatDoorView
import Derived.Test.YtjdkkabcenohcaaGreatDoorOpen
import Derived.Test.YtjdkkabcenohcaaGreatDoorPl
import Derived.Lib.AppendZeros
set_option linter.unusedVariables false
set_option linter.unusedSimpArgs false
set_option linter.unusedSectionVars false
namespace Go.Proofs.YtjdkkabcenohcaaGreatDoor
open Go.ChangeShapes Go.WideShapes Go.ChangeAt Go.RowKit
variable {P:Program} {n:Nat} {base:Nat} {w0 w:World} {L:List Chunk} {e:Env}
variable {ops rest:List Oper} {Q:Exit→Act→World→Prop} {d:Nat} {D:Option Tmp} {op:Op} {t:TypeId} {pos:String} {af:Array Edge} {G:Option (Nat×Bool)} {v u:Value} {x y z:Operand}
section
variable {α:Type} {enc:α→List Value} {sz cap m p:Nat} {A:Option Addr} {hs:List Hd} {xs:List (List α)} {a:List α} {kd:IntKind} {idx:Int} {E T:Nat}
structure nC(enc:α→List Value)(sz:Nat)(w:World)(A:Option Addr)(cap:Nat)(hs:List Hd)(xs:List (List α)):Prop where
 Dl:xs.length≤cap
 out: ∀i a,xs[i]? =some a→xk A∧w.cell? (dr A i)=some (.slice (hs.getD i (none,0)).1 a.length (hs.getD i (none,0)).2)
 bN: ∀i a,xs[i]? =some a→bi enc sz w (.slice (hs.getD i (none,0)).1 a.length (hs.getD i (none,0)).2) a
theorem nC.mono{w':World}(h:nC enc sz w A cap hs xs)(hw:St w.heap.size w L w'):nC enc sz w' A cap hs xs:=
 ⟨h.Dl,fun i a ha=>⟨(h.out i a ha).1,hw.JD (h.out i a ha).2⟩,fun i a ha=>(h.bN i a ha).mono hw⟩
theorem nC.ad4:nC enc sz w none 0 [] ([]:List (List α)):=⟨Nat.le_refl _,fun i a h=>by simp at h,fun i a h=>by simp at h⟩
theorem nC.at(h:nC enc sz w A cap hs xs)(ha:ix xs idx=some a):bi enc sz w (.slice (hs.getD idx.toNat (none,0)).1 a.length (hs.getD idx.toNat (none,0)).2) a:=h.bN _ _ (aI ha)
theorem Y.CQ{wq:World}(hT:P.underlying T=some (.slice E))(hk:P.cellsOf E=0+1)(h:nC enc sz wq A cap hs xs)(hx:aD n e x (.slice A xs.length cap))(hy:aD n e y (.int kd idx))(hb:0≤idx∧idx < xs.length):
  Yd P n base w0 e L ⟨D,.indexAddr T x y,t,pos,af,G⟩ (.pointer (some (dr A (idx.toNat * (0+1))))):=
 Y.Cd hT hk hx hy hb (h.out idx.toNat xs[idx.toNat] (List.getElem?_eq_getElem (by omega))).1
theorem Y.ur{dT:TypeDesc}(hT:P.underlying T=some dT)(hd:fx dT=true)(h:nC enc sz w0 A cap hs xs)(hx:aD n e x (.pointer (some (dr A p))))(ha:ix xs idx=some a)(hp:p=idx.toNat * (0+1)):
  Yd P n w0.heap.size w0 e L ⟨D,.load T x,t,pos,af,G⟩ (.slice (hs.getD idx.toNat (none,0)).1 a.length (hs.getD idx.toNat (none,0)).2):=
 Y.load hT hd hx (fun w hw=>by subst hp;rw[Nat.zero_add,Nat.mul_one];exact hw.JD (h.out _ _ (aI ha)).2)
end
section
variable {η α:Type} {enc:η→α→List Value} {bN:η→α→List Chunk} {sz:Nat} {A:Option Addr} {cap m k i p E T T':Nat} {hs:List η} {xs:List α} {a:α} {h0:η} {idx:Int}
theorem dD{q:η→α→Prop}(hw:St base w0 L w)(hi:L[i]? =some (cN enc bN sz A cap E hs xs))(hc: ∀h a,cF (q h a)∈bN h a): ∀j a,xs[j]? =some a→q (hs.getD j h0) a:=fun j a ha=>
 (SX (h0:=h0) hw hi ha (hc _ _)).sat (cF _) (by simp)
theorem nD(h:St base w0 L w)(hi:L[i]? =some (cN enc bN sz A cap E hs xs)):0 < xs.length→xk A:=fun hb=>Og (idx:=0) h hi ⟨Int.le_refl _,by omega⟩
theorem Y.cZ{T i off ft k m:Nat}{fs:Array Field}{j:Nat}{A:Option Addr}(hT:P.underlying T=some (.struct fs))(hf:pO P fs i off ft)(hk:P.cellsOf ft=k+1)(hok:0 < m→xk A)(hb:0 < m)(hx:aD n e x (.pointer (some (dr A j)))):
  Yd P n base w0 e L ⟨D,.fieldAddr T x i,t,pos,af,G⟩ (.pointer (some (dr A (j+off)))):=Y.wc hT hf hk (hok hb).1 hx
theorem WL.dB{F:Prop}(hF: ∀w,St base w0 L w→F)(h:F→WL P ops n base w0 e L rest Q):WL P ops n base w0 e L rest Q:=fun a w ha hw=>h (hF w hw) a w ha hw
variable {K:Act→World→Prop}
theorem F2{β:Type}{f:β→List Value}{sz:Nat}(hz: ∀a,(f a).length=sz): ∀(xs:List β) (i j:Nat) (a a':β) (ds:List Value),xs[i]? =some a→j+ds.length≤sz→putAt (f a) j ds=f a'→putAt (xs.flatMap f) (i * sz+j) ds=(xs.set i a').flatMap f
 | [],_,_,_,_,_,h,_,_=>by simp at h
 |x::xs,0,j,a,a',ds,h,hj,hp=>by
  obtain rfl:x=a:=by simpa using h
  have hx:=hz x
  unfold putAt at hp⊢
  simp only[List.flatMap_cons,Nat.zero_mul,Nat.zero_add,List.set_cons_zero]
  rw[←hp,List.take_append_of_le_length (by omega),List.drop_append_of_le_length (by omega)]
  simp[List.append_assoc]
 |x::xs,i+1,j,a,a',ds,h,hj,hp=>by
  have ih:=F2 hz xs i j a a' ds (by simpa using h) hj hp
  have hx:=hz x
  unfold putAt at ih⊢
  simp only[List.flatMap_cons,List.set_cons_succ,←ih]
  have e1:(i+1) * sz+j=(f x).length+(i * sz+j):=by rw[hx,Nat.add_mul];omega
  rw[e1,List.take_append,List.drop_append]
  simp[List.take_of_length_le,List.drop_of_length_le,Nat.add_assoc]
theorem WO.En{a':α}{ds:List Value}(hc:P.cellsOf T=k+1)(hx:aD n e x (.pointer (some (dr A p))))(hy:aD n e y (.agg ds.toArray))(hl:ds.length=k+1)(h1: ∀v∈ds,v.oneCell'=true)(hz: ∀h a,(enc h a).length=sz){j:Nat}
  (hi:L[i]? =some (cN enc bN sz A cap T' hs xs))(ha:xs[idx.toNat]? =some a)(hp:p=idx.toNat * sz+j)(hj:j+(k+1)≤sz)(hs':putAt (enc (hs.getD idx.toNat h0) a) j ds=enc (hs.getD idx.toNat h0) a')(hM:bN (hs.getD idx.toNat h0) a=bN (hs.getD idx.toNat h0) a')
  (h:KK n base w0 e (cN enc bN sz A cap T' hs (xs.set idx.toNat a')::L.eraseIdx i) K):
  WO P ops n base w0 e L ⟨none,.store T x y,t,pos,af,none⟩ K Q:=by
 subst hp
 intro ac w hac hw
 have vD:=Al hw hi
 have hk:=(List.getElem?_eq_some_iff.1 ha).1
 have hle:(idx.toNat+1) * sz≤xs.length * sz:=Nat.mul_le_mul_right _ hk
 rw[Nat.add_mul]at hle
 have hw1:=(cp.trans (.head hi) .Hq).at _ _ _ hw
 refine(WO.Ln (ops:=ops) (Q:=Q) (K:=K) (i:=0) (cs:=ds) hc hx hy hl h1 rfl (by rw[Lv hz _ _ vD];omega) ?_) ac w hac hw1
 have e1:hs.set idx.toNat (hs.getD idx.toNat h0)=hs:=by
  apply List.ext_getElem (by simp)
  intro q h1 h2
  rw[List.getElem_set]
  split
  ·rename_i hq
   subst hq
   simp[List.getD_eq_getElem?_getD,List.getElem?_eq_getElem h2]
  ·rfl
 have OU:=Dn (h0:=h0) vD ha
 have hput:putAt (ga enc hs xs) (idx.toNat * sz+j) ds=ga enc hs (xs.set idx.toNat a'):=by
  have h5:=F2 (f:=fun p:η×α=>enc p.1 p.2) (fun p=>hz p.1 p.2) (List.zip hs xs) idx.toNat j _ (hs.getD idx.toNat h0,a') ds OU (by omega) hs'
  unfold ga
  rw[h5,←Dp vD,e1]
 rw[hput]
 refine KK.AX ?_ h
 show cp (eR A cap T' sz xs.length (ga enc hs (xs.set idx.toNat a'))::(lu bN hs xs++L.eraseIdx i)) _
 have e2:(eR A cap T' sz xs.length (ga enc hs (xs.set idx.toNat a')))=eR A cap T' sz (xs.set idx.toNat a').length (ga enc hs (xs.set idx.toNat a')):=by rw[List.length_set]
 rw[e2]
 refine .trans (.cons ?_) (.AY (by simp[vD]))
 have h6:=cp.wb (L:=L.eraseIdx i) (bN:=bN) vD hk (hs.getD idx.toNat h0) a'
 rw[e1]at h6
 refine .trans (.UO (h0:=h0) vD ha) ?_
 rw[hM]
 exact h6
end
section
variable {K:Act→World→Prop} {α:Type} {enc:α→List Value} {sz:Nat} {A:Option Addr} {cap m k i p E T T':Nat} {xs:List α} {a a':α} {kd:IntKind} {idx:Int}
theorem WO.YB{ds:List Value}(hc:P.cellsOf T=k+1)(hx:aD n e x (.pointer (some (dr A p))))(hy:aD n e y (.agg ds.toArray))(hl:ds.length=k+1)(h1: ∀v∈ds,v.oneCell'=true)(hz: ∀a,(enc a).length=sz){j:Nat}
  (hi:L[i]? =some (cR enc sz A cap T' xs))(ha:xs[idx.toNat]? =some a)(hp:p=idx.toNat * sz+j)(hj:j+(k+1)≤sz)(hs:putAt (enc a) j ds=enc a')(h:KK n base w0 e (L.set i (cR enc sz A cap T' (xs.set idx.toNat a'))) K):
  WO P ops n base w0 e L ⟨none,.store T x y,t,pos,af,none⟩ K Q:=by
 subst hp
 have hk:=(List.getElem?_eq_some_iff.1 ha).1
 have hle:(idx.toNat+1) * sz≤xs.length * sz:=Nat.mul_le_mul_right _ hk
 rw[Nat.add_mul]at hle
 refine WO.Ln hc hx hy hl h1 hi (by rw[o_ hz];omega) ?_
 rw[F2 hz xs _ j a a' ds ha (by omega) hs]
 simpa[cR]using h
theorem WO.Wt{ds:List Value}(hc:P.cellsOf T=k+1)(hx:aD n e x (.pointer (some (dr A p))))(hy:aD n e y (.agg ds.toArray))(hl:ds.length=k+1)(h1: ∀v∈ds,v.oneCell'=true)(hz: ∀a,(enc a).length=sz){j:Nat}
  (hi:L[i]? =some (cR enc sz A cap T' (xs.set idx.toNat a)))(hb:0≤idx∧idx < xs.length)(hp:p=idx.toNat * sz+j)(hj:j+(k+1)≤sz)(hs:putAt (enc a) j ds=enc a')(h:KK n base w0 e (L.set i (cR enc sz A cap T' (xs.set idx.toNat a'))) K):
  WO P ops n base w0 e L ⟨none,.store T x y,t,pos,af,none⟩ K Q:=by
 refine WO.YB hc hx hy hl h1 hz hi (a:=a) (dm hb) hp hj hs ?_
 rw[List.set_set];exact h
end
def ptO(b:Option Nat):Option Addr:=b.map fun b=>⟨b,0,none⟩
def cBo(b:Option Nat)(T:TypeId)(cs:List Value):Chunk:=match b with
 |some b=>aw b T cs
 |none=>cF True
theorem St.UR(h:St base w0 L w)(T:TypeId)(cs:List Value):St base w0 (cBo none T cs::L) w:=(cp.fact (p:=True) trivial).at _ _ _ h
section
variable {H:Type} {aee:TypeId×Value→H}
theorem Wu{α:Type}{gj:α→List Value}{sz:Nat}(dec:List Int→α)(OM: ∀r:List Int,r.length=sz→gj (dec r)=ints r){W:World}{base fuel:Nat}{sp:Nat→Bool}{held:Bool}{t e:TypeId}{fs:Array Field}{cs:List Value}{q:DataW H×List MemPlace}
  (ht:P.underlying t=some (.slice e))(he:P.underlying e=some (.struct fs))(hf:numFields P 0 fs.toList=true)(hn:fs.size=sz)(hc:P.cellsOf e=sz)(h0:0 < sz)
  (yP:DataW.trod aee P W base sp held fuel t cs=some q):
  ∃(xs:List α) (A:Option Addr) (cap:Nat),cs= [.slice A xs.length cap]∧bi gj sz W (.slice A xs.length cap) xs∧xs.length≤maxLen∧∀x∈xs,∃r,x=dec r∧r.length=sz∧∀y∈r,-9223372036854775808≤y∧y≤9223372036854775807:=by
 rcases Go.Deep.open_slice ht yP with⟨rfl,_⟩|⟨a1,len,cap,m,nn,D,Pl,rfl,hb,hlc,hm,Dh,_,hx⟩
 ·exact⟨[],none,0,rfl,bi.nil,by simp,by simp⟩
 ·have hlm:len≤m:=by rw[Dh];split<;>omega
  have each: ∀i,i < len→∀j,j < sz→∃z,W.cell? ((a1.add (i * sz)).add j)=some (.int .i64 z)∧ -9223372036854775808≤z∧z≤9223372036854775807:=by
   intro i hi j hj
   obtain⟨cs,h1,h2⟩:=hx i (by omega)
   rw[hc]at h1
   obtain⟨_,hcl,hat⟩:=World.cells?_some h1
   obtain⟨ys,n',_,_,_,JJ,FW⟩:=DataW.trod_struct he h2
   have hjf:fs.toList[j]? =some fs[j]:=by simp[hn,hj]
   obtain⟨ho,hk,hT⟩:=zt hf hjf
   have h3:=FW j fs[j] (by simp[hn,hj])
   rw[ho,hk,Nat.zero_add,List.getElem?_eq_getElem (by omega)]at h3
   obtain⟨z,h4,_,h5⟩:=DataW.trod_int hT h3
   have hcj:cs[j]? =some (.int .i64 z):=by
    have:(cs.drop j).take 1= [cs[j]'(by omega)]:=by rw[List.drop_eq_getElem_cons (by omega)];rfl
    rw[this]at h4
    rw[List.getElem?_eq_getElem (by omega)]
    simpa using h4
   exact⟨z,by rw[hat j hj,hcj],bounds_i64 h5⟩
  have hrow: ∀i,i < len→xk (some a1)∧∀j,j < sz→W.cell? (dr (some a1) (i * sz+j))=some (.int .i64 (pP W (some a1) (i * sz+j)))∧ -9223372036854775808≤pP W (some a1) (i * sz+j)∧pP W (some a1) (i * sz+j)≤9223372036854775807:=by
   intro i hi
   have hsp:a1.spot=none:=by
    obtain⟨z,hz,_⟩:=each 0 (by omega) 0 h0
    have e0:(a1.add (0 * sz)).add 0=a1:=by rw[Nat.zero_mul];rfl
    rw[e0]at hz
    exact FV hz
   refine⟨⟨rfl,fun p hp=>by cases hp;exact hsp⟩,fun j hj=>?_⟩
   obtain⟨z,hz,SP⟩:=each i hi j hj
   obtain⟨b,o,s⟩:=a1
   simp only at hsp
   subst hsp
   rw[eX,eX,Nat.add_assoc]at hz
   have e1:pP W (some ⟨b,o,none⟩) (i * sz+j)=z:=by simp[pP,dr,hz]
   rw[e1]
   exact⟨by simpa[dr]using hz,SP⟩
  refine⟨(List.range len).map fun i=>dec (uo W (some a1) sz i),some a1,cap,by simp,⟨some a1,cap,rfl,by simpa using hlc,fun i hi=>?_⟩,by simp;omega,fun x hx=>?_⟩
  ·have hi':i < len:=by simpa using hi
   refine⟨(hrow i hi').1,fun j u hu=>?_⟩
   simp only[List.getElem_map,List.getElem_range]at hu
   rw[OM _ (by simp[uo])]at hu
   have hj:j < sz:=by have:=(List.getElem?_eq_some_iff.1 hu).1;simpa[ints,uo]using this
   have:=((hrow i hi').2 j hj).1
   rw[this]
   simpa[ints,uo,hj]using hu
  ·obtain⟨i,hi,rfl⟩:=List.mem_map.1 hx
   have hi':i < len:=List.mem_range.1 hi
   refine⟨_,rfl,by simp[uo],fun y hy=>?_⟩
   obtain⟨j,hj,rfl⟩:=List.mem_map.1 hy
   exact((hrow i hi').2 j (List.mem_range.1 hj)).2
theorem F3{α:Type}{gj:α→List Value}{sz:Nat}(dec:List Int→α)(OM: ∀r:List Int,r.length=sz→gj (dec r)=ints r){W:World}{base b0:Nat}{sp:Nat→Bool}{held:Bool}{r:Reach}{t1 t e:TypeId}{fs:Array Field}{v:Value}{d:DataW H}{ps:List MemPlace}
  (ht1:P.underlying t1=some (.slice t))(hct:P.cellsOf t=1)(ht:P.underlying t=some (.slice e))(he:P.underlying e=some (.struct fs))(hf:numFields P 0 fs.toList=true)(hn:fs.size=sz)(hc:P.cellsOf e=sz)(h0:0 < sz)
  (hv:Value.okWide P W r b0 t1 v)(h:DataW.Trod aee P W base sp held t1 v d ps):
  ∃(xs:List (List α)) (A:Option Addr) (cap:Nat) (hs:List Hd),v= .slice A xs.length cap∧nC gj sz W A cap hs xs∧xs.length≤maxLen∧∀l∈xs,l.length≤maxLen∧∀x∈l,∃r,x=dec r∧r.length=sz∧∀y∈r,-9223372036854775808≤y∧y≤9223372036854775807:=by
 obtain⟨a,len,cap,rfl⟩:=okWide_slice ht1 hv
 obtain⟨fuel,yP⟩:=h
 rcases Go.Deep.open_slice ht1 yP with⟨hcs,_⟩|⟨a1,FS,FU,m,nn,D,Pl,hcs,hb,hlc,hm,Dh,_,hx⟩
 ·simp[Value.cells]at hcs
  obtain⟨rfl,rfl,rfl⟩:=hcs
  exact⟨[],none,0,[],rfl,nC.ad4,by simp,by simp⟩
 ·simp[Value.cells]at hcs
  obtain⟨rfl,rfl,rfl⟩:=hcs
  have hlm:len≤m:=by rw[Dh];split<;>omega
  have each: ∀i,i < len→∃(l:List α) (A:Option Addr) (c:Nat),W.cell? (a1.add i)=some (.slice A l.length c)∧bi gj sz W (.slice A l.length c) l∧l.length≤maxLen∧∀x∈l,∃r,x=dec r∧r.length=sz∧∀y∈r,-9223372036854775808≤y∧y≤9223372036854775807:=by
   intro i hi
   obtain⟨cs,h1,h2⟩:=hx i (by omega)
   rw[hct,Nat.mul_one]at h1
   obtain⟨_,hcl,hat⟩:=World.cells?_some h1
   obtain⟨l,A,c,rfl,h3,h4,h5⟩:=Wu dec OM ht he hf hn hc h0 h2
   have h6:=hat 0 (by omega)
   have e0:(a1.add i).add 0=a1.add i:=rfl
   rw[e0]at h6
   exact⟨l,A,c,by simpa using h6,h3,h4,h5⟩
  let f:Nat→List α×Hd:=fun i=>if hi:i < len then((each i hi).choose,((each i hi).choose_spec.choose,(each i hi).choose_spec.choose_spec.choose))else([],(none,0))
  have FW: ∀i,i < len→W.cell? (a1.add i)=some (.slice (f i).2.1 (f i).1.length (f i).2.2)∧bi gj sz W (.slice (f i).2.1 (f i).1.length (f i).2.2) (f i).1∧(f i).1.length≤maxLen∧∀x∈(f i).1,∃r,x=dec r∧r.length=sz∧∀y∈r,-9223372036854775808≤y∧y≤9223372036854775807:=by
   intro i hi
   have e1:f i=((each i hi).choose,((each i hi).choose_spec.choose,(each i hi).choose_spec.choose_spec.choose)):=dif_pos hi
   rw[e1]
   exact(each i hi).choose_spec.choose_spec.choose_spec
  have hxl:((List.range len).map fun i=>(f i).1).length=len:=by simp
  have gI: ∀i a,((List.range len).map fun i=>(f i).1)[i]? =some a→i < len∧a=(f i).1∧((List.range len).map fun i=>(f i).2).getD i (none,0)=(f i).2:=by
   intro i a ha
   have hi:i < len:=by have:=(List.getElem?_eq_some_iff.1 ha).1;simpa using this
   refine⟨hi,?_,?_⟩
   ·simp[hi]at ha;exact ha.symm
   ·simp[List.getD_eq_getElem?_getD,hi]
  refine⟨(List.range len).map fun i=>(f i).1,some a1,cap,(List.range len).map fun i=>(f i).2,by rw[hxl],⟨by rw[hxl];exact hlc,fun i a ha=>?_,fun i a ha=>?_⟩,by rw[hxl];omega,fun l hl=>?_⟩
  ·obtain⟨hi,rfl,e2⟩:=gI i a ha
   rw[e2]
   have h1:=(FW i hi).1
   have h2:=(FW 0 (by omega)).1
   have hsp:a1.spot=none:=by
    have e0:a1.add 0=a1:=rfl
    rw[e0]at h2
    exact FV h2
   refine⟨⟨rfl,fun p hp=>by cases hp;exact hsp⟩,?_⟩
   obtain⟨b,o,s⟩:=a1
   simp only at hsp
   subst hsp
   rw[eX]at h1
   simpa[dr]using h1
  ·obtain⟨hi,rfl,e2⟩:=gI i a ha
   rw[e2]
   exact(FW i hi).2.1
  ·obtain⟨i,hi,rfl⟩:=List.mem_map.1 hl
   exact(FW i (List.mem_range.1 hi)).2.2
end
end Go.Proofs.YtjdkkabcenohcaaGreatDoor
