/- Short words for what the walks say: what a step can find by itself it is not told. It speaks of every program. -/
import Derived.Test.YtjdkkabcenohcaaGreatDoorBor
set_option linter.unusedVariables false
set_option linter.unusedSimpArgs false
set_option linter.unusedSectionVars false
namespace Go.Proofs.YtjdkkabcenohcaaGreatDoor
open Go.RowKit
class UT (P:Program) (T:TypeId) (d:outParam TypeDesc):Prop where h:P.underlying T=some d
class CT (P:Program) (T:TypeId) (k:outParam Nat):Prop where h:P.cellsOf T=k+1
class FT (P:Program) (T i:Nat) (off ft:outParam Nat):Prop where h: ∃fs,P.underlying T=some (.struct fs)∧jO P fs i off ft
section
variable {P:Program} {n:Nat} {base:Nat} {w0 w:World} {L:List Chunk} {e:Env}
variable {ops rest:List Oper} {Q:Exit→Act→World→Prop} {R:Act→World→Prop} {d:Nat} {D:Option Tmp} {op:Op} {t ty tx:TypeId} {pos:String} {af:Array Edge} {G:Option (Nat×Bool)} {v u:Value} {x y z:Operand}
variable {α:Type} {enc:α→List Value} {sz:Nat} {A:Option Addr} {cap m k i j E T T' off ft:Nat} {xs:List α} {a:α} {kd:IntKind} {p q idx:Int} {b:Nat} {c:Bool}
theorem qF [f:FT P T i off ft][hk:CT P ft k](hx:ap n e x (.pointer (some ⟨b,0,none⟩))):Yd P n base w0 e L ⟨D,.fieldAddr T x i,t,pos,af,G⟩ (.pointer (some ⟨b,off,none⟩)):=by
 obtain⟨fs,h1,h2⟩:=f.h
 exact Y.eT h1 h2 hk.h hx
theorem qB{dT:TypeDesc}{cs:List Value}(i:Nat)[h:UT P T dT](hd:cu dT=true)(hx:ap n e x (.pointer (some ⟨b,off,none⟩)))(hi:L[i]? =some (al b T' cs))(hv:nth cs off=some v):Yd P n base w0 e L ⟨D,.load T x,t,pos,af,G⟩ v:=
 Y.lq h.h hd hx hi (by rw[←pL];exact hv)
theorem qL [h:UT P T (.slice E)](hx:ap n e x (.slice A m cap)):Yd P n base w0 e L ⟨D,.call {callee:= .builtin .len,args:= #[x],argTypes:= #[T]},t,pos,af,G⟩ (.int .i64 (m:Int)):=Y.len h.h hx
theorem ym(hx:ap n e x v:=by exact .pl rfl):Yd P n base w0 e L ⟨D,.move x,t,pos,af,G⟩ v:=Y.move hx
theorem zl(hx:ap n e x v:=by exact .pl rfl):c=true→Yd P n base w0 e L ⟨D,.move x,t,pos,af,G⟩ v:=fun _=>Y.move hx
theorem ya(hx:ap n e x v:=by exact .pl rfl):Yd P n base w0 e L ⟨D,.assign x,t,pos,af,G⟩ v:=Y.assign hx
theorem Kv(hx:ap n e x v:=by exact .pl rfl):c=true→Yd P n base w0 e L ⟨D,.assign x,t,pos,af,G⟩ v:=fun _=>Y.assign hx
theorem yc{r:Addr}(hx:ap n e x (.pointer (some r)):=by exact .pl rfl):Yd P n base w0 e L ⟨D,.nilCheck x,t,pos,af,G⟩ (.pointer (some r)):=Y.nilCheck hx
theorem Df{r:Addr}(hx:c=true→ap n e x (.pointer (some r)):=by exact fun h=> .gd h rfl):c=true→Yd P n base w0 e L ⟨D,.nilCheck x,t,pos,af,G⟩ (.pointer (some r)):=fun h=>Y.nilCheck (hx h)
theorem yt{c0:Bool}(hx:ap n e x (.bool c0):=by exact .pl rfl):Yd P n base w0 e L ⟨D,.unOp .not tx x,t,pos,af,G⟩ (.bool (!c0)):=Y.not hx
theorem Xd{c0:Bool}(hx:c=true→ap n e x (.bool c0):=by exact fun h=> .gd h rfl):c=true→Yd P n base w0 e L ⟨D,.unOp .not tx x,t,pos,af,G⟩ (.bool (!c0)):=fun h=>Y.not (hx h)
theorem yf [FT P T i off ft][CT P ft k](hx:ap n e x (.pointer (some ⟨b,0,none⟩)):=by exact .pl rfl):Yd P n base w0 e L ⟨D,.fieldAddr T x i,t,pos,af,G⟩ (.pointer (some ⟨b,off,none⟩)):=qF hx
theorem wW [FT P T i off ft][CT P ft k](hx:ap n e x (.pointer (some ⟨b,0,none⟩)):=by exact .pl rfl):c=true→Yd P n base w0 e L ⟨D,.fieldAddr T x i,t,pos,af,G⟩ (.pointer (some ⟨b,off,none⟩)):=fun _=>qF hx
theorem HF [FT P T i off ft][CT P ft k](hx:c=true→ap n e x (.pointer (some ⟨b,0,none⟩)):=by exact fun h=> .gd h rfl):c=true→Yd P n base w0 e L ⟨D,.fieldAddr T x i,t,pos,af,G⟩ (.pointer (some ⟨b,off,none⟩)):=fun h=>qF (hx h)
theorem yw [UT P T (.slice E)](hx:ap n e x (.slice A m cap):=by exact .pl rfl):Yd P n base w0 e L ⟨D,.call {callee:= .builtin .len,args:= #[x],argTypes:= #[T]},t,pos,af,G⟩ (.int .i64 (m:Int)):=qL hx
theorem gwg [UT P T (.slice E)](hx:c=true→ap n e x (.slice A m cap):=by exact fun h=> .gd h rfl):c=true→Yd P n base w0 e L ⟨D,.call {callee:= .builtin .len,args:= #[x],argTypes:= #[T]},t,pos,af,G⟩ (.int .i64 (m:Int)):=fun h=>qL (hx h)
theorem lH{dT:TypeDesc}{cs:List Value}[UT P T dT](hx:ap n e x (.pointer (some ⟨b,off,none⟩)):=by exact .pl rfl)(hd:cu dT=true:=by exact rfl)(hi:L[0]? =some (al b T' cs):=by exact rfl)(hv:nth cs off=some v:=by exact rfl):Yd P n base w0 e L ⟨D,.load T x,t,pos,af,G⟩ v:=qB 0 hd hx hi hv
theorem SX{dT:TypeDesc}{cs:List Value}[UT P T dT](hx:ap n e x (.pointer (some ⟨b,off,none⟩)):=by exact .pl rfl)(hd:cu dT=true:=by exact rfl)(hi:L[0]? =some (al b T' cs):=by exact rfl)(hv:nth cs off=some v:=by exact rfl):c=true→Yd P n base w0 e L ⟨D,.load T x,t,pos,af,G⟩ v:=fun _=>qB 0 hd hx hi hv
theorem s9{dT:TypeDesc}{cs:List Value}[UT P T dT](hx:c=true→ap n e x (.pointer (some ⟨b,off,none⟩)):=by exact fun h=> .gd h rfl)(hd:cu dT=true:=by exact rfl)(hi:L[0]? =some (al b T' cs):=by exact rfl)(hv:nth cs off=some v:=by exact rfl):c=true→Yd P n base w0 e L ⟨D,.load T x,t,pos,af,G⟩ v:=fun h=>qB 0 hd (hx h) hi hv
theorem sA{dT:TypeDesc}{cs:List Value}[UT P T dT](hx:ap n e x (.pointer (some ⟨b,off,none⟩)):=by exact .pl rfl)(hd:cu dT=true:=by exact rfl)(hi:L[1]? =some (al b T' cs):=by exact rfl)(hv:nth cs off=some v:=by exact rfl):Yd P n base w0 e L ⟨D,.load T x,t,pos,af,G⟩ v:=qB 1 hd hx hi hv
theorem YX{dT:TypeDesc}{cs:List Value}[UT P T dT](hx:ap n e x (.pointer (some ⟨b,off,none⟩)):=by exact .pl rfl)(hd:cu dT=true:=by exact rfl)(hi:L[1]? =some (al b T' cs):=by exact rfl)(hv:nth cs off=some v:=by exact rfl):c=true→Yd P n base w0 e L ⟨D,.load T x,t,pos,af,G⟩ v:=fun _=>qB 1 hd hx hi hv
theorem ET{dT:TypeDesc}{cs:List Value}[UT P T dT](hx:c=true→ap n e x (.pointer (some ⟨b,off,none⟩)):=by exact fun h=> .gd h rfl)(hd:cu dT=true:=by exact rfl)(hi:L[1]? =some (al b T' cs):=by exact rfl)(hv:nth cs off=some v:=by exact rfl):c=true→Yd P n base w0 e L ⟨D,.load T x,t,pos,af,G⟩ v:=fun h=>qB 1 hd (hx h) hi hv
theorem Kw{dT:TypeDesc}{cs:List Value}[UT P T dT](hx:ap n e x (.pointer (some ⟨b,off,none⟩)):=by exact .pl rfl)(hd:cu dT=true:=by exact rfl)(hi:L[2]? =some (al b T' cs):=by exact rfl)(hv:nth cs off=some v:=by exact rfl):Yd P n base w0 e L ⟨D,.load T x,t,pos,af,G⟩ v:=qB 2 hd hx hi hv
theorem YY{dT:TypeDesc}{cs:List Value}[UT P T dT](hx:c=true→ap n e x (.pointer (some ⟨b,off,none⟩)):=by exact fun h=> .gd h rfl)(hd:cu dT=true:=by exact rfl)(hi:L[2]? =some (al b T' cs):=by exact rfl)(hv:nth cs off=some v:=by exact rfl):c=true→Yd P n base w0 e L ⟨D,.load T x,t,pos,af,G⟩ v:=fun h=>qB 2 hd (hx h) hi hv
theorem yb3{dT:TypeDesc}{cs:List Value}[UT P T dT](hx:ap n e x (.pointer (some ⟨b,off,none⟩)):=by exact .pl rfl)(hd:cu dT=true:=by exact rfl)(hi:L[3]? =some (al b T' cs):=by exact rfl)(hv:nth cs off=some v:=by exact rfl):Yd P n base w0 e L ⟨D,.load T x,t,pos,af,G⟩ v:=qB 3 hd hx hi hv
theorem Xe{dT:TypeDesc}{cs:List Value}[UT P T dT](hx:ap n e x (.pointer (some ⟨b,off,none⟩)):=by exact .pl rfl)(hd:cu dT=true:=by exact rfl)(hi:L[4]? =some (al b T' cs):=by exact rfl)(hv:nth cs off=some v:=by exact rfl):Yd P n base w0 e L ⟨D,.load T x,t,pos,af,G⟩ v:=qB 4 hd hx hi hv
theorem yb5{dT:TypeDesc}{cs:List Value}[UT P T dT](hx:ap n e x (.pointer (some ⟨b,off,none⟩)):=by exact .pl rfl)(hd:cu dT=true:=by exact rfl)(hi:L[5]? =some (al b T' cs):=by exact rfl)(hv:nth cs off=some v:=by exact rfl):Yd P n base w0 e L ⟨D,.load T x,t,pos,af,G⟩ v:=qB 5 hd hx hi hv
theorem yb6{dT:TypeDesc}{cs:List Value}[UT P T dT](hx:ap n e x (.pointer (some ⟨b,off,none⟩)):=by exact .pl rfl)(hd:cu dT=true:=by exact rfl)(hi:L[6]? =some (al b T' cs):=by exact rfl)(hv:nth cs off=some v:=by exact rfl):Yd P n base w0 e L ⟨D,.load T x,t,pos,af,G⟩ v:=qB 6 hd hx hi hv
theorem YZ{dT:TypeDesc}{cs:List Value}[UT P T dT](hx:ap n e x (.pointer (some ⟨b,off,none⟩)):=by exact .pl rfl)(hd:cu dT=true:=by exact rfl)(hi:L[6]? =some (al b T' cs):=by exact rfl)(hv:nth cs off=some v:=by exact rfl):c=true→Yd P n base w0 e L ⟨D,.load T x,t,pos,af,G⟩ v:=fun _=>qB 6 hd hx hi hv
theorem Y0{dT:TypeDesc}{cs:List Value}[UT P T dT](hx:ap n e x (.pointer (some ⟨b,off,none⟩)):=by exact .pl rfl)(hd:cu dT=true:=by exact rfl)(hi:L[7]? =some (al b T' cs):=by exact rfl)(hv:nth cs off=some v:=by exact rfl):c=true→Yd P n base w0 e L ⟨D,.load T x,t,pos,af,G⟩ v:=fun _=>qB 7 hd hx hi hv
theorem ye(hx:ap n e x (.int kd p):=by exact .pl rfl)(hy:ap n e y (.int kd q):=by exact .pl rfl):Yd P n base w0 e L ⟨D,.binOp .eql tx x y ty,t,pos,af,G⟩ (.bool (decide (p=q))):=Y.eql hx hy
theorem Y1(hx:c=true→ap n e x (.int kd p):=by exact fun h=> .gd h rfl)(hy:c=true→ap n e y (.int kd q):=by exact fun h=> .gd h rfl):c=true→Yd P n base w0 e L ⟨D,.binOp .eql tx x y ty,t,pos,af,G⟩ (.bool (decide (p=q))):=fun h=>Y.eql (hx h) (hy h)
theorem yn(hx:ap n e x (.int kd p):=by exact .pl rfl)(hy:ap n e y (.int kd q):=by exact .pl rfl):Yd P n base w0 e L ⟨D,.binOp .neq tx x y ty,t,pos,af,G⟩ (.bool (!decide (p=q))):=Y.neq hx hy
theorem SY(hx:c=true→ap n e x (.int kd p):=by exact fun h=> .gd h rfl)(hy:ap n e y (.int kd q):=by exact .pl rfl):c=true→Yd P n base w0 e L ⟨D,.binOp .neq tx x y ty,t,pos,af,G⟩ (.bool (!decide (p=q))):=fun h=>Y.neq (hx h) hy
theorem yl(hx:ap n e x (.int kd p):=by exact .pl rfl)(hy:ap n e y (.int kd q):=by exact .pl rfl):Yd P n base w0 e L ⟨D,.binOp .lss tx x y ty,t,pos,af,G⟩ (.bool (decide (p < q))):=Y.lss hx hy
theorem Y2(hx:c=true→ap n e x (.int kd p):=by exact fun h=> .gd h rfl)(hy:ap n e y (.int kd q):=by exact .pl rfl):c=true→Yd P n base w0 e L ⟨D,.binOp .lss tx x y ty,t,pos,af,G⟩ (.bool (decide (p < q))):=fun h=>Y.lss (hx h) hy
theorem Mk(hx:c=true→ap n e x (.int kd p):=by exact fun h=> .gd h rfl)(hy:c=true→ap n e y (.int kd q):=by exact fun h=> .gd h rfl):c=true→Yd P n base w0 e L ⟨D,.binOp .lss tx x y ty,t,pos,af,G⟩ (.bool (decide (p < q))):=fun h=>Y.lss (hx h) (hy h)
theorem yg(hx:ap n e x (.int kd p):=by exact .pl rfl)(hy:ap n e y (.int kd q):=by exact .pl rfl):Yd P n base w0 e L ⟨D,.binOp .gtr tx x y ty,t,pos,af,G⟩ (.bool (decide (q < p))):=Y.gtr hx hy
theorem yj(hx:ap n e x (.int kd p):=by exact .pl rfl)(hy:ap n e y (.int kd q):=by exact .pl rfl):Yd P n base w0 e L ⟨D,.binOp .geq tx x y ty,t,pos,af,G⟩ (.bool (decide (q≤p))):=Y.geq hx hy
theorem Y3(hx:c=true→ap n e x (.int kd p):=by exact fun h=> .gd h rfl)(hy:ap n e y (.int kd q):=by exact .pl rfl):c=true→Yd P n base w0 e L ⟨D,.binOp .geq tx x y ty,t,pos,af,G⟩ (.bool (decide (q≤p))):=fun h=>Y.geq (hx h) hy
theorem SZ(hx:c=true→ap n e x (.int kd p):=by exact fun h=> .gd h rfl)(hy:c=true→ap n e y (.int kd q):=by exact fun h=> .gd h rfl):c=true→Yd P n base w0 e L ⟨D,.binOp .geq tx x y ty,t,pos,af,G⟩ (.bool (decide (q≤p))):=fun h=>Y.geq (hx h) (hy h)
theorem yo{c0 c1:Bool}(hx:ap n e x (.bool c0):=by exact .pl rfl)(hz:c0=false→ap n e z (.bool c1):=by exact fun h=> .gd (Sz h) rfl):Yd P n base w0 e L ⟨D,.pick x (.const (.bool true)) z,t,pos,af,G⟩ (.bool (c0||c1)):=Y.or hx hz
theorem yd{c0 c1:Bool}(hx:ap n e x (.bool c0):=by exact .pl rfl)(hy:c0=true→ap n e y (.bool c1):=by exact fun h=> .gd (J6 h) rfl):Yd P n base w0 e L ⟨D,.pick x y (.const (.bool false)),t,pos,af,G⟩ (.bool (c0&&c1)):=Y.and hx hy
theorem yx{vs:Array Value}(hx:ap n e x (.tuple vs):=by exact .pl rfl)(hv:nth vs.toList i=some v:=by exact rfl):Yd P n base w0 e L ⟨D,.extract x i,t,pos,af,G⟩ v:=Y.extract hx hv
theorem Sq(y:Yd P n base w0 e L ⟨some d,op,t,pos,af,none⟩ v)(k:WS P ops n base w0 ((d,v)::e) L rest R)(hd:Nat.blt d n=true:=by exact rfl):WS P ops n base w0 e L (⟨some d,op,t,pos,af,none⟩::rest) R:=WS.q y hd k
theorem Dq{R:Act→Prop}(y:Yd P n base w0 e L ⟨some d,op,t,pos,af,none⟩ v)(k:WD P ops n base w0 ((d,v)::e) L rest R)(hd:Nat.blt d n=true:=by exact rfl):WD P ops n base w0 e L (⟨some d,op,t,pos,af,none⟩::rest) R:=WD.q y hd k
theorem Dg{R:Act→Prop}{j:Nat}{want c:Bool}(y:c=true→Yd P n base w0 e L ⟨some d,op,t,pos,af,some (j,want)⟩ v)(k:WD P ops n base w0 ((d,gv c v)::e) L rest R)(g:Gd ops n e j want c:=by exact .pl rfl rfl rfl)(hd:Nat.blt d n=true:=by exact rfl):WD P ops n base w0 e L (⟨some d,op,t,pos,af,some (j,want)⟩::rest) R:=WD.g g y hd k
theorem Wc{c1 c2:Code}{c0:Bool}{β:Type}{m1 m2:Option β}{r:β}(hF:cond c0 m1 m2=some r)(ht:c0=true→m1=some r→W P n base w0 e L c1 Q)(hf:c0=false→m2=some r→W P n base w0 e L c2 Q)(hx:ap n e x (.bool c0):=by exact .pl rfl):W P n base w0 e L (.cond x c1 c2) Q:=W.cond hx (fun h=>ht h (fJ h hF)) (fun h=>hf h (fK h hF))
theorem oi{β:Type}{a b:β}(h:some a=some b):a=b:=Option.some.inj h
theorem Ln{y:Code}{Q0:Exit→Act→World→Prop}(hQ: ∀a w,y.wp P Q0 a w→Q .normal a w){e':Env}(hs:Sub e' e)(k:W P n base w0 e' L y Q0):WL P ops n base w0 e L [] Q:=WL.next hQ hs k
section
variable {f:FuncId} {args:List Operand} {vs:List Value} {ats:Array TypeId}
theorem Lm{γ:Type}{V:γ→Value}{C:γ→List Chunk}{I:γ→Prop}(hg:lh P f)(hc: ∀w,St base w0 L w→Made P f vs w V C I)(k: ∀g,I g→WL P ops n base w0 ((d,V g)::e) (C g++L) rest Q)(hx:eu n e args vs:=by repeat (first|exact .nil|refine .cons (.pl rfl) ?_))(hd:Nat.blt d n=true:=by exact rfl):
  WL P ops n base w0 e L (⟨some d,.call {callee:= .value (.func f),args:=args.toArray,argTypes:=ats},t,pos,af,none⟩::rest) Q:=WL.step (WO.pE hg hx hd hc k)
end
section
variable {L0:List Chunk} {K:Act→World→Prop} {fuel s:Nat} {listed:Array Bool}
theorem Xp(i:Nat)(hi:ops[i]? =some ⟨some d,op,t,pos,af,none⟩)(y: ∀base w0,Yd P n base w0 e [] ⟨some d,op,t,pos,af,none⟩ v)(k:WX P ops n base w0 ((d,v)::e) L L0 s fuel (listed.setIfInBounds i true) K)
  (hB:(Region.noSelect ops.toArray&&Region.free .any ops.toArray listed i&&(Region.ready .any ops.toArray listed).contains i&&listed.setIfInBounds i true==listed.setIfInBounds i true&&o0 ops.toArray listed&& !(Nat.beq s i))=true:=by kernel_rfl)(hd:Nat.blt d n=true:=by exact rfl):WX P ops n base w0 e L L0 s (fuel+1) listed K:=WX.pure i _ hi hB y hd k
theorem Xt(i:Nat)(hi:ops[i]? =some ⟨some d,op,t,pos,af,none⟩)(y:Yd P n base w0 e L0 ⟨some d,op,t,pos,af,none⟩ v)(k:WX P ops n base w0 ((d,v)::e) L L0 s fuel (listed.setIfInBounds i true) K)
  (hs: ∀w,St base w0 L w→St base w0 L0 w:=by exact fun _ h=>St.tail [] h)
  (hB:(Region.noSelect ops.toArray&&Region.free .any ops.toArray listed i&&(Region.ready .any ops.toArray listed).contains i&&listed.setIfInBounds i true==listed.setIfInBounds i true&&o0 ops.toArray listed&&qG ops.toArray i ops.length s&& !(Nat.beq s i))=true:=by kernel_rfl)(hd:Nat.blt d n=true:=by exact rfl):WX P ops n base w0 e L L0 s (fuel+1) listed K:=WX.take i _ hs hi hB y hd k
theorem Xo(i:Nat){o:Oper}(hi:ops[i]? =some o)(h:WO P ops n base w0 e L o (anyI P ops.toArray (fun x a w=>x= .normal∧K a w) (St base w0 L0) s fuel (listed.setIfInBounds i true)) (fun x a w=>x= .normal∧K a w))
  (hs: ∀w,St base w0 L w→St base w0 L0 w:=by exact fun _ h=>St.tail [] h)(hB:(Region.ready .any ops.toArray listed== [i]&&listed.setIfInBounds i true==listed.setIfInBounds i true)=true:=by kernel_rfl):WX P ops n base w0 e L L0 s (fuel+1) listed K:=WX.one i _ hs hi hB h
theorem Xs{o:Oper}(hi:ops[s]? =some o)(h:WO P ops n base w0 e L o (wpAny P .any ops.toArray (fun x a w=>x= .normal∧K a w) fuel (listed.setIfInBounds s true)) (fun x a w=>x= .normal∧K a w))
  (hs: ∀w,St base w0 L w→St base w0 L0 w:=by exact fun _ h=>St.tail [] h)(hB:(Region.ready .any ops.toArray listed== [s]&&listed.setIfInBounds s true==listed.setIfInBounds s true&&(listed.setIfInBounds s true).getD s false)=true:=by kernel_rfl):WX P ops n base w0 e L L0 s (fuel+1) listed K:=WX.stop _ hs hi hB h
end
theorem nl{k:Nat}:k < k.succ:=Nat.lt_succ_self k
theorem kr{r:Env}(h:Sub r e:=by repeat (first|exact .nil|refine .cons (by exact rfl) ?_)):Sub r e:=h
theorem We(n:Nat){f:FuncId}{fn:Func}{args:List Value}{Rr:Ending→World→Prop}{c:Code}{w0 w:World}{L:List Chunk}(hf:P.funcs[f]? =some fn)(hw:St base w0 L w)
  (h: ∀R':Ending→World→Prop,(∀e w',Rr e w'→R' e w')→W P n base w0 (wO 0 args) L c (bodyPost P fn R'))(hb:fn.body=some c:=by exact rfl)(hn:fn.ntmps=n:=by exact rfl)(hle:args.length≤n:=by simp):Calls P f args.toArray w Rr:=W.enter hf hb hn Sub.refl hle hw h
theorem lr(i0:Nat){a0:Value}(h:(e.get? i0)=(some a0):=by exact rfl):Sub [(i0,a0)] e:= .cons h .nil
theorem mD(i0 i1:Nat){a0 a1:Value}(h:(e.get? i0,e.get? i1)=(some a0,some a1):=by exact rfl):Sub [(i0,a0),(i1,a1)] e:=by
 simp only[Prod.mk.injEq]at h
 obtain⟨h0,h1⟩:=h
 exact .cons h0 (.cons h1 .nil)
theorem gx(i0 i1 i2:Nat){a0 a1 a2:Value}(h:(e.get? i0,e.get? i1,e.get? i2)=(some a0,some a1,some a2):=by exact rfl):Sub [(i0,a0),(i1,a1),(i2,a2)] e:=by
 simp only[Prod.mk.injEq]at h
 obtain⟨h0,h1,h2⟩:=h
 exact .cons h0 (.cons h1 (.cons h2 .nil))
theorem lI(i0 i1 i2 i3:Nat){a0 a1 a2 a3:Value}(h:(e.get? i0,e.get? i1,e.get? i2,e.get? i3)=(some a0,some a1,some a2,some a3):=by exact rfl):Sub [(i0,a0),(i1,a1),(i2,a2),(i3,a3)] e:=by
 simp only[Prod.mk.injEq]at h
 obtain⟨h0,h1,h2,h3⟩:=h
 exact .cons h0 (.cons h1 (.cons h2 (.cons h3 .nil)))
theorem qu(i0 i1 i2 i3 i4:Nat){a0 a1 a2 a3 a4:Value}(h:(e.get? i0,e.get? i1,e.get? i2,e.get? i3,e.get? i4)=(some a0,some a1,some a2,some a3,some a4):=by exact rfl):Sub [(i0,a0),(i1,a1),(i2,a2),(i3,a3),(i4,a4)] e:=by
 simp only[Prod.mk.injEq]at h
 obtain⟨h0,h1,h2,h3,h4⟩:=h
 exact .cons h0 (.cons h1 (.cons h2 (.cons h3 (.cons h4 .nil))))
theorem wX(i0 i1 i2 i3 i4 i5:Nat){a0 a1 a2 a3 a4 a5:Value}(h:(e.get? i0,e.get? i1,e.get? i2,e.get? i3,e.get? i4,e.get? i5)=(some a0,some a1,some a2,some a3,some a4,some a5):=by exact rfl):Sub [(i0,a0),(i1,a1),(i2,a2),(i3,a3),(i4,a4),(i5,a5)] e:=by
 simp only[Prod.mk.injEq]at h
 obtain⟨h0,h1,h2,h3,h4,h5⟩:=h
 exact .cons h0 (.cons h1 (.cons h2 (.cons h3 (.cons h4 (.cons h5 .nil)))))
theorem HG(i0 i1 i2 i3 i4 i5 i6:Nat){a0 a1 a2 a3 a4 a5 a6:Value}(h:(e.get? i0,e.get? i1,e.get? i2,e.get? i3,e.get? i4,e.get? i5,e.get? i6)=(some a0,some a1,some a2,some a3,some a4,some a5,some a6):=by exact rfl):Sub [(i0,a0),(i1,a1),(i2,a2),(i3,a3),(i4,a4),(i5,a5),(i6,a6)] e:=by
 simp only[Prod.mk.injEq]at h
 obtain⟨h0,h1,h2,h3,h4,h5,h6⟩:=h
 exact .cons h0 (.cons h1 (.cons h2 (.cons h3 (.cons h4 (.cons h5 (.cons h6 .nil))))))
theorem ks8(i0 i1 i2 i3 i4 i5 i6 i7:Nat){a0 a1 a2 a3 a4 a5 a6 a7:Value}(h:(e.get? i0,e.get? i1,e.get? i2,e.get? i3,e.get? i4,e.get? i5,e.get? i6,e.get? i7)=(some a0,some a1,some a2,some a3,some a4,some a5,some a6,some a7):=by exact rfl):Sub [(i0,a0),(i1,a1),(i2,a2),(i3,a3),(i4,a4),(i5,a5),(i6,a6),(i7,a7)] e:=by
 simp only[Prod.mk.injEq]at h
 obtain⟨h0,h1,h2,h3,h4,h5,h6,h7⟩:=h
 exact .cons h0 (.cons h1 (.cons h2 (.cons h3 (.cons h4 (.cons h5 (.cons h6 (.cons h7 .nil)))))))
theorem HH(i0 i1 i2 i3 i4 i5 i6 i7 i8:Nat){a0 a1 a2 a3 a4 a5 a6 a7 a8:Value}(h:(e.get? i0,e.get? i1,e.get? i2,e.get? i3,e.get? i4,e.get? i5,e.get? i6,e.get? i7,e.get? i8)=(some a0,some a1,some a2,some a3,some a4,some a5,some a6,some a7,some a8):=by exact rfl):Sub [(i0,a0),(i1,a1),(i2,a2),(i3,a3),(i4,a4),(i5,a5),(i6,a6),(i7,a7),(i8,a8)] e:=by
 simp only[Prod.mk.injEq]at h
 obtain⟨h0,h1,h2,h3,h4,h5,h6,h7,h8⟩:=h
 exact .cons h0 (.cons h1 (.cons h2 (.cons h3 (.cons h4 (.cons h5 (.cons h6 (.cons h7 (.cons h8 .nil))))))))
theorem S1(i0 i1 i2 i3 i4 i5 i6 i7 i8 i9:Nat){a0 a1 a2 a3 a4 a5 a6 a7 a8 a9:Value}(h:(e.get? i0,e.get? i1,e.get? i2,e.get? i3,e.get? i4,e.get? i5,e.get? i6,e.get? i7,e.get? i8,e.get? i9)=(some a0,some a1,some a2,some a3,some a4,some a5,some a6,some a7,some a8,some a9):=by exact rfl):Sub [(i0,a0),(i1,a1),(i2,a2),(i3,a3),(i4,a4),(i5,a5),(i6,a6),(i7,a7),(i8,a8),(i9,a9)] e:=by
 simp only[Prod.mk.injEq]at h
 obtain⟨h0,h1,h2,h3,h4,h5,h6,h7,h8,h9⟩:=h
 exact .cons h0 (.cons h1 (.cons h2 (.cons h3 (.cons h4 (.cons h5 (.cons h6 (.cons h7 (.cons h8 (.cons h9 .nil)))))))))
theorem EU(i0 i1 i2 i3 i4 i5 i6 i7 i8 i9 i10:Nat){a0 a1 a2 a3 a4 a5 a6 a7 a8 a9 Dh:Value}(h:(e.get? i0,e.get? i1,e.get? i2,e.get? i3,e.get? i4,e.get? i5,e.get? i6,e.get? i7,e.get? i8,e.get? i9,e.get? i10)=(some a0,some a1,some a2,some a3,some a4,some a5,some a6,some a7,some a8,some a9,some Dh):=by exact rfl):Sub [(i0,a0),(i1,a1),(i2,a2),(i3,a3),(i4,a4),(i5,a5),(i6,a6),(i7,a7),(i8,a8),(i9,a9),(i10,Dh)] e:=by
 simp only[Prod.mk.injEq]at h
 obtain⟨h0,h1,h2,h3,h4,h5,h6,h7,h8,h9,h10⟩:=h
 exact .cons h0 (.cons h1 (.cons h2 (.cons h3 (.cons h4 (.cons h5 (.cons h6 (.cons h7 (.cons h8 (.cons h9 (.cons h10 .nil))))))))))
end
end Go.Proofs.YtjdkkabcenohcaaGreatDoor
