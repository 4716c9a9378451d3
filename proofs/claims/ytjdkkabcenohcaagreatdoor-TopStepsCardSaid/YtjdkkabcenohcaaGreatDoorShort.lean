import Derived.Test.YtjdkkabcenohcaaGreatDoorBor
set_option linter.unusedVariables false
set_option linter.unusedSimpArgs false
set_option linter.unusedSectionVars false
namespace Go.Proofs.YtjdkkabcenohcaaGreatDoor
open Go.RowKit
class UT (P:Program) (T:TypeId) (d:outParam TypeDesc):Prop where h:P.underlying T=some d
class CT (P:Program) (T:TypeId) (k:outParam Nat):Prop where h:P.cellsOf T=k+1
class FT (P:Program) (T i:Nat) (off ft:outParam Nat):Prop where h: ∃fs,P.underlying T=some (.struct fs)∧pO P fs i off ft
section
variable {P:Program} {n:Nat} {base:Nat} {w0 w:World} {L:List Chunk} {e:Env}
variable {ops rest:List Oper} {Q:Exit→Act→World→Prop} {R:Act→World→Prop} {d:Nat} {D:Option Tmp} {op:Op} {t ty tx:TypeId} {pos:String} {af:Array Edge} {G:Option (Nat×Bool)} {v u:Value} {x y z:Operand}
variable {α:Type} {enc:α→List Value} {sz:Nat} {A:Option Addr} {cap m k i j E T T' off ft:Nat} {xs:List α} {a:α} {kd:IntKind} {p q idx:Int} {b:Nat} {c:Bool}
theorem qF [f:FT P T i off ft][hk:CT P ft k](hx:aD n e x (.pointer (some ⟨b,0,none⟩))):Yd P n base w0 e L ⟨D,.fieldAddr T x i,t,pos,af,G⟩ (.pointer (some ⟨b,off,none⟩)):=by
 obtain⟨fs,h1,h2⟩:=f.h
 exact Y.dQ h1 h2 hk.h hx
theorem qB{dT:TypeDesc}{cs:List Value}(i:Nat)[h:UT P T dT](hd:fx dT=true)(hx:aD n e x (.pointer (some ⟨b,off,none⟩)))(hi:L[i]? =some (aw b T' cs))(hv:nth cs off=some v):Yd P n base w0 e L ⟨D,.load T x,t,pos,af,G⟩ v:=
 Y.lW h.h hd hx hi (by rw[←yO];exact hv)
theorem qL [h:UT P T (.slice E)](hx:aD n e x (.slice A m cap)):Yd P n base w0 e L ⟨D,.call {callee:= .builtin .len,args:= #[x],argTypes:= #[T]},t,pos,af,G⟩ (.int .i64 (m:Int)):=Y.len h.h hx
theorem ym(hx:aD n e x v:=by exact .pl rfl):Yd P n base w0 e L ⟨D,.move x,t,pos,af,G⟩ v:=Y.move hx
theorem sf(hx:aD n e x v:=by exact .pl rfl):c=true→Yd P n base w0 e L ⟨D,.move x,t,pos,af,G⟩ v:=fun _=>Y.move hx
theorem ya(hx:aD n e x v:=by exact .pl rfl):Yd P n base w0 e L ⟨D,.assign x,t,pos,af,G⟩ v:=Y.assign hx
theorem gap(hx:aD n e x v:=by exact .pl rfl):c=true→Yd P n base w0 e L ⟨D,.assign x,t,pos,af,G⟩ v:=fun _=>Y.assign hx
theorem yc{r:Addr}(hx:aD n e x (.pointer (some r)):=by exact .pl rfl):Yd P n base w0 e L ⟨D,.nilCheck x,t,pos,af,G⟩ (.pointer (some r)):=Y.nilCheck hx
theorem AZ{r:Addr}(hx:c=true→aD n e x (.pointer (some r)):=by exact fun h=> .gd h rfl):c=true→Yd P n base w0 e L ⟨D,.nilCheck x,t,pos,af,G⟩ (.pointer (some r)):=fun h=>Y.nilCheck (hx h)
theorem yt{c0:Bool}(hx:aD n e x (.bool c0):=by exact .pl rfl):Yd P n base w0 e L ⟨D,.unOp .not tx x,t,pos,af,G⟩ (.bool (!c0)):=Y.not hx
theorem MV{c0:Bool}(hx:c=true→aD n e x (.bool c0):=by exact fun h=> .gd h rfl):c=true→Yd P n base w0 e L ⟨D,.unOp .not tx x,t,pos,af,G⟩ (.bool (!c0)):=fun h=>Y.not (hx h)
theorem yf [FT P T i off ft][CT P ft k](hx:aD n e x (.pointer (some ⟨b,0,none⟩)):=by exact .pl rfl):Yd P n base w0 e L ⟨D,.fieldAddr T x i,t,pos,af,G⟩ (.pointer (some ⟨b,off,none⟩)):=qF hx
theorem qj [FT P T i off ft][CT P ft k](hx:aD n e x (.pointer (some ⟨b,0,none⟩)):=by exact .pl rfl):c=true→Yd P n base w0 e L ⟨D,.fieldAddr T x i,t,pos,af,G⟩ (.pointer (some ⟨b,off,none⟩)):=fun _=>qF hx
theorem O4 [FT P T i off ft][CT P ft k](hx:c=true→aD n e x (.pointer (some ⟨b,0,none⟩)):=by exact fun h=> .gd h rfl):c=true→Yd P n base w0 e L ⟨D,.fieldAddr T x i,t,pos,af,G⟩ (.pointer (some ⟨b,off,none⟩)):=fun h=>qF (hx h)
theorem yw [UT P T (.slice E)](hx:aD n e x (.slice A m cap):=by exact .pl rfl):Yd P n base w0 e L ⟨D,.call {callee:= .builtin .len,args:= #[x],argTypes:= #[T]},t,pos,af,G⟩ (.int .i64 (m:Int)):=qL hx
theorem gwg [UT P T (.slice E)](hx:c=true→aD n e x (.slice A m cap):=by exact fun h=> .gd h rfl):c=true→Yd P n base w0 e L ⟨D,.call {callee:= .builtin .len,args:= #[x],argTypes:= #[T]},t,pos,af,G⟩ (.int .i64 (m:Int)):=fun h=>qL (hx h)
theorem fj{dT:TypeDesc}{cs:List Value}[UT P T dT](hx:aD n e x (.pointer (some ⟨b,off,none⟩)):=by exact .pl rfl)(hd:fx dT=true:=by exact rfl)(hi:L[0]? =some (aw b T' cs):=by exact rfl)(hv:nth cs off=some v:=by exact rfl):Yd P n base w0 e L ⟨D,.load T x,t,pos,af,G⟩ v:=qB 0 hd hx hi hv
theorem aef{dT:TypeDesc}{cs:List Value}[UT P T dT](hx:aD n e x (.pointer (some ⟨b,off,none⟩)):=by exact .pl rfl)(hd:fx dT=true:=by exact rfl)(hi:L[0]? =some (aw b T' cs):=by exact rfl)(hv:nth cs off=some v:=by exact rfl):c=true→Yd P n base w0 e L ⟨D,.load T x,t,pos,af,G⟩ v:=fun _=>qB 0 hd hx hi hv
theorem lM{dT:TypeDesc}{cs:List Value}[UT P T dT](hx:c=true→aD n e x (.pointer (some ⟨b,off,none⟩)):=by exact fun h=> .gd h rfl)(hd:fx dT=true:=by exact rfl)(hi:L[0]? =some (aw b T' cs):=by exact rfl)(hv:nth cs off=some v:=by exact rfl):c=true→Yd P n base w0 e L ⟨D,.load T x,t,pos,af,G⟩ v:=fun h=>qB 0 hd (hx h) hi hv
theorem rK{dT:TypeDesc}{cs:List Value}[UT P T dT](hx:aD n e x (.pointer (some ⟨b,off,none⟩)):=by exact .pl rfl)(hd:fx dT=true:=by exact rfl)(hi:L[1]? =some (aw b T' cs):=by exact rfl)(hv:nth cs off=some v:=by exact rfl):Yd P n base w0 e L ⟨D,.load T x,t,pos,af,G⟩ v:=qB 1 hd hx hi hv
theorem aie{dT:TypeDesc}{cs:List Value}[UT P T dT](hx:aD n e x (.pointer (some ⟨b,off,none⟩)):=by exact .pl rfl)(hd:fx dT=true:=by exact rfl)(hi:L[1]? =some (aw b T' cs):=by exact rfl)(hv:nth cs off=some v:=by exact rfl):c=true→Yd P n base w0 e L ⟨D,.load T x,t,pos,af,G⟩ v:=fun _=>qB 1 hd hx hi hv
theorem O5{dT:TypeDesc}{cs:List Value}[UT P T dT](hx:c=true→aD n e x (.pointer (some ⟨b,off,none⟩)):=by exact fun h=> .gd h rfl)(hd:fx dT=true:=by exact rfl)(hi:L[1]? =some (aw b T' cs):=by exact rfl)(hv:nth cs off=some v:=by exact rfl):c=true→Yd P n base w0 e L ⟨D,.load T x,t,pos,af,G⟩ v:=fun h=>qB 1 hd (hx h) hi hv
theorem O6{dT:TypeDesc}{cs:List Value}[UT P T dT](hx:aD n e x (.pointer (some ⟨b,off,none⟩)):=by exact .pl rfl)(hd:fx dT=true:=by exact rfl)(hi:L[2]? =some (aw b T' cs):=by exact rfl)(hv:nth cs off=some v:=by exact rfl):Yd P n base w0 e L ⟨D,.load T x,t,pos,af,G⟩ v:=qB 2 hd hx hi hv
theorem aif{dT:TypeDesc}{cs:List Value}[UT P T dT](hx:c=true→aD n e x (.pointer (some ⟨b,off,none⟩)):=by exact fun h=> .gd h rfl)(hd:fx dT=true:=by exact rfl)(hi:L[2]? =some (aw b T' cs):=by exact rfl)(hv:nth cs off=some v:=by exact rfl):c=true→Yd P n base w0 e L ⟨D,.load T x,t,pos,af,G⟩ v:=fun h=>qB 2 hd (hx h) hi hv
theorem yb3{dT:TypeDesc}{cs:List Value}[UT P T dT](hx:aD n e x (.pointer (some ⟨b,off,none⟩)):=by exact .pl rfl)(hd:fx dT=true:=by exact rfl)(hi:L[3]? =some (aw b T' cs):=by exact rfl)(hv:nth cs off=some v:=by exact rfl):Yd P n base w0 e L ⟨D,.load T x,t,pos,af,G⟩ v:=qB 3 hd hx hi hv
theorem yb4{dT:TypeDesc}{cs:List Value}[UT P T dT](hx:aD n e x (.pointer (some ⟨b,off,none⟩)):=by exact .pl rfl)(hd:fx dT=true:=by exact rfl)(hi:L[4]? =some (aw b T' cs):=by exact rfl)(hv:nth cs off=some v:=by exact rfl):Yd P n base w0 e L ⟨D,.load T x,t,pos,af,G⟩ v:=qB 4 hd hx hi hv
theorem yb5{dT:TypeDesc}{cs:List Value}[UT P T dT](hx:aD n e x (.pointer (some ⟨b,off,none⟩)):=by exact .pl rfl)(hd:fx dT=true:=by exact rfl)(hi:L[5]? =some (aw b T' cs):=by exact rfl)(hv:nth cs off=some v:=by exact rfl):Yd P n base w0 e L ⟨D,.load T x,t,pos,af,G⟩ v:=qB 5 hd hx hi hv
theorem yb6{dT:TypeDesc}{cs:List Value}[UT P T dT](hx:aD n e x (.pointer (some ⟨b,off,none⟩)):=by exact .pl rfl)(hd:fx dT=true:=by exact rfl)(hi:L[6]? =some (aw b T' cs):=by exact rfl)(hv:nth cs off=some v:=by exact rfl):Yd P n base w0 e L ⟨D,.load T x,t,pos,af,G⟩ v:=qB 6 hd hx hi hv
theorem aig{dT:TypeDesc}{cs:List Value}[UT P T dT](hx:aD n e x (.pointer (some ⟨b,off,none⟩)):=by exact .pl rfl)(hd:fx dT=true:=by exact rfl)(hi:L[6]? =some (aw b T' cs):=by exact rfl)(hv:nth cs off=some v:=by exact rfl):c=true→Yd P n base w0 e L ⟨D,.load T x,t,pos,af,G⟩ v:=fun _=>qB 6 hd hx hi hv
theorem aih{dT:TypeDesc}{cs:List Value}[UT P T dT](hx:aD n e x (.pointer (some ⟨b,off,none⟩)):=by exact .pl rfl)(hd:fx dT=true:=by exact rfl)(hi:L[7]? =some (aw b T' cs):=by exact rfl)(hv:nth cs off=some v:=by exact rfl):c=true→Yd P n base w0 e L ⟨D,.load T x,t,pos,af,G⟩ v:=fun _=>qB 7 hd hx hi hv
theorem ye(hx:aD n e x (.int kd p):=by exact .pl rfl)(hy:aD n e y (.int kd q):=by exact .pl rfl):Yd P n base w0 e L ⟨D,.binOp .eql tx x y ty,t,pos,af,G⟩ (.bool (decide (p=q))):=Y.eql hx hy
theorem aeg(hx:c=true→aD n e x (.int kd p):=by exact fun h=> .gd h rfl)(hy:c=true→aD n e y (.int kd q):=by exact fun h=> .gd h rfl):c=true→Yd P n base w0 e L ⟨D,.binOp .eql tx x y ty,t,pos,af,G⟩ (.bool (decide (p=q))):=fun h=>Y.eql (hx h) (hy h)
theorem yn(hx:aD n e x (.int kd p):=by exact .pl rfl)(hy:aD n e y (.int kd q):=by exact .pl rfl):Yd P n base w0 e L ⟨D,.binOp .neq tx x y ty,t,pos,af,G⟩ (.bool (!decide (p=q))):=Y.neq hx hy
theorem aeh(hx:c=true→aD n e x (.int kd p):=by exact fun h=> .gd h rfl)(hy:aD n e y (.int kd q):=by exact .pl rfl):c=true→Yd P n base w0 e L ⟨D,.binOp .neq tx x y ty,t,pos,af,G⟩ (.bool (!decide (p=q))):=fun h=>Y.neq (hx h) hy
theorem aii(hx:c=true→aD n e x (.int kd p):=by exact fun h=> .gd h rfl)(hy:c=true→aD n e y (.int kd q):=by exact fun h=> .gd h rfl):c=true→Yd P n base w0 e L ⟨D,.binOp .neq tx x y ty,t,pos,af,G⟩ (.bool (!decide (p=q))):=fun h=>Y.neq (hx h) (hy h)
theorem yl(hx:aD n e x (.int kd p):=by exact .pl rfl)(hy:aD n e y (.int kd q):=by exact .pl rfl):Yd P n base w0 e L ⟨D,.binOp .lss tx x y ty,t,pos,af,G⟩ (.bool (decide (p < q))):=Y.lss hx hy
theorem aij(hx:c=true→aD n e x (.int kd p):=by exact fun h=> .gd h rfl)(hy:aD n e y (.int kd q):=by exact .pl rfl):c=true→Yd P n base w0 e L ⟨D,.binOp .lss tx x y ty,t,pos,af,G⟩ (.bool (decide (p < q))):=fun h=>Y.lss (hx h) hy
theorem YC(hx:c=true→aD n e x (.int kd p):=by exact fun h=> .gd h rfl)(hy:c=true→aD n e y (.int kd q):=by exact fun h=> .gd h rfl):c=true→Yd P n base w0 e L ⟨D,.binOp .lss tx x y ty,t,pos,af,G⟩ (.bool (decide (p < q))):=fun h=>Y.lss (hx h) (hy h)
theorem yg(hx:aD n e x (.int kd p):=by exact .pl rfl)(hy:aD n e y (.int kd q):=by exact .pl rfl):Yd P n base w0 e L ⟨D,.binOp .gtr tx x y ty,t,pos,af,G⟩ (.bool (decide (q < p))):=Y.gtr hx hy
theorem aik(hx:c=true→aD n e x (.int kd p):=by exact fun h=> .gd h rfl)(hy:aD n e y (.int kd q):=by exact .pl rfl):c=true→Yd P n base w0 e L ⟨D,.binOp .gtr tx x y ty,t,pos,af,G⟩ (.bool (decide (q < p))):=fun h=>Y.gtr (hx h) hy
theorem yj(hx:aD n e x (.int kd p):=by exact .pl rfl)(hy:aD n e y (.int kd q):=by exact .pl rfl):Yd P n base w0 e L ⟨D,.binOp .geq tx x y ty,t,pos,af,G⟩ (.bool (decide (q≤p))):=Y.geq hx hy
theorem ail(hx:c=true→aD n e x (.int kd p):=by exact fun h=> .gd h rfl)(hy:aD n e y (.int kd q):=by exact .pl rfl):c=true→Yd P n base w0 e L ⟨D,.binOp .geq tx x y ty,t,pos,af,G⟩ (.bool (decide (q≤p))):=fun h=>Y.geq (hx h) hy
theorem O7(hx:c=true→aD n e x (.int kd p):=by exact fun h=> .gd h rfl)(hy:c=true→aD n e y (.int kd q):=by exact fun h=> .gd h rfl):c=true→Yd P n base w0 e L ⟨D,.binOp .geq tx x y ty,t,pos,af,G⟩ (.bool (decide (q≤p))):=fun h=>Y.geq (hx h) (hy h)
theorem yo{c0 c1:Bool}(hx:aD n e x (.bool c0):=by exact .pl rfl)(hz:c0=false→aD n e z (.bool c1):=by exact fun h=> .gd (JC h) rfl):Yd P n base w0 e L ⟨D,.pick x (.const (.bool true)) z,t,pos,af,G⟩ (.bool (c0||c1)):=Y.or hx hz
theorem yd{c0 c1:Bool}(hx:aD n e x (.bool c0):=by exact .pl rfl)(hy:c0=true→aD n e y (.bool c1):=by exact fun h=> .gd (SH h) rfl):Yd P n base w0 e L ⟨D,.pick x y (.const (.bool false)),t,pos,af,G⟩ (.bool (c0&&c1)):=Y.and hx hy
theorem yx{vs:Array Value}(hx:aD n e x (.tuple vs):=by exact .pl rfl)(hv:nth vs.toList i=some v:=by exact rfl):Yd P n base w0 e L ⟨D,.extract x i,t,pos,af,G⟩ v:=Y.extract hx hv
theorem Sq(y:Yd P n base w0 e L ⟨some d,op,t,pos,af,none⟩ v)(k:WS P ops n base w0 ((d,v)::e) L rest R)(hd:Nat.blt d n=true:=by exact rfl):WS P ops n base w0 e L (⟨some d,op,t,pos,af,none⟩::rest) R:=WS.q y hd k
theorem Dq{R:Act→Prop}(y:Yd P n base w0 e L ⟨some d,op,t,pos,af,none⟩ v)(k:WD P ops n base w0 ((d,v)::e) L rest R)(hd:Nat.blt d n=true:=by exact rfl):WD P ops n base w0 e L (⟨some d,op,t,pos,af,none⟩::rest) R:=WD.q y hd k
theorem Dg{R:Act→Prop}{j:Nat}{want c:Bool}(y:c=true→Yd P n base w0 e L ⟨some d,op,t,pos,af,some (j,want)⟩ v)(k:WD P ops n base w0 ((d,gv c v)::e) L rest R)(g:Gd ops n e j want c:=by exact .pl rfl rfl rfl)(hd:Nat.blt d n=true:=by exact rfl):WD P ops n base w0 e L (⟨some d,op,t,pos,af,some (j,want)⟩::rest) R:=WD.g g y hd k
theorem Wc{c1 c2:Code}{c0:Bool}{β:Type}{m1 m2:Option β}{r:β}(hF:cond c0 m1 m2=some r)(ht:c0=true→m1=some r→W P n base w0 e L c1 Q)(hf:c0=false→m2=some r→W P n base w0 e L c2 Q)(hx:aD n e x (.bool c0):=by exact .pl rfl):W P n base w0 e L (.cond x c1 c2) Q:=W.cond hx (fun h=>ht h (km h hF)) (fun h=>hf h (ko h hF))
theorem oi{β:Type}{a b:β}(h:some a=some b):a=b:=Option.some.inj h
section
variable {f:FuncId} {args:List Operand} {vs:List Value} {ats:Array TypeId}
end
section
variable {L0:List Chunk} {K:Act→World→Prop} {fuel s:Nat} {listed:Array Bool}
theorem Xp(i:Nat)(hi:ops[i]? =some ⟨some d,op,t,pos,af,none⟩)(y: ∀base w0,Yd P n base w0 e [] ⟨some d,op,t,pos,af,none⟩ v)(k:WX P ops n base w0 ((d,v)::e) L L0 s fuel (listed.setIfInBounds i true) K)
  (hB:(Region.noSelect ops.toArray&&Region.free .any ops.toArray listed i&&(Region.ready .any ops.toArray listed).contains i&&listed.setIfInBounds i true==listed.setIfInBounds i true&&xJ ops.toArray listed&& !(Nat.beq s i))=true:=by kernel_rfl)(hd:Nat.blt d n=true:=by exact rfl):WX P ops n base w0 e L L0 s (fuel+1) listed K:=WX.pure i _ hi hB y hd k
theorem Xt(i:Nat)(hi:ops[i]? =some ⟨some d,op,t,pos,af,none⟩)(y:Yd P n base w0 e L0 ⟨some d,op,t,pos,af,none⟩ v)(k:WX P ops n base w0 ((d,v)::e) L L0 s fuel (listed.setIfInBounds i true) K)
  (hs: ∀w,St base w0 L w→St base w0 L0 w:=by exact fun _ h=>St.tail [] h)
  (hB:(Region.noSelect ops.toArray&&Region.free .any ops.toArray listed i&&(Region.ready .any ops.toArray listed).contains i&&listed.setIfInBounds i true==listed.setIfInBounds i true&&xJ ops.toArray listed&&Ai ops.toArray i ops.length s&& !(Nat.beq s i))=true:=by kernel_rfl)(hd:Nat.blt d n=true:=by exact rfl):WX P ops n base w0 e L L0 s (fuel+1) listed K:=WX.take i _ hs hi hB y hd k
theorem Xo(i:Nat){o:Oper}(hi:ops[i]? =some o)(h:WO P ops n base w0 e L o (anyI P ops.toArray (fun x a w=>x= .normal∧K a w) (St base w0 L0) s fuel (listed.setIfInBounds i true)) (fun x a w=>x= .normal∧K a w))
  (hs: ∀w,St base w0 L w→St base w0 L0 w:=by exact fun _ h=>St.tail [] h)(hB:(Region.ready .any ops.toArray listed== [i]&&listed.setIfInBounds i true==listed.setIfInBounds i true)=true:=by kernel_rfl):WX P ops n base w0 e L L0 s (fuel+1) listed K:=WX.one i _ hs hi hB h
theorem Xs{o:Oper}(hi:ops[s]? =some o)(h:WO P ops n base w0 e L o (wpAny P .any ops.toArray (fun x a w=>x= .normal∧K a w) fuel (listed.setIfInBounds s true)) (fun x a w=>x= .normal∧K a w))
  (hs: ∀w,St base w0 L w→St base w0 L0 w:=by exact fun _ h=>St.tail [] h)(hB:(Region.ready .any ops.toArray listed== [s]&&listed.setIfInBounds s true==listed.setIfInBounds s true&&(listed.setIfInBounds s true).getD s false)=true:=by kernel_rfl):WX P ops n base w0 e L L0 s (fuel+1) listed K:=WX.stop _ hs hi hB h
end
theorem nl{k:Nat}:k < k.succ:=Nat.lt_succ_self k
theorem kr{r:Env}(h:Sub r e:=by repeat (first|exact .nil|refine .cons (by exact rfl) ?_)):Sub r e:=h
theorem We(n:Nat){f:FuncId}{fn:Func}{args:List Value}{Rr:Ending→World→Prop}{c:Code}{w0 w:World}{L:List Chunk}(hf:P.funcs[f]? =some fn)(hw:St base w0 L w)
  (h: ∀R':Ending→World→Prop,(∀e w',Rr e w'→R' e w')→W P n base w0 (FQ 0 args) L c (bodyPost P fn R'))(hb:fn.body=some c:=by exact rfl)(hn:fn.ntmps=n:=by exact rfl)(hle:args.length≤n:=by simp):Calls P f args.toArray w Rr:=W.enter hf hb hn Sub.refl hle hw h
theorem mM(i0:Nat){a0:Value}(h:(e.get? i0)=(some a0):=by exact rfl):Sub [(i0,a0)] e:= .cons h .nil
theorem m_(i0 i1:Nat){a0 a1:Value}(h:(e.get? i0,e.get? i1)=(some a0,some a1):=by exact rfl):Sub [(i0,a0),(i1,a1)] e:=by
 simp only[Prod.mk.injEq]at h
 obtain⟨h0,h1⟩:=h
 exact .cons h0 (.cons h1 .nil)
theorem fY(i0 i1 i2:Nat){a0 a1 a2:Value}(h:(e.get? i0,e.get? i1,e.get? i2)=(some a0,some a1,some a2):=by exact rfl):Sub [(i0,a0),(i1,a1),(i2,a2)] e:=by
 simp only[Prod.mk.injEq]at h
 obtain⟨h0,h1,h2⟩:=h
 exact .cons h0 (.cons h1 (.cons h2 .nil))
theorem lE(i0 i1 i2 i3:Nat){a0 a1 a2 a3:Value}(h:(e.get? i0,e.get? i1,e.get? i2,e.get? i3)=(some a0,some a1,some a2,some a3):=by exact rfl):Sub [(i0,a0),(i1,a1),(i2,a2),(i3,a3)] e:=by
 simp only[Prod.mk.injEq]at h
 obtain⟨h0,h1,h2,h3⟩:=h
 exact .cons h0 (.cons h1 (.cons h2 (.cons h3 .nil)))
theorem wl(i0 i1 i2 i3 i4:Nat){a0 a1 a2 a3 a4:Value}(h:(e.get? i0,e.get? i1,e.get? i2,e.get? i3,e.get? i4)=(some a0,some a1,some a2,some a3,some a4):=by exact rfl):Sub [(i0,a0),(i1,a1),(i2,a2),(i3,a3),(i4,a4)] e:=by
 simp only[Prod.mk.injEq]at h
 obtain⟨h0,h1,h2,h3,h4⟩:=h
 exact .cons h0 (.cons h1 (.cons h2 (.cons h3 (.cons h4 .nil))))
theorem zX(i0 i1 i2 i3 i4 i5:Nat){a0 a1 a2 a3 a4 a5:Value}(h:(e.get? i0,e.get? i1,e.get? i2,e.get? i3,e.get? i4,e.get? i5)=(some a0,some a1,some a2,some a3,some a4,some a5):=by exact rfl):Sub [(i0,a0),(i1,a1),(i2,a2),(i3,a3),(i4,a4),(i5,a5)] e:=by
 simp only[Prod.mk.injEq]at h
 obtain⟨h0,h1,h2,h3,h4,h5⟩:=h
 exact .cons h0 (.cons h1 (.cons h2 (.cons h3 (.cons h4 (.cons h5 .nil)))))
theorem O8(i0 i1 i2 i3 i4 i5 i6:Nat){a0 a1 a2 a3 a4 a5 a6:Value}(h:(e.get? i0,e.get? i1,e.get? i2,e.get? i3,e.get? i4,e.get? i5,e.get? i6)=(some a0,some a1,some a2,some a3,some a4,some a5,some a6):=by exact rfl):Sub [(i0,a0),(i1,a1),(i2,a2),(i3,a3),(i4,a4),(i5,a5),(i6,a6)] e:=by
 simp only[Prod.mk.injEq]at h
 obtain⟨h0,h1,h2,h3,h4,h5,h6⟩:=h
 exact .cons h0 (.cons h1 (.cons h2 (.cons h3 (.cons h4 (.cons h5 (.cons h6 .nil))))))
theorem ks8(i0 i1 i2 i3 i4 i5 i6 i7:Nat){a0 a1 a2 a3 a4 a5 a6 a7:Value}(h:(e.get? i0,e.get? i1,e.get? i2,e.get? i3,e.get? i4,e.get? i5,e.get? i6,e.get? i7)=(some a0,some a1,some a2,some a3,some a4,some a5,some a6,some a7):=by exact rfl):Sub [(i0,a0),(i1,a1),(i2,a2),(i3,a3),(i4,a4),(i5,a5),(i6,a6),(i7,a7)] e:=by
 simp only[Prod.mk.injEq]at h
 obtain⟨h0,h1,h2,h3,h4,h5,h6,h7⟩:=h
 exact .cons h0 (.cons h1 (.cons h2 (.cons h3 (.cons h4 (.cons h5 (.cons h6 (.cons h7 .nil)))))))
theorem S4(i0 i1 i2 i3 i4 i5 i6 i7 i8:Nat){a0 a1 a2 a3 a4 a5 a6 a7 a8:Value}(h:(e.get? i0,e.get? i1,e.get? i2,e.get? i3,e.get? i4,e.get? i5,e.get? i6,e.get? i7,e.get? i8)=(some a0,some a1,some a2,some a3,some a4,some a5,some a6,some a7,some a8):=by exact rfl):Sub [(i0,a0),(i1,a1),(i2,a2),(i3,a3),(i4,a4),(i5,a5),(i6,a6),(i7,a7),(i8,a8)] e:=by
 simp only[Prod.mk.injEq]at h
 obtain⟨h0,h1,h2,h3,h4,h5,h6,h7,h8⟩:=h
 exact .cons h0 (.cons h1 (.cons h2 (.cons h3 (.cons h4 (.cons h5 (.cons h6 (.cons h7 (.cons h8 .nil))))))))
theorem aei(i0 i1 i2 i3 i4 i5 i6 i7 i8 i9:Nat){a0 a1 a2 a3 a4 a5 a6 a7 a8 a9:Value}(h:(e.get? i0,e.get? i1,e.get? i2,e.get? i3,e.get? i4,e.get? i5,e.get? i6,e.get? i7,e.get? i8,e.get? i9)=(some a0,some a1,some a2,some a3,some a4,some a5,some a6,some a7,some a8,some a9):=by exact rfl):Sub [(i0,a0),(i1,a1),(i2,a2),(i3,a3),(i4,a4),(i5,a5),(i6,a6),(i7,a7),(i8,a8),(i9,a9)] e:=by
 simp only[Prod.mk.injEq]at h
 obtain⟨h0,h1,h2,h3,h4,h5,h6,h7,h8,h9⟩:=h
 exact .cons h0 (.cons h1 (.cons h2 (.cons h3 (.cons h4 (.cons h5 (.cons h6 (.cons h7 (.cons h8 (.cons h9 .nil)))))))))
theorem O9(i0 i1 i2 i3 i4 i5 i6 i7 i8 i9 i10:Nat){a0 a1 a2 a3 a4 a5 a6 a7 a8 a9 MW:Value}(h:(e.get? i0,e.get? i1,e.get? i2,e.get? i3,e.get? i4,e.get? i5,e.get? i6,e.get? i7,e.get? i8,e.get? i9,e.get? i10)=(some a0,some a1,some a2,some a3,some a4,some a5,some a6,some a7,some a8,some a9,some MW):=by exact rfl):Sub [(i0,a0),(i1,a1),(i2,a2),(i3,a3),(i4,a4),(i5,a5),(i6,a6),(i7,a7),(i8,a8),(i9,a9),(i10,MW)] e:=by
 simp only[Prod.mk.injEq]at h
 obtain⟨h0,h1,h2,h3,h4,h5,h6,h7,h8,h9,h10⟩:=h
 exact .cons h0 (.cons h1 (.cons h2 (.cons h3 (.cons h4 (.cons h5 (.cons h6 (.cons h7 (.cons h8 (.cons h9 (.cons h10 .nil))))))))))
end
end Go.Proofs.YtjdkkabcenohcaaGreatDoor
