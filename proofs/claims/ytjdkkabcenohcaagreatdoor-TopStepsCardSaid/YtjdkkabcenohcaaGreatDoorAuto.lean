import Derived.Test.YtjdkkabcenohcaaGreatDoorShort
import Derived.Test.YtjdkkabcenohcaaGreatDoorOpt
import Derived.Test.YtjdkkabcenohcaaGreatDoorIface
set_option linter.unusedVariables false
set_option linter.unusedSimpArgs false
set_option linter.unusedSectionVars false
namespace Go.Proofs.YtjdkkabcenohcaaGreatDoor
open Go.RowKit
class ZI (P:Program) (T:TypeId) (z:outParam Value):Prop where h: ∃i,P.info? T=some i∧i.zero=some z
class ON {α:Type} (enc:α→List Value):Prop where h: ∀x,∀v∈enc x,v.oneCell'=true
class EN {α:Type} (enc:α→List Value) (sz:outParam Nat):Prop where h: ∀a,(enc a).length=sz
instance(k:IntKind):EN (eI k) 1:=⟨fun _=>rfl⟩
instance:EN eB 1:=⟨fun _=>rfl⟩
instance:EN eS 1:=⟨fun _=>rfl⟩
theorem gg{P:Program}{f:FuncId}{fn:Func}(h:P.funcs[f]? =some fn)(hb:(!(fn.name== "runtime.NumGoroutine")&& !fn.body.isNone)=true:=by kernel_rfl):se P f:=by
 simp only[Bool.and_eq_true,Bool.not_eq_true']at hb
 exact⟨fn,h,hb.1,hb.2⟩
def nx(P:Program)(y:Code)(Q:Exit→Act→World→Prop):Exit→Act→World→Prop:=fun x a w=>x= .normal∧y.wp P Q a w
def th(P:Program)(y:Code)(Q:Exit→Act→World→Prop):Exit→Act→World→Prop:=Exit.then (fun a w=>y.wp P Q a w) Q
structure E(n base:Nat)(w0:World)(e:Env)(L:List Chunk)(x:Exit)(Q:Exit→Act→World→Prop):Prop where h: ∀a w,Fits n e a→St base w0 L w→Q x a w
structure Bx(q:Prop):Prop where u:q
section
variable {P:Program} {n:Nat} {base:Nat} {w0 w:World} {L:List Chunk} {e:Env}
variable {ops rest:List Oper} {Q:Exit→Act→World→Prop} {R:Act→World→Prop} {d:Nat} {D:Option Tmp} {op:Op} {t ty tx:TypeId} {pos:String} {af:Array Edge} {G:Option (Nat×Bool)} {v u:Value} {x y z:Operand}
variable {α:Type} {enc:α→List Value} {sz:Nat} {A:Option Addr} {cap m k i j T T' off ft:Nat} {xs:List α} {a:α} {kd:IntKind} {p q idx:Int} {p':Nat} {b:Nat} {c:Bool}
variable {c1 y1:Code} {id id':Nat}
theorem iR{l:List Oper}(h:WL P l n base w0 e L l (nx P y1 Q)):W P n base w0 e L (.seq (.region id l.toArray false) y1) Q:=fun a w ha hw=>wp_seq (wp_mono (wp_region_lit (h a w ha hw)) (by rintro e a w ⟨rfl,h⟩;exact h))
theorem iS(h:W P n base w0 e L c1 (th P y1 Q)):W P n base w0 e L (.seq c1 y1) Q:=fun a w ha hw=>wp_seq (h a w ha hw)
theorem iZ(h:E n base w0 e L .normal Q):WL P ops n base w0 e L [] Q:=WL.nil h.h
theorem iK(h:E n base w0 e L .normal Q):W P n base w0 e L .skip Q:=W.skip h.h
theorem iX(h:E n base w0 e L (.exit id) Q):W P n base w0 e L (.exit id) Q:=W.exit h.h
theorem xN(h:W P n base w0 e L y1 Q):E n base w0 e L .normal (nx P y1 Q):=⟨fun a w ha hw=>⟨rfl,h a w ha hw⟩⟩
theorem xQ{Q0:Exit→Act→World→Prop}(hQ: ∀a w,y1.wp P Q0 a w→Q .normal a w)(k:W P n base w0 e L y1 Q0):E n base w0 e L .normal Q:=⟨fun a w ha hw=>hQ a w (k a w ha hw)⟩
theorem xT(h:W P n base w0 e L y1 Q):E n base w0 e L .normal (th P y1 Q):=⟨h⟩
theorem xX(h:E n base w0 e L (.exit id) Q):E n base w0 e L (.exit id) (th P y1 Q):=⟨h.h⟩
theorem xK{K:Act→World→Prop}(h:E n base w0 e L (.exit id) Q):E n base w0 e L (.exit id) (Exit.then K Q):=⟨h.h⟩
theorem xB(h:E n base w0 e L .normal Q):E n base w0 e L .normal (Exit.inBlock id Q):=⟨h.h⟩
theorem xC(h:E n base w0 e L .normal Q):E n base w0 e L (.exit id) (Exit.inBlock id Q):=⟨fun a w ha hw=>by unfold Exit.inBlock;simpa using h.h a w ha hw⟩
theorem xD(hn:Nat.beq id' id=false)(h:E n base w0 e L (.exit id') Q):E n base w0 e L (.exit id') (Exit.inBlock id Q):=⟨fun a w ha hw=>by
 have:id'≠id:=fun h=>by simp[h]at hn
 unfold Exit.inBlock;simpa[this,Ne.symm this]using h.h a w ha hw⟩
theorem oh{c:Chunk}:(c::L)[0]? =some c:=rfl
theorem Ci{c c':Chunk}{i:Nat}(h:L[i]? =some c):(c'::L)[i+1]? =some c:=h
theorem ev{p:Prop}(h:p:=by first|(apply aD.pl;apply rfl)|(apply aD.gd hg;apply rfl)):p:=h
theorem eg{p:Prop}(h:p:=by first|(apply aD.gd hg;apply rfl)|(apply aD.pl;apply rfl)):p:=h
theorem vl{p:Prop}(h:p:=by((repeat (apply ik.cons;(exact ev)));apply ik.nil)):p:=h
theorem ci{p:Prop}(h:p:=by first|(with_reducible apply oh)|apply oh|(apply Ci;first|(with_reducible apply oh)|apply oh|(apply Ci;first|(with_reducible apply oh)|apply oh|(apply Ci;first|(with_reducible apply oh)|apply oh|(apply Ci;first|(with_reducible apply oh)|apply oh|(apply Ci;first|(with_reducible apply oh)|apply oh|(apply Ci;first|(with_reducible apply oh)|apply oh|(apply Ci;first|(with_reducible apply oh)|apply oh|(apply Ci;first|(with_reducible apply oh)|apply oh|(apply Ci;first|(with_reducible apply oh)|apply oh|(apply Ci;first|(with_reducible apply oh)|apply oh|(apply Ci;first|(with_reducible apply oh)|apply oh|(apply Ci;first|(with_reducible apply oh)|apply oh|(apply Ci;first|(with_reducible apply oh)|apply oh|(apply Ci;first|(with_reducible apply oh)|apply oh))))))))))))))):p:=h
theorem hx{p:Prop}(h:p:=by first|assumption|(apply fq hg;assumption)):p:=h
theorem tA [f:FT P T i off ft][hk:CT P ft k](hx:aD n e x (.pointer (some ⟨b,0,none⟩))):Yd P n base w0 e L ⟨D,.fieldAddr T x i,t,pos,af,G⟩ (.pointer (some ⟨b,off,none⟩)):=by
 obtain⟨fs,h1,h2⟩:=f.h
 exact Y.dQ h1 h2 hk.h hx
theorem tB{dT:TypeDesc}{cs:List Value}[h:UT P T dT](hx:aD n e x (.pointer (some ⟨b,off,none⟩)))(hi:L[i]? =some (aw b T' cs))(hd:fx dT=true)(hv:nth cs off=some v):Yd P n base w0 e L ⟨D,.load T x,t,pos,af,G⟩ v:=
 Y.lW h.h hd hx hi (by rw[←yO];exact hv)
theorem tL{E:Nat}[h:UT P T (.slice E)](hx:aD n e x (.slice A m cap)):Yd P n base w0 e L ⟨D,.call {callee:= .builtin .len,args:= #[x],argTypes:= #[T]},t,pos,af,G⟩ (.int .i64 (m:Int)):=Y.len h.h hx
theorem aaP{m c:Nat}(hs:bi enc sz w (.slice A m c) xs):m=xs.length:=by
 obtain⟨A',c',h,_,_⟩:=hs.form
 simp only[Value.slice.injEq]at h
 exact h.2.1
theorem tS{m c E:Nat}[h:UT P T (.slice E)][hk:CT P E k](hx:aD n e x (.slice A m c))(hy:aD n e y (.int kd idx))(hs:bi enc sz w (.slice A m c) xs)(hb:ix xs idx=some a):
  Yd P n base w0 e L ⟨D,.indexAddr T x y,t,pos,af,G⟩ (.pointer (some (dr A (idx.toNat * (k+1))))):=by
 obtain rfl:=aaP hs
 exact Y.mT h.h hk.h hs hx hy (ai hb)
theorem tD{dT:TypeDesc}{L:List Chunk}[hT:UT P T dT](hx:aD n e x (.pointer (some (dr A (idx.toNat * (k+1))))))(h:bi enc (k+1) w0 (.slice A m cap) xs)(ha:ix xs idx=some a)(hd:fx dT=true)(hv:nth (enc a) 0=some v):
  Yd P n w0.heap.size w0 e L ⟨D,.load T x,t,pos,af,G⟩ v:=Y.pE hT.h hd h hx ha rfl (by rw[←yO];exact hv)
theorem tE{dT:TypeDesc}{L:List Chunk}[hT:UT P T dT](hx:aD n e x (.pointer (some (dr A (idx.toNat * (k+1)+off)))))(h:bi enc (k+1) w0 (.slice A m cap) xs)(ha:ix xs idx=some a)(hd:fx dT=true)(hv:nth (enc a) off=some v):
  Yd P n w0.heap.size w0 e L ⟨D,.load T x,t,pos,af,G⟩ v:=Y.pE hT.h hd h hx ha rfl (by rw[←yO];exact hv)
theorem tF{dT:TypeDesc}{L:List Chunk}[hT:UT P T dT][hk:CT P T j](hx:aD n e x (.pointer (some (dr A (idx.toNat * (k+1))))))(h:bi enc (k+1) w0 (.slice A m cap) xs)(ha:ix xs idx=some a)(hd:xG dT=true)(hl:(enc a).length=j+1):
  Yd P n w0.heap.size w0 e L ⟨D,.load T x,t,pos,af,G⟩ (.agg (enc a).toArray):=Y.wi hT.h hd hk.h h hx ha rfl hl mB
theorem tC{dT:TypeDesc}{cs:List Value}[h:UT P T dT][hk:CT P T k](hx:aD n e x (.pointer (some ⟨b,0,none⟩)))(hi:L[i]? =some (aw b T' cs))(hd:xG dT=true)(hl:cs.length=k+1):Yd P n base w0 e L ⟨D,.load T x,t,pos,af,G⟩ (.agg cs.toArray):=
 Y.yQ h.h hd hk.h hx hi hl mB
theorem tG{E:Nat}[h:UT P T (.slice E)][hk:CT P E k](hx:aD n e x (.slice A m cap))(hy:aD n e y (.int kd idx))(hi:L[i]? =some (cR enc sz A cap T' xs))(hm:m=xs.length)(hb:ix xs idx=some a):
  Yd P n base w0 e L ⟨D,.indexAddr T x y,t,pos,af,G⟩ (.pointer (some (dr A (idx.toNat * (k+1))))):=Y.mU h.h hk.h hi hx hm hy (ai hb)
theorem tH{dT:TypeDesc}[hT:UT P T dT](hx:aD n e x (.pointer (some (dr A (idx.toNat * (k+1))))))(hi:L[i]? =some (cR enc (k+1) A cap T' xs))(ha:ix xs idx=some a)(hz:EN enc sz)(hs:sz=k+1)(hd:fx dT=true)(hv:nth (enc a) 0=some v):
  Yd P n base w0 e L ⟨D,.load T x,t,pos,af,G⟩ v:=Y.gD hT.h hd (hs▸hz.h) hi hx (aI ha) rfl (by rw[←yO];exact hv)
theorem tI{dT:TypeDesc}[hT:UT P T dT](hx:aD n e x (.pointer (some (dr A (idx.toNat * (k+1)+off)))))(hi:L[i]? =some (cR enc (k+1) A cap T' xs))(ha:ix xs idx=some a)(hz:EN enc sz)(hs:sz=k+1)(hd:fx dT=true)(hv:nth (enc a) off=some v):
  Yd P n base w0 e L ⟨D,.load T x,t,pos,af,G⟩ v:=Y.gD hT.h hd (hs▸hz.h) hi hx (aI ha) rfl (by rw[←yO];exact hv)
theorem tJ{dT:TypeDesc}[hT:UT P T dT][hk:CT P T j](hx:aD n e x (.pointer (some (dr A (idx.toNat * (k+1))))))(hi:L[i]? =some (cR enc (k+1) A cap T' xs))(ha:ix xs idx=some a)(hz:EN enc sz)(hs:sz=k+1)(hd:xG dT=true)(hl:(enc a).length=j+1):
  Yd P n base w0 e L ⟨D,.load T x,t,pos,af,G⟩ (.agg (enc a).toArray):=Y.wj hT.h hd hk.h (hs▸hz.h) hi hx (aI ha) rfl hl mB
theorem tK{i':Nat}[f:FT P T i off ft][hk:CT P ft k](hx:aD n e x (.pointer (some (dr A (idx.toNat * (m+1))))))(hi:L[i']? =some (cR enc (m+1) A cap T' xs))(hb:ix xs idx=some a):
  Yd P n base w0 e L ⟨D,.fieldAddr T x i,t,pos,af,G⟩ (.pointer (some (dr A (idx.toNat * (m+1)+off)))):=by
 obtain⟨fs,h1,h2⟩:=f.h
 exact Y.gQ h1 h2 hk.h hi (ai hb) hx
theorem tM{c:Nat}[f:FT P T i off ft][hk:CT P ft k](hx:aD n e x (.pointer (some (dr A (idx.toNat * (j+1))))))(hs:bi enc (j+1) w (.slice A m c) xs)(hb:ix xs idx=some a):
  Yd P n base w0 e L ⟨D,.fieldAddr T x i,t,pos,af,G⟩ (.pointer (some (dr A (idx.toNat * (j+1)+off)))):=by
 obtain⟨fs,h1,h2⟩:=f.h
 obtain rfl:=aaP hs
 exact Y.Dj h1 h2 hk.h hs (ai hb) hx
theorem tN{S:TypeId}{dT:TypeDesc}{k' kd:IntKind}{p:Int}[hS:UT P S dT][hT:UT P T (.int kd)](hx:aD n e x (.int k' p)):Yd P n base w0 e L ⟨D,.convert S T x,t,pos,af,G⟩ (.int kd (kd.wrap p)):=Y.conv hS.h hT.h hx
theorem tO{E o:Nat}{α:Type}{da:α}{ar:List α}{xa:α}[hT:UT P T (.array m E)][hk:CT P E k](hx:aD n e x (.pointer (some ⟨b,o,none⟩)))(hy:aD n e y (.int kd idx))(hi:ax m da ar idx=some xa):
  Yd P n base w0 e L ⟨D,.indexAddr T x y,t,pos,af,G⟩ (.pointer (some ⟨b,o+idx.toNat * (k+1),none⟩)):=Y.OE hT.h hk.h hx hy (uH hi)
theorem tP{p q:Int}(hx:aD n e x (.int .i64 p))(hy:aD n e y (.int .i64 q))(h:bB (p+q)=true):Yd P n base w0 e L ⟨D,.binOp .add tx x y ty,t,pos,af,G⟩ (.int .i64 (p+q)):=Y.add hx hy (nj h)
theorem tQ{p q:Int}(hx:aD n e x (.int .i64 p))(hy:aD n e y (.int .i64 q))(h:bB (p - q)=true):Yd P n base w0 e L ⟨D,.binOp .sub tx x y ty,t,pos,af,G⟩ (.int .i64 (p - q)):=Y.sub hx hy (nj h)
theorem lk{p:Prop}(h:p:=by(first
 |((with_reducible apply Y.move);(exact eg))
 |((with_reducible apply Y.assign);(exact eg))
 |((with_reducible apply tB);(exact ev);(exact ci);(apply rfl);(apply rfl))
 |((with_reducible apply tA);(exact ev))
 |((with_reducible apply Y.lss);(exact ev);(exact ev))
 |((with_reducible apply Y.nilCheck);(exact ev))
 |((with_reducible apply tL);(exact ev))
 |((with_reducible apply Y.eql);(exact ev);(exact ev))
 |((with_reducible apply Y.extract);(exact ev);(apply rfl))
 |((with_reducible apply Y.neq);(exact ev);(exact ev))
 |((with_reducible apply Y.geq);(exact ev);(exact ev))
 |((with_reducible apply Y.gtr);(exact ev);(exact ev))
 |((with_reducible apply Y.leq);(exact ev);(exact ev))
 |((with_reducible apply Y.not);(exact ev))
 |((with_reducible apply tP);(exact ev);(exact ev);(exact hx))
 |((with_reducible apply tQ);(exact ev);(exact ev);(exact hx))
 |((with_reducible apply Y.and);(exact ev);(first|(intro h;apply aD.gd (SH h);apply rfl)|(intro h;apply aD.pl;apply rfl)))
 |((with_reducible apply Y.or);(exact ev);(first|(intro h;apply aD.gd (JC h);apply rfl)|(intro h;apply aD.pl;apply rfl)))
 |((with_reducible apply tS);(exact ev);(exact ev);(assumption);(exact hx))
 |((with_reducible apply tG);(exact ev);(exact ev);(exact ci);(apply rfl);(exact hx))
 |((with_reducible apply tC);(exact ev);(exact ci);(apply rfl);(apply rfl))
 |((with_reducible apply tD);(exact ev);(assumption);(exact hx);(apply rfl);(apply rfl))
 |((with_reducible apply tF);(exact ev);(assumption);(exact hx);(apply rfl);(apply rfl))
 |((with_reducible apply tE);(exact ev);(assumption);(exact hx);(apply rfl);(apply rfl))
 |((with_reducible apply tH);(exact ev);(exact ci);(exact hx);infer_instance;(apply rfl);(apply rfl);(apply rfl))
 |((with_reducible apply tJ);(exact ev);(exact ci);(exact hx);infer_instance;(apply rfl);(apply rfl);(apply rfl))
 |((with_reducible apply tI);(exact ev);(exact ci);(exact hx);infer_instance;(apply rfl);(apply rfl);(apply rfl))
 |((with_reducible apply tM);(exact ev);(assumption);(exact hx))
 |((with_reducible apply tK);(exact ev);(exact ci);(exact hx))
 |((with_reducible apply tN);(exact ev))
 |((with_reducible apply tO);(exact ev);(exact ev);(exact hx))
 |((with_reducible apply Y.uO);(exact ev);(exact ev))
 |((with_reducible apply Y.bor);(exact ev);(exact ev))
 |((with_reducible apply Y.shl);(exact ev);(exact ev);(first|decide|apply II rfl))
 |((with_reducible apply Y.shr);(exact ev);(exact ev);(first|decide|apply II rfl))
 |((with_reducible apply Y.max);(exact ev);(exact ev))
 |((with_reducible apply Y.min);(exact ev);(exact ev))
 |((with_reducible apply Y.fn);(exact vl))
 |((with_reducible apply Y.fnC);(exact vl)))):p:=h
theorem nc{L M M':List Chunk}{c:Chunk}(h:L=c::M)(k:M=M'):L=c::M':=k▸h
theorem rt{p:Prop}(h:p:=by((repeat ((with_reducible apply nc);(apply rfl)));apply rfl)):p:=h
theorem mS{T k b:Nat}{E:TypeId}{cs:List Value}{α:Type}{enc:α→List Value}{a:α}{L':List Chunk}[hk:CT P T k](hx:aD n e x (.pointer (some ⟨b,0,none⟩)))(hy:aD n e y (.agg (enc a).toArray))(hi:L[i]? =some (aw b E cs))(ho:ON enc)(hl:(enc a).length=k+1)(hc:cs.length=(enc a).length)
  (r:L.set i (aw b E (enc a))=L')(h:WL P ops n base w0 e L' rest Q):WL P ops n base w0 e L (⟨none,.store T x y,t,pos,af,none⟩::rest) Q:=WL.step (WO.q_ hk.h hx hy hl (ho.h _) hi (by omega) (Ej hc) (r▸h))
theorem mA{T:Nat}{zv:Value}{cs:List Value}[hz:ZI P T zv](h: ∀b,WL P ops n base w0 ((d,.pointer (some ⟨b,0,none⟩))::e) (aw b T cs::L) rest Q)(hcs:zv.cells=cs.toArray:=by exact rfl)(hd:Nat.blt d n=true:=by exact rfl):WL P ops n base w0 e L (⟨some d,.alloc T,t,pos,af,none⟩::rest) Q:=WL.step (WO.alloc hz.h hcs hd h)
theorem kk{L':List Chunk}{l:List Oper}(r:L=L')(h:WL P ops n base w0 e L' l Q):KK n base w0 e L (wpList P ops.toArray Q l):=r▸h
theorem kn{L':List Chunk}(r:L=L')(h:E n base w0 e L' .normal Q):KK n base w0 e L (fun a w=>Q .normal a w):=r▸h.h
theorem zL{L':List Chunk}{l:List Oper}(r:L=L')(k:WL P ops n base w0 e L' l Q):WL P ops n base w0 e L l Q:=r▸k
theorem zr{l:List Oper}{o:Oper}(r:l=o::rest)(k:WL P ops n base w0 e L (o::rest) Q):WL P ops n base w0 e L l Q:=r▸k
theorem zW{L':List Chunk}(r:L=L')(k:W P n base w0 e L' c1 Q):W P n base w0 e L c1 Q:=r▸k
theorem a_{p q:Prop}(k:q)(h:Bx q→p:=by(intro k;(first|((with_reducible apply zL);(exact rt);(first|((with_reducible apply zr);(apply rfl))|skip))|((with_reducible apply zW);(exact rt))|skip);(repeat (first|((with_reducible apply WL.q);(exact lk);(apply rfl))|((with_reducible apply WL.g);(first|(apply Gd.pl;apply rfl;apply rfl;apply rfl)|(apply Gd.gd;apply rfl;apply rfl;apply rfl));(intro hg;exact lk);(apply rfl))|((with_reducible apply mS);(exact ev);(exact ev);(exact ci);(infer_instance);(apply rfl);(apply rfl);(exact rt))|((with_reducible apply kk);(exact rt))|(with_reducible apply iR)|(with_reducible apply iZ)|(with_reducible apply xN)|(with_reducible apply xT)|(with_reducible apply iS)|(with_reducible apply W.block)|(with_reducible apply iK)|(with_reducible apply W.Wa)|(with_reducible apply iX)|(with_reducible apply xB)|(with_reducible apply xX)|(with_reducible apply xK)|(with_reducible apply xC)|((with_reducible apply xD);(apply rfl))|((with_reducible apply kn);(exact rt))));exact k.u)):p:=h ⟨k⟩
theorem b_{p q:Prop}(k:q)(h:Bx q→p:=by(intro k;(first|((with_reducible apply zL);(exact rt);(first|((with_reducible apply zr);(apply rfl))|skip))|((with_reducible apply zW);(exact rt))|skip);(repeat (first|((with_reducible apply WL.q);(exact lk);(apply rfl))|((with_reducible apply WL.g);(first|(apply Gd.pl;apply rfl;apply rfl;apply rfl)|(apply Gd.gd;apply rfl;apply rfl;apply rfl));(intro hg;exact lk);(apply rfl))|((with_reducible apply mS);(exact ev);(exact ev);(exact ci);(infer_instance);(apply rfl);(apply rfl);(exact rt))|((with_reducible apply kk);(exact rt))|(with_reducible apply iR)|(with_reducible apply iZ)|(with_reducible apply xN)|(with_reducible apply xT)|(with_reducible apply W.block)|(with_reducible apply iK)|(with_reducible apply W.Wa)|(with_reducible apply iX)|(with_reducible apply xB)|(with_reducible apply xX)|(with_reducible apply xK)|(with_reducible apply xC)|((with_reducible apply xD);(apply rfl))|((with_reducible apply kn);(exact rt))));exact k.u)):p:=h ⟨k⟩
theorem c_{p q:Prop}(k:q)(h:Bx q→p:=by(intro k;(first|((with_reducible apply zL);(exact rt);(first|((with_reducible apply zr);(apply rfl))|skip))|((with_reducible apply zW);(exact rt))|skip);(repeat (first|((with_reducible apply WL.q);(exact lk);(apply rfl))|((with_reducible apply WL.g);(first|(apply Gd.pl;apply rfl;apply rfl;apply rfl)|(apply Gd.gd;apply rfl;apply rfl;apply rfl));(intro hg;exact lk);(apply rfl))|((with_reducible apply mS);(exact ev);(exact ev);(exact ci);(infer_instance);(apply rfl);(apply rfl);(exact rt))|((with_reducible apply kk);(exact rt))|(with_reducible apply iZ)|(with_reducible apply xN)|(with_reducible apply xT)|(with_reducible apply W.block)|(with_reducible apply iK)|(with_reducible apply W.Wa)|(with_reducible apply iX)|(with_reducible apply xB)|(with_reducible apply xX)|(with_reducible apply xK)|(with_reducible apply xC)|((with_reducible apply xD);(apply rfl))|((with_reducible apply kn);(exact rt))));exact k.u)):p:=h ⟨k⟩
theorem ph{c:Chunk}:cp (c::L) (c::L):=cp.refl
theorem pt{L1:List Chunk}{c d:Chunk}(h:cp L (c::L1)):cp (d::L) (c::d::L1):= .trans (.cons h) (.perm (List.Perm.swap _ _ _))
theorem sc{L1 L':List Chunk}{c:Chunk}(h:cp L (c::L1))(k:cp L1 L'):cp L (c::L'):= .trans h (.cons k)
theorem sn:cp L []:=fun R b w0 w hw=>St.sub hw ⟨L,by rw[List.append_nil]⟩
theorem sd{L':List Chunk}{c:Chunk}(h:cp L L'):cp (c::L) L':= .trans (cp.drop (M:=[c])) h
theorem si{α:Type}{enc:α→List Value}{sz E:Nat}{L':List Chunk}(h:cp L L'):cp L (cR enc sz none 0 E ([]:List α)::L'):= .trans h (.qp enc sz E)
theorem sj{η α:Type}{enc:η→α→List Value}{bN:η→α→List Chunk}{sz E:Nat}{L':List Chunk}(h:cp L L'):cp L (cN enc bN sz none 0 E ([]:List η) ([]:List α)::L'):= .trans h (.Yy enc bN sz E)
theorem pk{p:Prop}(h:p:=by first|(with_reducible apply ph)|((with_reducible apply pt);first|(with_reducible apply ph)|((with_reducible apply pt);first|(with_reducible apply ph)|((with_reducible apply pt);first|(with_reducible apply ph)|((with_reducible apply pt);first|(with_reducible apply ph)|((with_reducible apply pt);first|(with_reducible apply ph)|((with_reducible apply pt);first|(with_reducible apply ph)|((with_reducible apply pt);first|(with_reducible apply ph)|((with_reducible apply pt);first|(with_reducible apply ph)|((with_reducible apply pt);first|(with_reducible apply ph)|((with_reducible apply pt);first|(with_reducible apply ph)|((with_reducible apply pt);first|(with_reducible apply ph)|((with_reducible apply pt);first|(with_reducible apply ph)|((with_reducible apply pt);first|(with_reducible apply ph))))))))))))))|apply ph|((with_reducible apply pt);first|apply ph|((with_reducible apply pt);first|apply ph|((with_reducible apply pt);first|apply ph|((with_reducible apply pt);first|apply ph|((with_reducible apply pt);first|apply ph|((with_reducible apply pt);first|apply ph|((with_reducible apply pt);first|apply ph|((with_reducible apply pt);first|apply ph|((with_reducible apply pt);first|apply ph|((with_reducible apply pt);first|apply ph|((with_reducible apply pt);first|apply ph|((with_reducible apply pt);first|apply ph|((with_reducible apply pt);first|apply ph)))))))))))))):p:=h
theorem sl{p:Prop}(h:p:=by(repeat (first|(with_reducible apply cp.refl)|(with_reducible apply sn)|(apply si)|(apply sj)|((with_reducible apply sc);(exact pk))|(with_reducible apply sd)))):p:=h
theorem sw{L':List Chunk}(hw:St base w0 L w)(h:cp L L':=by exact sl):St base w0 L' w:=h.at _ _ _ hw
theorem kq{p:Prop}(h:p:=by(repeat (first|(with_reducible apply Sub.nil)|((with_reducible apply Sub.cons);(apply rfl))))):p:=h
theorem oj{σ ρ:Type}{f:σ→Prop}{g:ρ→Prop}{t t':σ ⊕ ρ}(h:some t=some t')(k:Sum.elim f g t'):Sum.elim f g t:=by cases h;exact k
theorem Rc{r:ResultVar}{rs:List ResultVar}{vs:List Value}(h:Rv P n base w0 e L r v)(k:Ib P n base w0 e L rs vs):Ib P n base w0 e L (r::rs) (v::vs):=⟨h,k⟩
theorem Rn:Ib P n base w0 e L [] []:=trivial
theorem R1{s ty b i T':Nat}{dT:TypeDesc}{cs:List Value}[hT:UT P ty dT][hk:CT P ty k](hp:e.get? s=some (.pointer (some ⟨b,0,none⟩)))(hi:L[i]? =some (aw b T' cs))(hd:xG dT=true)(hc:cs.length=k+1):Rv P n base w0 e L (.cell s ty) (.agg cs.toArray):=Rv.ag4 hT.h hd hk.h hp hi hc
theorem R2{s ty b i T':Nat}{dT:TypeDesc}{cs:List Value}[hT:UT P ty dT](hp:e.get? s=some (.pointer (some ⟨b,0,none⟩)))(hi:L[i]? =some (aw b T' cs))(hd:fx dT=true)(hc:nth cs 0=some v):Rv P n base w0 e L (.cell s ty) v:=Rv.cell hT.h hd hp hi (by rw[←yO];exact hc)
theorem rv{p:Prop}(h:p:=by(repeat (first|(with_reducible apply Rn)|((with_reducible apply Rc);(first|((with_reducible apply Rv.tmp);(apply rfl))|((with_reducible apply R1);(apply rfl);(exact ci);(apply rfl);(apply rfl))|((with_reducible apply R2);(apply rfl);(exact ci);(apply rfl);(apply rfl))))))):p:=h
section
variable {fn:Func} {Rr:Ending→World→Prop} {rs:List ResultVar} {vs:List Value}
theorem rP(hQ: ∀a w,bodyPost P fn Rr .ret a w→Q .ret a w:=by exact fun _ _ h=>h)(hr:fn.results=rs.toArray:=by exact rfl)(hv:Ib P n base w0 e L rs vs:=by exact rv)(hR: ∀e w',e= .returned u∧St base w0 [] w'→Rr e w':=by exact hR)(hu:zu vs=u:=by exact rfl):W P n base w0 e L .ret Q:=
 W.lr hr hv hQ fun w hw=>hR _ _ ⟨hu▸rfl,hw.pick [] rfl⟩
theorem rG{γ:Type}{V:γ→Value}{C:γ→List Chunk}{I:γ→Prop}(g:γ)(hQ: ∀a w,bodyPost P fn Rr .ret a w→Q .ret a w:=by exact fun _ _ h=>h)(hr:fn.results=rs.toArray:=by exact rfl)(hv:Ib P n base w0 e L rs vs:=by exact rv)(hR: ∀e w',(∃g,I g∧e= .returned (V g)∧St base w0 (C g) w')→Rr e w':=by exact hR)(hI:I g:=by exact trivial)(hu:zu vs=V g:=by exact rfl)(hs:cp L (C g):=by exact sl):W P n base w0 e L .ret Q:=
 W.lr hr hv hQ fun w hw=>hR _ _ ⟨g,hI,hu▸rfl,hs.at _ _ _ hw⟩
theorem rF{γ:Type}{V:γ→Value}{C:γ→List Chunk}{I:γ→Prop}(g:γ)(hQ: ∀a w,bodyPost P fn Rr .normal a w→Q .normal a w:=by exact fun _ _ h=>h)(hr:fn.results=rs.toArray:=by exact rfl)(hv:Ib P n base w0 e L rs vs:=by exact rv)(hR: ∀e w',(∃g,I g∧e= .returned (V g)∧St base w0 (C g) w')→Rr e w':=by exact hR)(hI:I g:=by exact trivial)(hu:zu vs=V g:=by exact rfl)(hs:cp L (C g):=by exact sl):E n base w0 e L .normal Q:=
 ⟨W.fI hr hv hQ fun w hw=>hR _ _ ⟨g,hI,hu▸rfl,hs.at _ _ _ hw⟩⟩
end
section
variable {γ:Type} {V:γ→Value} {C:γ→List Chunk} {I:γ→Prop} {f:FuncId} {args:List Operand} {vs:List Value} {ats:Array TypeId}
theorem kP(hg:se P f)(hx:ik n e args vs)(hc: ∀w,St base w0 L w→Pure P f vs w v)(k:WL P ops n base w0 ((d,v)::e) L rest Q)(hd:Nat.blt d n=true:=by exact rfl):
  WL P ops n base w0 e L (⟨some d,.call {callee:= .value (.func f),args:=args.toArray,argTypes:=ats},t,pos,af,none⟩::rest) Q:=WL.step (WO.jc hg hx hd hc k)
theorem kM(hg:se P f)(hx:ik n e args vs)(hc: ∀w,St base w0 L w→Made P f vs w V C I)(k: ∀g,I g→WL P ops n base w0 ((d,V g)::e) (C g++L) rest Q)(hd:Nat.blt d n=true:=by exact rfl):
  WL P ops n base w0 e L (⟨some d,.call {callee:= .value (.func f),args:=args.toArray,argTypes:=ats},t,pos,af,none⟩::rest) Q:=WL.step (WO.wg hg hx hd hc k)
theorem kC(hg:se P f)(hx:ik n e args vs)(hc: ∀w,St base w0 L w→Calls P f vs.toArray w fun e w'=>∃g,I g∧e= .returned (V g)∧St base w0 (C g) w')(k: ∀g,I g→WL P ops n base w0 (IE D (V g) e) (C g) rest Q)(hd:OB D n=true:=by exact rfl):
  WL P ops n base w0 e L (⟨D,.call {callee:= .value (.func f),args:=args.toArray,argTypes:=ats},t,pos,af,none⟩::rest) Q:=WL.step (WO.call V C I hg hx hd hc k)
theorem kG{first cap:List Value}(hg:se P f)(hf:aD n e x (.func (.func f) first.toArray cap.toArray))(hx:ik n e args vs)(hc: ∀w,St base w0 L w→Calls P f (first++vs++cap).toArray w fun e w'=>∃g,I g∧e= .returned (V g)∧St base w0 (C g) w')(k: ∀g,I g→WL P ops n base w0 (IE D (V g) e) (C g) rest Q)(hd:OB D n=true:=by exact rfl):
  WL P ops n base w0 e L (⟨D,.call {callee:= .value x,args:=args.toArray,argTypes:=ats},t,pos,af,none⟩::rest) Q:=WL.step (WO.Hm V C I hg hf hx hd hc k)
theorem kI{name:String}{k:Nat}{u v:Value}(hm: ∀w,(method (P.types.size+Made.depth) k u name).run P w= .ok (f,v) w)(hg:se P f)(hf:aD n e x (.iface k u))(hx:ik n e args vs)(hc: ∀w,St base w0 L w→Calls P f (v::vs).toArray w fun e w'=>∃g,I g∧e= .returned (V g)∧St base w0 (C g) w')(k: ∀g,I g→WL P ops n base w0 (IE D (V g) e) (C g) rest Q)(hd:OB D n=true:=by exact rfl):
  WL P ops n base w0 e L (⟨D,.call {callee:= .invoke x name,args:=args.toArray,argTypes:=ats},t,pos,af,none⟩::rest) Q:=WL.step (WO.Hr V C I hm hg hf hx hd hc k)
theorem so{α:Type}{enc:α→List Value}{sz s2 cap T' i m:Nat}{A:Option Addr}{xs:List α}[hz:EN enc s2](h:St base w0 L w)(hi:L[i]? =some (cR enc sz A cap T' xs):=by exact ci)(hm:m=xs.length:=by exact rfl)(hs:s2=sz:=by exact rfl):bi enc sz w (.slice A m cap) xs:=bi.ofRow (hs▸hz.h) h hi hm
end
theorem v0:ik n e [] []:= .nil
theorem v1{x0:Operand}{v0:Value}(h0:e.ev x0=some v0):ik n e [x0] [v0]:= .cons (.pl h0) .nil
theorem v2{x0 x1:Operand}{v0 v1:Value}(h0:e.ev x0=some v0)(h1:e.ev x1=some v1):ik n e [x0,x1] [v0,v1]:= .cons (.pl h0) (.cons (.pl h1) .nil)
theorem v3{x0 x1 x2:Operand}{v0 v1 v2:Value}(h0:e.ev x0=some v0)(h1:e.ev x1=some v1)(h2:e.ev x2=some v2):ik n e [x0,x1,x2] [v0,v1,v2]:= .cons (.pl h0) (.cons (.pl h1) (.cons (.pl h2) .nil))
theorem v4{x0 x1 x2 x3:Operand}{v0 v1 v2 v3:Value}(h0:e.ev x0=some v0)(h1:e.ev x1=some v1)(h2:e.ev x2=some v2)(h3:e.ev x3=some v3):ik n e [x0,x1,x2,x3] [v0,v1,v2,v3]:= .cons (.pl h0) (.cons (.pl h1) (.cons (.pl h2) (.cons (.pl h3) .nil)))
theorem v5{x0 x1 x2 x3 x4:Operand}{v0 v1 v2 v3 v4:Value}(h0:e.ev x0=some v0)(h1:e.ev x1=some v1)(h2:e.ev x2=some v2)(h3:e.ev x3=some v3)(h4:e.ev x4=some v4):ik n e [x0,x1,x2,x3,x4] [v0,v1,v2,v3,v4]:= .cons (.pl h0) (.cons (.pl h1) (.cons (.pl h2) (.cons (.pl h3) (.cons (.pl h4) .nil))))
theorem v6{x0 x1 x2 x3 x4 x5:Operand}{v0 v1 v2 v3 v4 v5:Value}(h0:e.ev x0=some v0)(h1:e.ev x1=some v1)(h2:e.ev x2=some v2)(h3:e.ev x3=some v3)(h4:e.ev x4=some v4)(h5:e.ev x5=some v5):ik n e [x0,x1,x2,x3,x4,x5] [v0,v1,v2,v3,v4,v5]:= .cons (.pl h0) (.cons (.pl h1) (.cons (.pl h2) (.cons (.pl h3) (.cons (.pl h4) (.cons (.pl h5) .nil)))))
theorem v7{x0 x1 x2 x3 x4 x5 x6:Operand}{v0 v1 v2 v3 v4 v5 v6:Value}(h0:e.ev x0=some v0)(h1:e.ev x1=some v1)(h2:e.ev x2=some v2)(h3:e.ev x3=some v3)(h4:e.ev x4=some v4)(h5:e.ev x5=some v5)(h6:e.ev x6=some v6):ik n e [x0,x1,x2,x3,x4,x5,x6] [v0,v1,v2,v3,v4,v5,v6]:= .cons (.pl h0) (.cons (.pl h1) (.cons (.pl h2) (.cons (.pl h3) (.cons (.pl h4) (.cons (.pl h5) (.cons (.pl h6) .nil))))))
theorem v8{x0 x1 x2 x3 x4 x5 x6 x7:Operand}{v0 v1 v2 v3 v4 v5 v6 v7:Value}(h0:e.ev x0=some v0)(h1:e.ev x1=some v1)(h2:e.ev x2=some v2)(h3:e.ev x3=some v3)(h4:e.ev x4=some v4)(h5:e.ev x5=some v5)(h6:e.ev x6=some v6)(h7:e.ev x7=some v7):ik n e [x0,x1,x2,x3,x4,x5,x6,x7] [v0,v1,v2,v3,v4,v5,v6,v7]:= .cons (.pl h0) (.cons (.pl h1) (.cons (.pl h2) (.cons (.pl h3) (.cons (.pl h4) (.cons (.pl h5) (.cons (.pl h6) (.cons (.pl h7) .nil)))))))
theorem g0{Em:Env}{er:Env}{M:List Chunk}{I:Nat→Prop}{k k':Nat}{K:Act→World→Prop}(hK: ∀(k':Nat) a w,I k'→k' < k→Fits n (Em++er) a→St base w0 M w→K a w)(hI:I k')(hl:k' < k:=by exact nl)(hs:Sub Em e:=by exact kq)(hr:Sub er e:=by exact kq)(hm:cp L M:=by exact sl):E n base w0 e L .normal (Exit.then K Q):=⟨fun a w ha hw=>hK k' a w hI hl (ha.sub (Sub.app hs hr)) (hm.at _ _ _ hw)⟩
theorem h0{Em:Env}{er:Env}{M:List Chunk}{I:Prop}{K:Act→World→Prop}(hK: ∀a w,I→Fits n (Em++er) a→St base w0 M w→K a w)(hI:I)(hs:Sub Em e:=by exact kq)(hr:Sub er e:=by exact kq)(hm:cp L M:=by exact sl):E n base w0 e L .normal (Exit.then K Q):=⟨fun a w ha hw=>hK a w hI (ha.sub (Sub.app hs hr)) (hm.at _ _ _ hw)⟩
theorem g1{γ0:Type}{Em:γ0→Env}{er:Env}{M:γ0→List Chunk}{I:γ0→Nat→Prop}{k k':Nat}{K:Act→World→Prop}{y0:γ0}(hK: ∀(y0:γ0) (k':Nat) a w,I y0 k'→k' < k→Fits n ((Em y0)++er) a→St base w0 (M y0) w→K a w)(hI:I y0 k')(hl:k' < k:=by exact nl)(hs:Sub (Em y0) e:=by exact kq)(hr:Sub er e:=by exact kq)(hm:cp L (M y0):=by exact sl):E n base w0 e L .normal (Exit.then K Q):=⟨fun a w ha hw=>hK y0 k' a w hI hl (ha.sub (Sub.app hs hr)) (hm.at _ _ _ hw)⟩
theorem h1{γ0:Type}{Em:γ0→Env}{er:Env}{M:γ0→List Chunk}{I:γ0→Prop}{K:Act→World→Prop}{y0:γ0}(hK: ∀(y0:γ0) a w,I y0→Fits n ((Em y0)++er) a→St base w0 (M y0) w→K a w)(hI:I y0)(hs:Sub (Em y0) e:=by exact kq)(hr:Sub er e:=by exact kq)(hm:cp L (M y0):=by exact sl):E n base w0 e L .normal (Exit.then K Q):=⟨fun a w ha hw=>hK y0 a w hI (ha.sub (Sub.app hs hr)) (hm.at _ _ _ hw)⟩
theorem g2{γ0 γ1:Type}{Em:γ0→γ1→Env}{er:Env}{M:γ0→γ1→List Chunk}{I:γ0→γ1→Nat→Prop}{k k':Nat}{K:Act→World→Prop}{y0:γ0}{y1:γ1}(hK: ∀(y0:γ0) (y1:γ1) (k':Nat) a w,I y0 y1 k'→k' < k→Fits n ((Em y0 y1)++er) a→St base w0 (M y0 y1) w→K a w)(hI:I y0 y1 k')(hl:k' < k:=by exact nl)(hs:Sub (Em y0 y1) e:=by exact kq)(hr:Sub er e:=by exact kq)(hm:cp L (M y0 y1):=by exact sl):E n base w0 e L .normal (Exit.then K Q):=⟨fun a w ha hw=>hK y0 y1 k' a w hI hl (ha.sub (Sub.app hs hr)) (hm.at _ _ _ hw)⟩
theorem h2{γ0 γ1:Type}{Em:γ0→γ1→Env}{er:Env}{M:γ0→γ1→List Chunk}{I:γ0→γ1→Prop}{K:Act→World→Prop}{y0:γ0}{y1:γ1}(hK: ∀(y0:γ0) (y1:γ1) a w,I y0 y1→Fits n ((Em y0 y1)++er) a→St base w0 (M y0 y1) w→K a w)(hI:I y0 y1)(hs:Sub (Em y0 y1) e:=by exact kq)(hr:Sub er e:=by exact kq)(hm:cp L (M y0 y1):=by exact sl):E n base w0 e L .normal (Exit.then K Q):=⟨fun a w ha hw=>hK y0 y1 a w hI (ha.sub (Sub.app hs hr)) (hm.at _ _ _ hw)⟩
theorem g3{γ0 γ1 γ2:Type}{Em:γ0→γ1→γ2→Env}{er:Env}{M:γ0→γ1→γ2→List Chunk}{I:γ0→γ1→γ2→Nat→Prop}{k k':Nat}{K:Act→World→Prop}{y0:γ0}{y1:γ1}{y2:γ2}(hK: ∀(y0:γ0) (y1:γ1) (y2:γ2) (k':Nat) a w,I y0 y1 y2 k'→k' < k→Fits n ((Em y0 y1 y2)++er) a→St base w0 (M y0 y1 y2) w→K a w)(hI:I y0 y1 y2 k')(hl:k' < k:=by exact nl)(hs:Sub (Em y0 y1 y2) e:=by exact kq)(hr:Sub er e:=by exact kq)(hm:cp L (M y0 y1 y2):=by exact sl):E n base w0 e L .normal (Exit.then K Q):=⟨fun a w ha hw=>hK y0 y1 y2 k' a w hI hl (ha.sub (Sub.app hs hr)) (hm.at _ _ _ hw)⟩
theorem h3{γ0 γ1 γ2:Type}{Em:γ0→γ1→γ2→Env}{er:Env}{M:γ0→γ1→γ2→List Chunk}{I:γ0→γ1→γ2→Prop}{K:Act→World→Prop}{y0:γ0}{y1:γ1}{y2:γ2}(hK: ∀(y0:γ0) (y1:γ1) (y2:γ2) a w,I y0 y1 y2→Fits n ((Em y0 y1 y2)++er) a→St base w0 (M y0 y1 y2) w→K a w)(hI:I y0 y1 y2)(hs:Sub (Em y0 y1 y2) e:=by exact kq)(hr:Sub er e:=by exact kq)(hm:cp L (M y0 y1 y2):=by exact sl):E n base w0 e L .normal (Exit.then K Q):=⟨fun a w ha hw=>hK y0 y1 y2 a w hI (ha.sub (Sub.app hs hr)) (hm.at _ _ _ hw)⟩
theorem g4{γ0 γ1 γ2 γ3:Type}{Em:γ0→γ1→γ2→γ3→Env}{er:Env}{M:γ0→γ1→γ2→γ3→List Chunk}{I:γ0→γ1→γ2→γ3→Nat→Prop}{k k':Nat}{K:Act→World→Prop}{y0:γ0}{y1:γ1}{y2:γ2}{y3:γ3}(hK: ∀(y0:γ0) (y1:γ1) (y2:γ2) (y3:γ3) (k':Nat) a w,I y0 y1 y2 y3 k'→k' < k→Fits n ((Em y0 y1 y2 y3)++er) a→St base w0 (M y0 y1 y2 y3) w→K a w)(hI:I y0 y1 y2 y3 k')(hl:k' < k:=by exact nl)(hs:Sub (Em y0 y1 y2 y3) e:=by exact kq)(hr:Sub er e:=by exact kq)(hm:cp L (M y0 y1 y2 y3):=by exact sl):E n base w0 e L .normal (Exit.then K Q):=⟨fun a w ha hw=>hK y0 y1 y2 y3 k' a w hI hl (ha.sub (Sub.app hs hr)) (hm.at _ _ _ hw)⟩
theorem h4{γ0 γ1 γ2 γ3:Type}{Em:γ0→γ1→γ2→γ3→Env}{er:Env}{M:γ0→γ1→γ2→γ3→List Chunk}{I:γ0→γ1→γ2→γ3→Prop}{K:Act→World→Prop}{y0:γ0}{y1:γ1}{y2:γ2}{y3:γ3}(hK: ∀(y0:γ0) (y1:γ1) (y2:γ2) (y3:γ3) a w,I y0 y1 y2 y3→Fits n ((Em y0 y1 y2 y3)++er) a→St base w0 (M y0 y1 y2 y3) w→K a w)(hI:I y0 y1 y2 y3)(hs:Sub (Em y0 y1 y2 y3) e:=by exact kq)(hr:Sub er e:=by exact kq)(hm:cp L (M y0 y1 y2 y3):=by exact sl):E n base w0 e L .normal (Exit.then K Q):=⟨fun a w ha hw=>hK y0 y1 y2 y3 a w hI (ha.sub (Sub.app hs hr)) (hm.at _ _ _ hw)⟩
theorem g5{γ0 γ1 γ2 γ3 γ4:Type}{Em:γ0→γ1→γ2→γ3→γ4→Env}{er:Env}{M:γ0→γ1→γ2→γ3→γ4→List Chunk}{I:γ0→γ1→γ2→γ3→γ4→Nat→Prop}{k k':Nat}{K:Act→World→Prop}{y0:γ0}{y1:γ1}{y2:γ2}{y3:γ3}{y4:γ4}(hK: ∀(y0:γ0) (y1:γ1) (y2:γ2) (y3:γ3) (y4:γ4) (k':Nat) a w,I y0 y1 y2 y3 y4 k'→k' < k→Fits n ((Em y0 y1 y2 y3 y4)++er) a→St base w0 (M y0 y1 y2 y3 y4) w→K a w)(hI:I y0 y1 y2 y3 y4 k')(hl:k' < k:=by exact nl)(hs:Sub (Em y0 y1 y2 y3 y4) e:=by exact kq)(hr:Sub er e:=by exact kq)(hm:cp L (M y0 y1 y2 y3 y4):=by exact sl):E n base w0 e L .normal (Exit.then K Q):=⟨fun a w ha hw=>hK y0 y1 y2 y3 y4 k' a w hI hl (ha.sub (Sub.app hs hr)) (hm.at _ _ _ hw)⟩
theorem h5{γ0 γ1 γ2 γ3 γ4:Type}{Em:γ0→γ1→γ2→γ3→γ4→Env}{er:Env}{M:γ0→γ1→γ2→γ3→γ4→List Chunk}{I:γ0→γ1→γ2→γ3→γ4→Prop}{K:Act→World→Prop}{y0:γ0}{y1:γ1}{y2:γ2}{y3:γ3}{y4:γ4}(hK: ∀(y0:γ0) (y1:γ1) (y2:γ2) (y3:γ3) (y4:γ4) a w,I y0 y1 y2 y3 y4→Fits n ((Em y0 y1 y2 y3 y4)++er) a→St base w0 (M y0 y1 y2 y3 y4) w→K a w)(hI:I y0 y1 y2 y3 y4)(hs:Sub (Em y0 y1 y2 y3 y4) e:=by exact kq)(hr:Sub er e:=by exact kq)(hm:cp L (M y0 y1 y2 y3 y4):=by exact sl):E n base w0 e L .normal (Exit.then K Q):=⟨fun a w ha hw=>hK y0 y1 y2 y3 y4 a w hI (ha.sub (Sub.app hs hr)) (hm.at _ _ _ hw)⟩
theorem g6{γ0 γ1 γ2 γ3 γ4 γ5:Type}{Em:γ0→γ1→γ2→γ3→γ4→γ5→Env}{er:Env}{M:γ0→γ1→γ2→γ3→γ4→γ5→List Chunk}{I:γ0→γ1→γ2→γ3→γ4→γ5→Nat→Prop}{k k':Nat}{K:Act→World→Prop}{y0:γ0}{y1:γ1}{y2:γ2}{y3:γ3}{y4:γ4}{y5:γ5}(hK: ∀(y0:γ0) (y1:γ1) (y2:γ2) (y3:γ3) (y4:γ4) (y5:γ5) (k':Nat) a w,I y0 y1 y2 y3 y4 y5 k'→k' < k→Fits n ((Em y0 y1 y2 y3 y4 y5)++er) a→St base w0 (M y0 y1 y2 y3 y4 y5) w→K a w)(hI:I y0 y1 y2 y3 y4 y5 k')(hl:k' < k:=by exact nl)(hs:Sub (Em y0 y1 y2 y3 y4 y5) e:=by exact kq)(hr:Sub er e:=by exact kq)(hm:cp L (M y0 y1 y2 y3 y4 y5):=by exact sl):E n base w0 e L .normal (Exit.then K Q):=⟨fun a w ha hw=>hK y0 y1 y2 y3 y4 y5 k' a w hI hl (ha.sub (Sub.app hs hr)) (hm.at _ _ _ hw)⟩
theorem h6{γ0 γ1 γ2 γ3 γ4 γ5:Type}{Em:γ0→γ1→γ2→γ3→γ4→γ5→Env}{er:Env}{M:γ0→γ1→γ2→γ3→γ4→γ5→List Chunk}{I:γ0→γ1→γ2→γ3→γ4→γ5→Prop}{K:Act→World→Prop}{y0:γ0}{y1:γ1}{y2:γ2}{y3:γ3}{y4:γ4}{y5:γ5}(hK: ∀(y0:γ0) (y1:γ1) (y2:γ2) (y3:γ3) (y4:γ4) (y5:γ5) a w,I y0 y1 y2 y3 y4 y5→Fits n ((Em y0 y1 y2 y3 y4 y5)++er) a→St base w0 (M y0 y1 y2 y3 y4 y5) w→K a w)(hI:I y0 y1 y2 y3 y4 y5)(hs:Sub (Em y0 y1 y2 y3 y4 y5) e:=by exact kq)(hr:Sub er e:=by exact kq)(hm:cp L (M y0 y1 y2 y3 y4 y5):=by exact sl):E n base w0 e L .normal (Exit.then K Q):=⟨fun a w ha hw=>hK y0 y1 y2 y3 y4 y5 a w hI (ha.sub (Sub.app hs hr)) (hm.at _ _ _ hw)⟩
theorem g7{γ0 γ1 γ2 γ3 γ4 γ5 γ6:Type}{Em:γ0→γ1→γ2→γ3→γ4→γ5→γ6→Env}{er:Env}{M:γ0→γ1→γ2→γ3→γ4→γ5→γ6→List Chunk}{I:γ0→γ1→γ2→γ3→γ4→γ5→γ6→Nat→Prop}{k k':Nat}{K:Act→World→Prop}{y0:γ0}{y1:γ1}{y2:γ2}{y3:γ3}{y4:γ4}{y5:γ5}{y6:γ6}(hK: ∀(y0:γ0) (y1:γ1) (y2:γ2) (y3:γ3) (y4:γ4) (y5:γ5) (y6:γ6) (k':Nat) a w,I y0 y1 y2 y3 y4 y5 y6 k'→k' < k→Fits n ((Em y0 y1 y2 y3 y4 y5 y6)++er) a→St base w0 (M y0 y1 y2 y3 y4 y5 y6) w→K a w)(hI:I y0 y1 y2 y3 y4 y5 y6 k')(hl:k' < k:=by exact nl)(hs:Sub (Em y0 y1 y2 y3 y4 y5 y6) e:=by exact kq)(hr:Sub er e:=by exact kq)(hm:cp L (M y0 y1 y2 y3 y4 y5 y6):=by exact sl):E n base w0 e L .normal (Exit.then K Q):=⟨fun a w ha hw=>hK y0 y1 y2 y3 y4 y5 y6 k' a w hI hl (ha.sub (Sub.app hs hr)) (hm.at _ _ _ hw)⟩
theorem h7{γ0 γ1 γ2 γ3 γ4 γ5 γ6:Type}{Em:γ0→γ1→γ2→γ3→γ4→γ5→γ6→Env}{er:Env}{M:γ0→γ1→γ2→γ3→γ4→γ5→γ6→List Chunk}{I:γ0→γ1→γ2→γ3→γ4→γ5→γ6→Prop}{K:Act→World→Prop}{y0:γ0}{y1:γ1}{y2:γ2}{y3:γ3}{y4:γ4}{y5:γ5}{y6:γ6}(hK: ∀(y0:γ0) (y1:γ1) (y2:γ2) (y3:γ3) (y4:γ4) (y5:γ5) (y6:γ6) a w,I y0 y1 y2 y3 y4 y5 y6→Fits n ((Em y0 y1 y2 y3 y4 y5 y6)++er) a→St base w0 (M y0 y1 y2 y3 y4 y5 y6) w→K a w)(hI:I y0 y1 y2 y3 y4 y5 y6)(hs:Sub (Em y0 y1 y2 y3 y4 y5 y6) e:=by exact kq)(hr:Sub er e:=by exact kq)(hm:cp L (M y0 y1 y2 y3 y4 y5 y6):=by exact sl):E n base w0 e L .normal (Exit.then K Q):=⟨fun a w ha hw=>hK y0 y1 y2 y3 y4 y5 y6 a w hI (ha.sub (Sub.app hs hr)) (hm.at _ _ _ hw)⟩
theorem g8{γ0 γ1 γ2 γ3 γ4 γ5 γ6 γ7:Type}{Em:γ0→γ1→γ2→γ3→γ4→γ5→γ6→γ7→Env}{er:Env}{M:γ0→γ1→γ2→γ3→γ4→γ5→γ6→γ7→List Chunk}{I:γ0→γ1→γ2→γ3→γ4→γ5→γ6→γ7→Nat→Prop}{k k':Nat}{K:Act→World→Prop}{y0:γ0}{y1:γ1}{y2:γ2}{y3:γ3}{y4:γ4}{y5:γ5}{y6:γ6}{y7:γ7}(hK: ∀(y0:γ0) (y1:γ1) (y2:γ2) (y3:γ3) (y4:γ4) (y5:γ5) (y6:γ6) (y7:γ7) (k':Nat) a w,I y0 y1 y2 y3 y4 y5 y6 y7 k'→k' < k→Fits n ((Em y0 y1 y2 y3 y4 y5 y6 y7)++er) a→St base w0 (M y0 y1 y2 y3 y4 y5 y6 y7) w→K a w)(hI:I y0 y1 y2 y3 y4 y5 y6 y7 k')(hl:k' < k:=by exact nl)(hs:Sub (Em y0 y1 y2 y3 y4 y5 y6 y7) e:=by exact kq)(hr:Sub er e:=by exact kq)(hm:cp L (M y0 y1 y2 y3 y4 y5 y6 y7):=by exact sl):E n base w0 e L .normal (Exit.then K Q):=⟨fun a w ha hw=>hK y0 y1 y2 y3 y4 y5 y6 y7 k' a w hI hl (ha.sub (Sub.app hs hr)) (hm.at _ _ _ hw)⟩
theorem h8{γ0 γ1 γ2 γ3 γ4 γ5 γ6 γ7:Type}{Em:γ0→γ1→γ2→γ3→γ4→γ5→γ6→γ7→Env}{er:Env}{M:γ0→γ1→γ2→γ3→γ4→γ5→γ6→γ7→List Chunk}{I:γ0→γ1→γ2→γ3→γ4→γ5→γ6→γ7→Prop}{K:Act→World→Prop}{y0:γ0}{y1:γ1}{y2:γ2}{y3:γ3}{y4:γ4}{y5:γ5}{y6:γ6}{y7:γ7}(hK: ∀(y0:γ0) (y1:γ1) (y2:γ2) (y3:γ3) (y4:γ4) (y5:γ5) (y6:γ6) (y7:γ7) a w,I y0 y1 y2 y3 y4 y5 y6 y7→Fits n ((Em y0 y1 y2 y3 y4 y5 y6 y7)++er) a→St base w0 (M y0 y1 y2 y3 y4 y5 y6 y7) w→K a w)(hI:I y0 y1 y2 y3 y4 y5 y6 y7)(hs:Sub (Em y0 y1 y2 y3 y4 y5 y6 y7) e:=by exact kq)(hr:Sub er e:=by exact kq)(hm:cp L (M y0 y1 y2 y3 y4 y5 y6 y7):=by exact sl):E n base w0 e L .normal (Exit.then K Q):=⟨fun a w ha hw=>hK y0 y1 y2 y3 y4 y5 y6 y7 a w hI (ha.sub (Sub.app hs hr)) (hm.at _ _ _ hw)⟩
theorem h9{γ0 γ1 γ2 γ3 γ4 γ5 γ6 γ7 γ8:Type}{Em:γ0→γ1→γ2→γ3→γ4→γ5→γ6→γ7→γ8→Env}{er:Env}{M:γ0→γ1→γ2→γ3→γ4→γ5→γ6→γ7→γ8→List Chunk}{I:γ0→γ1→γ2→γ3→γ4→γ5→γ6→γ7→γ8→Prop}{K:Act→World→Prop}{y0:γ0}{y1:γ1}{y2:γ2}{y3:γ3}{y4:γ4}{y5:γ5}{y6:γ6}{y7:γ7}{y8:γ8}(hK: ∀(y0:γ0) (y1:γ1) (y2:γ2) (y3:γ3) (y4:γ4) (y5:γ5) (y6:γ6) (y7:γ7) (y8:γ8) a w,I y0 y1 y2 y3 y4 y5 y6 y7 y8→Fits n ((Em y0 y1 y2 y3 y4 y5 y6 y7 y8)++er) a→St base w0 (M y0 y1 y2 y3 y4 y5 y6 y7 y8) w→K a w)(hI:I y0 y1 y2 y3 y4 y5 y6 y7 y8)(hs:Sub (Em y0 y1 y2 y3 y4 y5 y6 y7 y8) e:=by exact kq)(hr:Sub er e:=by exact kq)(hm:cp L (M y0 y1 y2 y3 y4 y5 y6 y7 y8):=by exact sl):E n base w0 e L .normal (Exit.then K Q):=⟨fun a w ha hw=>hK y0 y1 y2 y3 y4 y5 y6 y7 y8 a w hI (ha.sub (Sub.app hs hr)) (hm.at _ _ _ hw)⟩
theorem g10{γ0 γ1 γ2 γ3 γ4 γ5 γ6 γ7 γ8 γ9:Type}{Em:γ0→γ1→γ2→γ3→γ4→γ5→γ6→γ7→γ8→γ9→Env}{er:Env}{M:γ0→γ1→γ2→γ3→γ4→γ5→γ6→γ7→γ8→γ9→List Chunk}{I:γ0→γ1→γ2→γ3→γ4→γ5→γ6→γ7→γ8→γ9→Nat→Prop}{k k':Nat}{K:Act→World→Prop}{y0:γ0}{y1:γ1}{y2:γ2}{y3:γ3}{y4:γ4}{y5:γ5}{y6:γ6}{y7:γ7}{y8:γ8}{y9:γ9}(hK: ∀(y0:γ0) (y1:γ1) (y2:γ2) (y3:γ3) (y4:γ4) (y5:γ5) (y6:γ6) (y7:γ7) (y8:γ8) (y9:γ9) (k':Nat) a w,I y0 y1 y2 y3 y4 y5 y6 y7 y8 y9 k'→k' < k→Fits n ((Em y0 y1 y2 y3 y4 y5 y6 y7 y8 y9)++er) a→St base w0 (M y0 y1 y2 y3 y4 y5 y6 y7 y8 y9) w→K a w)(hI:I y0 y1 y2 y3 y4 y5 y6 y7 y8 y9 k')(hl:k' < k:=by exact nl)(hs:Sub (Em y0 y1 y2 y3 y4 y5 y6 y7 y8 y9) e:=by exact kq)(hr:Sub er e:=by exact kq)(hm:cp L (M y0 y1 y2 y3 y4 y5 y6 y7 y8 y9):=by exact sl):E n base w0 e L .normal (Exit.then K Q):=⟨fun a w ha hw=>hK y0 y1 y2 y3 y4 y5 y6 y7 y8 y9 k' a w hI hl (ha.sub (Sub.app hs hr)) (hm.at _ _ _ hw)⟩
theorem h10{γ0 γ1 γ2 γ3 γ4 γ5 γ6 γ7 γ8 γ9:Type}{Em:γ0→γ1→γ2→γ3→γ4→γ5→γ6→γ7→γ8→γ9→Env}{er:Env}{M:γ0→γ1→γ2→γ3→γ4→γ5→γ6→γ7→γ8→γ9→List Chunk}{I:γ0→γ1→γ2→γ3→γ4→γ5→γ6→γ7→γ8→γ9→Prop}{K:Act→World→Prop}{y0:γ0}{y1:γ1}{y2:γ2}{y3:γ3}{y4:γ4}{y5:γ5}{y6:γ6}{y7:γ7}{y8:γ8}{y9:γ9}(hK: ∀(y0:γ0) (y1:γ1) (y2:γ2) (y3:γ3) (y4:γ4) (y5:γ5) (y6:γ6) (y7:γ7) (y8:γ8) (y9:γ9) a w,I y0 y1 y2 y3 y4 y5 y6 y7 y8 y9→Fits n ((Em y0 y1 y2 y3 y4 y5 y6 y7 y8 y9)++er) a→St base w0 (M y0 y1 y2 y3 y4 y5 y6 y7 y8 y9) w→K a w)(hI:I y0 y1 y2 y3 y4 y5 y6 y7 y8 y9)(hs:Sub (Em y0 y1 y2 y3 y4 y5 y6 y7 y8 y9) e:=by exact kq)(hr:Sub er e:=by exact kq)(hm:cp L (M y0 y1 y2 y3 y4 y5 y6 y7 y8 y9):=by exact sl):E n base w0 e L .normal (Exit.then K Q):=⟨fun a w ha hw=>hK y0 y1 y2 y3 y4 y5 y6 y7 y8 y9 a w hI (ha.sub (Sub.app hs hr)) (hm.at _ _ _ hw)⟩
theorem h11{γ0 γ1 γ2 γ3 γ4 γ5 γ6 γ7 γ8 γ9 fS:Type}{Em:γ0→γ1→γ2→γ3→γ4→γ5→γ6→γ7→γ8→γ9→fS→Env}{er:Env}{M:γ0→γ1→γ2→γ3→γ4→γ5→γ6→γ7→γ8→γ9→fS→List Chunk}{I:γ0→γ1→γ2→γ3→γ4→γ5→γ6→γ7→γ8→γ9→fS→Prop}{K:Act→World→Prop}{y0:γ0}{y1:γ1}{y2:γ2}{y3:γ3}{y4:γ4}{y5:γ5}{y6:γ6}{y7:γ7}{y8:γ8}{y9:γ9}{ie:fS}(hK: ∀(y0:γ0) (y1:γ1) (y2:γ2) (y3:γ3) (y4:γ4) (y5:γ5) (y6:γ6) (y7:γ7) (y8:γ8) (y9:γ9) (ie:fS) a w,I y0 y1 y2 y3 y4 y5 y6 y7 y8 y9 ie→Fits n ((Em y0 y1 y2 y3 y4 y5 y6 y7 y8 y9 ie)++er) a→St base w0 (M y0 y1 y2 y3 y4 y5 y6 y7 y8 y9 ie) w→K a w)(hI:I y0 y1 y2 y3 y4 y5 y6 y7 y8 y9 ie)(hs:Sub (Em y0 y1 y2 y3 y4 y5 y6 y7 y8 y9 ie) e:=by exact kq)(hr:Sub er e:=by exact kq)(hm:cp L (M y0 y1 y2 y3 y4 y5 y6 y7 y8 y9 ie):=by exact sl):E n base w0 e L .normal (Exit.then K Q):=⟨fun a w ha hw=>hK y0 y1 y2 y3 y4 y5 y6 y7 y8 y9 ie a w hI (ha.sub (Sub.app hs hr)) (hm.at _ _ _ hw)⟩
theorem aio{ρ:Type}{f:(Unit)→Option ((Unit) ⊕ ρ)}{o:ρ}{N:Nat}{er:Env}(h0:iter f N ()=some o)(Em:Env)(M:List Chunk)(hr:Sub er e)(body: ∀(k:Nat) (t:(Unit) ⊕ ρ),f ()=some t→Sum.elim (fun s=>iter f k s=some o) (fun r=>r=o) t→∀K:Act→World→Prop,(∀(k':Nat) a w,iter f k' ()=some o→k' < k+1→Fits n (Em++er) a→St base w0 M w→K a w)→W P n base w0 (Em++er) M c1 (Exit.then K Q))(hs:Sub Em e:=by exact kq)(hm:cp L M:=by exact sl):W P n base w0 e L (.loop c1) Q:=
 W.ag5 Em M (fun k=>iter f k ()=some o) N h0 hs hr (fun w hw=>hm.at _ _ _ hw) fun k hI K hK=>by
  obtain⟨k,t,rfl,h1,h2⟩:=ic hI
  exact body k t h1 h2 K hK
theorem jg{γ0:Type}{ρ:Type}{f:(γ0)→Option ((γ0) ⊕ ρ)}{o:ρ}{N:Nat}{er:Env}{x0:γ0}(h0:iter f N x0=some o)(Em:γ0→Env)(M:γ0→List Chunk)(hr:Sub er e)(body: ∀(x0:γ0) (k:Nat) (t:(γ0) ⊕ ρ),f x0=some t→Sum.elim (fun s=>iter f k s=some o) (fun r=>r=o) t→∀K:Act→World→Prop,(∀(y0:γ0) (k':Nat) a w,iter f k' y0=some o→k' < k+1→Fits n ((Em y0)++er) a→St base w0 (M y0) w→K a w)→W P n base w0 ((Em x0)++er) (M x0) c1 (Exit.then K Q))(hs:Sub (Em x0) e:=by exact kq)(hm:cp L (M x0):=by exact sl):W P n base w0 e L (.loop c1) Q:=
 W.ag6 Em M (fun x0 k=>iter f k x0=some o) x0 N h0 hs hr (fun w hw=>hm.at _ _ _ hw) fun x0 k hI K hK=>by
  obtain⟨k,t,rfl,h1,h2⟩:=ic hI
  exact body x0 k t h1 h2 K hK
theorem xP{γ0 γ1:Type}{ρ:Type}{f:(γ0×γ1)→Option ((γ0×γ1) ⊕ ρ)}{o:ρ}{N:Nat}{er:Env}{x0:γ0}{x1:γ1}(h0:iter f N (x0,x1)=some o)(Em:γ0→γ1→Env)(M:γ0→γ1→List Chunk)(hr:Sub er e)(body: ∀(x0:γ0) (x1:γ1) (k:Nat) (t:(γ0×γ1) ⊕ ρ),f (x0,x1)=some t→Sum.elim (fun s=>iter f k s=some o) (fun r=>r=o) t→∀K:Act→World→Prop,(∀(y0:γ0) (y1:γ1) (k':Nat) a w,iter f k' (y0,y1)=some o→k' < k+1→Fits n ((Em y0 y1)++er) a→St base w0 (M y0 y1) w→K a w)→W P n base w0 ((Em x0 x1)++er) (M x0 x1) c1 (Exit.then K Q))(hs:Sub (Em x0 x1) e:=by exact kq)(hm:cp L (M x0 x1):=by exact sl):W P n base w0 e L (.loop c1) Q:=
 W.Od Em M (fun x0 x1 k=>iter f k (x0,x1)=some o) x0 x1 N h0 hs hr (fun w hw=>hm.at _ _ _ hw) fun x0 x1 k hI K hK=>by
  obtain⟨k,t,rfl,h1,h2⟩:=ic hI
  exact body x0 x1 k t h1 h2 K hK
theorem YD{γ0 γ1 γ2:Type}{ρ:Type}{f:(γ0×γ1)→Option ((γ0×γ1) ⊕ ρ)}{o:ρ}{N:Nat}{er:Env}{x0:γ0}{x1:γ1}{x2:γ2}(h0:iter f N (x0,x1)=some o)(Em:γ0→γ1→γ2→Env)(M:γ0→γ1→γ2→List Chunk)(hr:Sub er e)(body: ∀(x0:γ0) (x1:γ1) (x2:γ2) (k:Nat) (t:(γ0×γ1) ⊕ ρ),f (x0,x1)=some t→Sum.elim (fun s=>iter f k s=some o) (fun r=>r=o) t→∀K:Act→World→Prop,(∀(y0:γ0) (y1:γ1) (y2:γ2) (k':Nat) a w,iter f k' (y0,y1)=some o→k' < k+1→Fits n ((Em y0 y1 y2)++er) a→St base w0 (M y0 y1 y2) w→K a w)→W P n base w0 ((Em x0 x1 x2)++er) (M x0 x1 x2) c1 (Exit.then K Q))(hs:Sub (Em x0 x1 x2) e:=by exact kq)(hm:cp L (M x0 x1 x2):=by exact sl):W P n base w0 e L (.loop c1) Q:=
 W.ag7 Em M (fun x0 x1 x2 k=>iter f k (x0,x1)=some o) x0 x1 x2 N h0 hs hr (fun w hw=>hm.at _ _ _ hw) fun x0 x1 x2 k hI K hK=>by
  obtain⟨k,t,rfl,h1,h2⟩:=ic hI
  exact body x0 x1 x2 k t h1 h2 K hK
theorem Ba{γ0 γ1 γ2 γ3:Type}{ρ:Type}{f:(γ0×γ1)→Option ((γ0×γ1) ⊕ ρ)}{o:ρ}{N:Nat}{er:Env}{x0:γ0}{x1:γ1}{x2:γ2}{x3:γ3}(h0:iter f N (x0,x1)=some o)(Em:γ0→γ1→γ2→γ3→Env)(M:γ0→γ1→γ2→γ3→List Chunk)(hr:Sub er e)(body: ∀(x0:γ0) (x1:γ1) (x2:γ2) (x3:γ3) (k:Nat) (t:(γ0×γ1) ⊕ ρ),f (x0,x1)=some t→Sum.elim (fun s=>iter f k s=some o) (fun r=>r=o) t→∀K:Act→World→Prop,(∀(y0:γ0) (y1:γ1) (y2:γ2) (y3:γ3) (k':Nat) a w,iter f k' (y0,y1)=some o→k' < k+1→Fits n ((Em y0 y1 y2 y3)++er) a→St base w0 (M y0 y1 y2 y3) w→K a w)→W P n base w0 ((Em x0 x1 x2 x3)++er) (M x0 x1 x2 x3) c1 (Exit.then K Q))(hs:Sub (Em x0 x1 x2 x3) e:=by exact kq)(hm:cp L (M x0 x1 x2 x3):=by exact sl):W P n base w0 e L (.loop c1) Q:=
 W.aaJ Em M (fun x0 x1 x2 x3 k=>iter f k (x0,x1)=some o) x0 x1 x2 x3 N h0 hs hr (fun w hw=>hm.at _ _ _ hw) fun x0 x1 x2 x3 k hI K hK=>by
  obtain⟨k,t,rfl,h1,h2⟩:=ic hI
  exact body x0 x1 x2 x3 k t h1 h2 K hK
theorem Er{γ0 γ1 γ2 γ3 γ4:Type}{ρ:Type}{f:(γ0×γ1)→Option ((γ0×γ1) ⊕ ρ)}{o:ρ}{N:Nat}{er:Env}{x0:γ0}{x1:γ1}{x2:γ2}{x3:γ3}{x4:γ4}(h0:iter f N (x0,x1)=some o)(Em:γ0→γ1→γ2→γ3→γ4→Env)(M:γ0→γ1→γ2→γ3→γ4→List Chunk)(hr:Sub er e)(body: ∀(x0:γ0) (x1:γ1) (x2:γ2) (x3:γ3) (x4:γ4) (k:Nat) (t:(γ0×γ1) ⊕ ρ),f (x0,x1)=some t→Sum.elim (fun s=>iter f k s=some o) (fun r=>r=o) t→∀K:Act→World→Prop,(∀(y0:γ0) (y1:γ1) (y2:γ2) (y3:γ3) (y4:γ4) (k':Nat) a w,iter f k' (y0,y1)=some o→k' < k+1→Fits n ((Em y0 y1 y2 y3 y4)++er) a→St base w0 (M y0 y1 y2 y3 y4) w→K a w)→W P n base w0 ((Em x0 x1 x2 x3 x4)++er) (M x0 x1 x2 x3 x4) c1 (Exit.then K Q))(hs:Sub (Em x0 x1 x2 x3 x4) e:=by exact kq)(hm:cp L (M x0 x1 x2 x3 x4):=by exact sl):W P n base w0 e L (.loop c1) Q:=
 W.aaK Em M (fun x0 x1 x2 x3 x4 k=>iter f k (x0,x1)=some o) x0 x1 x2 x3 x4 N h0 hs hr (fun w hw=>hm.at _ _ _ hw) fun x0 x1 x2 x3 x4 k hI K hK=>by
  obtain⟨k,t,rfl,h1,h2⟩:=ic hI
  exact body x0 x1 x2 x3 x4 k t h1 h2 K hK
theorem aem{γ0 γ1 γ2 γ3 γ4:Type}{ρ:Type}{f:(γ0×γ1×γ2)→Option ((γ0×γ1×γ2) ⊕ ρ)}{o:ρ}{N:Nat}{er:Env}{x0:γ0}{x1:γ1}{x2:γ2}{x3:γ3}{x4:γ4}(h0:iter f N (x0,x1,x2)=some o)(Em:γ0→γ1→γ2→γ3→γ4→Env)(M:γ0→γ1→γ2→γ3→γ4→List Chunk)(hr:Sub er e)(body: ∀(x0:γ0) (x1:γ1) (x2:γ2) (x3:γ3) (x4:γ4) (k:Nat) (t:(γ0×γ1×γ2) ⊕ ρ),f (x0,x1,x2)=some t→Sum.elim (fun s=>iter f k s=some o) (fun r=>r=o) t→∀K:Act→World→Prop,(∀(y0:γ0) (y1:γ1) (y2:γ2) (y3:γ3) (y4:γ4) (k':Nat) a w,iter f k' (y0,y1,y2)=some o→k' < k+1→Fits n ((Em y0 y1 y2 y3 y4)++er) a→St base w0 (M y0 y1 y2 y3 y4) w→K a w)→W P n base w0 ((Em x0 x1 x2 x3 x4)++er) (M x0 x1 x2 x3 x4) c1 (Exit.then K Q))(hs:Sub (Em x0 x1 x2 x3 x4) e:=by exact kq)(hm:cp L (M x0 x1 x2 x3 x4):=by exact sl):W P n base w0 e L (.loop c1) Q:=
 W.aaK Em M (fun x0 x1 x2 x3 x4 k=>iter f k (x0,x1,x2)=some o) x0 x1 x2 x3 x4 N h0 hs hr (fun w hw=>hm.at _ _ _ hw) fun x0 x1 x2 x3 x4 k hI K hK=>by
  obtain⟨k,t,rfl,h1,h2⟩:=ic hI
  exact body x0 x1 x2 x3 x4 k t h1 h2 K hK
theorem aip{γ0 γ1 γ2 γ3 γ4 γ5 γ6:Type}{ρ:Type}{f:(γ0×γ1×γ2)→Option ((γ0×γ1×γ2) ⊕ ρ)}{o:ρ}{N:Nat}{er:Env}{x0:γ0}{x1:γ1}{x2:γ2}{x3:γ3}{x4:γ4}{x5:γ5}{x6:γ6}(h0:iter f N (x0,x1,x2)=some o)(Em:γ0→γ1→γ2→γ3→γ4→γ5→γ6→Env)(M:γ0→γ1→γ2→γ3→γ4→γ5→γ6→List Chunk)(hr:Sub er e)(body: ∀(x0:γ0) (x1:γ1) (x2:γ2) (x3:γ3) (x4:γ4) (x5:γ5) (x6:γ6) (k:Nat) (t:(γ0×γ1×γ2) ⊕ ρ),f (x0,x1,x2)=some t→Sum.elim (fun s=>iter f k s=some o) (fun r=>r=o) t→∀K:Act→World→Prop,(∀(y0:γ0) (y1:γ1) (y2:γ2) (y3:γ3) (y4:γ4) (y5:γ5) (y6:γ6) (k':Nat) a w,iter f k' (y0,y1,y2)=some o→k' < k+1→Fits n ((Em y0 y1 y2 y3 y4 y5 y6)++er) a→St base w0 (M y0 y1 y2 y3 y4 y5 y6) w→K a w)→W P n base w0 ((Em x0 x1 x2 x3 x4 x5 x6)++er) (M x0 x1 x2 x3 x4 x5 x6) c1 (Exit.then K Q))(hs:Sub (Em x0 x1 x2 x3 x4 x5 x6) e:=by exact kq)(hm:cp L (M x0 x1 x2 x3 x4 x5 x6):=by exact sl):W P n base w0 e L (.loop c1) Q:=
 W.ag_ Em M (fun x0 x1 x2 x3 x4 x5 x6 k=>iter f k (x0,x1,x2)=some o) x0 x1 x2 x3 x4 x5 x6 N h0 hs hr (fun w hw=>hm.at _ _ _ hw) fun x0 x1 x2 x3 x4 x5 x6 k hI K hK=>by
  obtain⟨k,t,rfl,h1,h2⟩:=ic hI
  exact body x0 x1 x2 x3 x4 x5 x6 k t h1 h2 K hK
theorem aiq{γ0 γ1 γ2 γ3:Type}{ρ:Type}{f:(γ0×γ1×γ2×γ3)→Option ((γ0×γ1×γ2×γ3) ⊕ ρ)}{o:ρ}{N:Nat}{er:Env}{x0:γ0}{x1:γ1}{x2:γ2}{x3:γ3}(h0:iter f N (x0,x1,x2,x3)=some o)(Em:γ0→γ1→γ2→γ3→Env)(M:γ0→γ1→γ2→γ3→List Chunk)(hr:Sub er e)(body: ∀(x0:γ0) (x1:γ1) (x2:γ2) (x3:γ3) (k:Nat) (t:(γ0×γ1×γ2×γ3) ⊕ ρ),f (x0,x1,x2,x3)=some t→Sum.elim (fun s=>iter f k s=some o) (fun r=>r=o) t→∀K:Act→World→Prop,(∀(y0:γ0) (y1:γ1) (y2:γ2) (y3:γ3) (k':Nat) a w,iter f k' (y0,y1,y2,y3)=some o→k' < k+1→Fits n ((Em y0 y1 y2 y3)++er) a→St base w0 (M y0 y1 y2 y3) w→K a w)→W P n base w0 ((Em x0 x1 x2 x3)++er) (M x0 x1 x2 x3) c1 (Exit.then K Q))(hs:Sub (Em x0 x1 x2 x3) e:=by exact kq)(hm:cp L (M x0 x1 x2 x3):=by exact sl):W P n base w0 e L (.loop c1) Q:=
 W.aaJ Em M (fun x0 x1 x2 x3 k=>iter f k (x0,x1,x2,x3)=some o) x0 x1 x2 x3 N h0 hs hr (fun w hw=>hm.at _ _ _ hw) fun x0 x1 x2 x3 k hI K hK=>by
  obtain⟨k,t,rfl,h1,h2⟩:=ic hI
  exact body x0 x1 x2 x3 k t h1 h2 K hK
theorem aen{γ0 γ1 γ2 γ3 γ4 γ5:Type}{ρ:Type}{f:(γ0×γ1×γ2×γ3)→Option ((γ0×γ1×γ2×γ3) ⊕ ρ)}{o:ρ}{N:Nat}{er:Env}{x0:γ0}{x1:γ1}{x2:γ2}{x3:γ3}{x4:γ4}{x5:γ5}(h0:iter f N (x0,x1,x2,x3)=some o)(Em:γ0→γ1→γ2→γ3→γ4→γ5→Env)(M:γ0→γ1→γ2→γ3→γ4→γ5→List Chunk)(hr:Sub er e)(body: ∀(x0:γ0) (x1:γ1) (x2:γ2) (x3:γ3) (x4:γ4) (x5:γ5) (k:Nat) (t:(γ0×γ1×γ2×γ3) ⊕ ρ),f (x0,x1,x2,x3)=some t→Sum.elim (fun s=>iter f k s=some o) (fun r=>r=o) t→∀K:Act→World→Prop,(∀(y0:γ0) (y1:γ1) (y2:γ2) (y3:γ3) (y4:γ4) (y5:γ5) (k':Nat) a w,iter f k' (y0,y1,y2,y3)=some o→k' < k+1→Fits n ((Em y0 y1 y2 y3 y4 y5)++er) a→St base w0 (M y0 y1 y2 y3 y4 y5) w→K a w)→W P n base w0 ((Em x0 x1 x2 x3 x4 x5)++er) (M x0 x1 x2 x3 x4 x5) c1 (Exit.then K Q))(hs:Sub (Em x0 x1 x2 x3 x4 x5) e:=by exact kq)(hm:cp L (M x0 x1 x2 x3 x4 x5):=by exact sl):W P n base w0 e L (.loop c1) Q:=
 W.ag9 Em M (fun x0 x1 x2 x3 x4 x5 k=>iter f k (x0,x1,x2,x3)=some o) x0 x1 x2 x3 x4 x5 N h0 hs hr (fun w hw=>hm.at _ _ _ hw) fun x0 x1 x2 x3 x4 x5 k hI K hK=>by
  obtain⟨k,t,rfl,h1,h2⟩:=ic hI
  exact body x0 x1 x2 x3 x4 x5 k t h1 h2 K hK
theorem air{γ0 γ1 γ2 γ3 γ4 γ5 γ6 γ7:Type}{ρ:Type}{f:(γ0×γ1×γ2×γ3×γ4)→Option ((γ0×γ1×γ2×γ3×γ4) ⊕ ρ)}{o:ρ}{N:Nat}{er:Env}{x0:γ0}{x1:γ1}{x2:γ2}{x3:γ3}{x4:γ4}{x5:γ5}{x6:γ6}{x7:γ7}(h0:iter f N (x0,x1,x2,x3,x4)=some o)(Em:γ0→γ1→γ2→γ3→γ4→γ5→γ6→γ7→Env)(M:γ0→γ1→γ2→γ3→γ4→γ5→γ6→γ7→List Chunk)(hr:Sub er e)(body: ∀(x0:γ0) (x1:γ1) (x2:γ2) (x3:γ3) (x4:γ4) (x5:γ5) (x6:γ6) (x7:γ7) (k:Nat) (t:(γ0×γ1×γ2×γ3×γ4) ⊕ ρ),f (x0,x1,x2,x3,x4)=some t→Sum.elim (fun s=>iter f k s=some o) (fun r=>r=o) t→∀K:Act→World→Prop,(∀(y0:γ0) (y1:γ1) (y2:γ2) (y3:γ3) (y4:γ4) (y5:γ5) (y6:γ6) (y7:γ7) (k':Nat) a w,iter f k' (y0,y1,y2,y3,y4)=some o→k' < k+1→Fits n ((Em y0 y1 y2 y3 y4 y5 y6 y7)++er) a→St base w0 (M y0 y1 y2 y3 y4 y5 y6 y7) w→K a w)→W P n base w0 ((Em x0 x1 x2 x3 x4 x5 x6 x7)++er) (M x0 x1 x2 x3 x4 x5 x6 x7) c1 (Exit.then K Q))(hs:Sub (Em x0 x1 x2 x3 x4 x5 x6 x7) e:=by exact kq)(hm:cp L (M x0 x1 x2 x3 x4 x5 x6 x7):=by exact sl):W P n base w0 e L (.loop c1) Q:=
 W.ag' Em M (fun x0 x1 x2 x3 x4 x5 x6 x7 k=>iter f k (x0,x1,x2,x3,x4)=some o) x0 x1 x2 x3 x4 x5 x6 x7 N h0 hs hr (fun w hw=>hm.at _ _ _ hw) fun x0 x1 x2 x3 x4 x5 x6 x7 k hI K hK=>by
  obtain⟨k,t,rfl,h1,h2⟩:=ic hI
  exact body x0 x1 x2 x3 x4 x5 x6 x7 k t h1 h2 K hK
theorem ais{γ0 γ1 γ2 γ3 γ4 γ5 γ6 γ7 γ8 γ9:Type}{ρ:Type}{f:(γ0×γ1×γ2×γ3×γ4)→Option ((γ0×γ1×γ2×γ3×γ4) ⊕ ρ)}{o:ρ}{N:Nat}{er:Env}{x0:γ0}{x1:γ1}{x2:γ2}{x3:γ3}{x4:γ4}{x5:γ5}{x6:γ6}{x7:γ7}{x8:γ8}{x9:γ9}(h0:iter f N (x0,x1,x2,x3,x4)=some o)(Em:γ0→γ1→γ2→γ3→γ4→γ5→γ6→γ7→γ8→γ9→Env)(M:γ0→γ1→γ2→γ3→γ4→γ5→γ6→γ7→γ8→γ9→List Chunk)(hr:Sub er e)(body: ∀(x0:γ0) (x1:γ1) (x2:γ2) (x3:γ3) (x4:γ4) (x5:γ5) (x6:γ6) (x7:γ7) (x8:γ8) (x9:γ9) (k:Nat) (t:(γ0×γ1×γ2×γ3×γ4) ⊕ ρ),f (x0,x1,x2,x3,x4)=some t→Sum.elim (fun s=>iter f k s=some o) (fun r=>r=o) t→∀K:Act→World→Prop,(∀(y0:γ0) (y1:γ1) (y2:γ2) (y3:γ3) (y4:γ4) (y5:γ5) (y6:γ6) (y7:γ7) (y8:γ8) (y9:γ9) (k':Nat) a w,iter f k' (y0,y1,y2,y3,y4)=some o→k' < k+1→Fits n ((Em y0 y1 y2 y3 y4 y5 y6 y7 y8 y9)++er) a→St base w0 (M y0 y1 y2 y3 y4 y5 y6 y7 y8 y9) w→K a w)→W P n base w0 ((Em x0 x1 x2 x3 x4 x5 x6 x7 x8 x9)++er) (M x0 x1 x2 x3 x4 x5 x6 x7 x8 x9) c1 (Exit.then K Q))(hs:Sub (Em x0 x1 x2 x3 x4 x5 x6 x7 x8 x9) e:=by exact kq)(hm:cp L (M x0 x1 x2 x3 x4 x5 x6 x7 x8 x9):=by exact sl):W P n base w0 e L (.loop c1) Q:=
 W.ad9 Em M (fun x0 x1 x2 x3 x4 x5 x6 x7 x8 x9 k=>iter f k (x0,x1,x2,x3,x4)=some o) x0 x1 x2 x3 x4 x5 x6 x7 x8 x9 N h0 hs hr (fun w hw=>hm.at _ _ _ hw) fun x0 x1 x2 x3 x4 x5 x6 x7 x8 x9 k hI K hK=>by
  obtain⟨k,t,rfl,h1,h2⟩:=ic hI
  exact body x0 x1 x2 x3 x4 x5 x6 x7 x8 x9 k t h1 h2 K hK
end
end Go.Proofs.YtjdkkabcenohcaaGreatDoor
