import Derived.Test.YtjdkkabcenohcaaGreatDoorP10
set_option linter.unusedVariables false
set_option linter.unusedSimpArgs false
set_option linter.unusedSectionVars false
set_option maxRecDepth 100000
namespace Go.Proofs.YtjdkkabcenohcaaGreatDoor
open Go.RowKit
namespace Ob
def bN(kind arg:Int)(P:Int→Prop)(x:Int):Prop:=if kind=7 then x=arg∨P x else if kind=8 then x≠arg∧P x else P x
open Classical in
noncomputable def gx(kind arg:Int)(P:Int→Prop):Int:=if kind=7 then(if P arg then 0 else 1)else(if P arg then 1 else 0)
theorem Rm{s:List Int}{kind arg:Int}(hO:lS 4 s)(hA:dz 4 kind arg){n:List Int}{res:Int}(h:oA 4 s kind arg=some (n,res)):
  (∀x,x∈n↔bN kind arg (· ∈s) x)∧res=gx kind arg (· ∈s):=by
 obtain⟨hl,hs⟩:s.length≤50∧qX s:=by
  rcases hO with⟨h,_⟩|⟨h,_⟩|⟨_,h1,_,h2⟩
  ·omega
  ·omega
  ·exact⟨h1,h2⟩
 have hinv:=DI hA.2.1 hA.1
 unfold oA at h
 rw[if_neg (by decide),if_neg (by decide),if_neg (by decide),if_neg (by decide)]at h
 unfold bN gx
 by_cases h7:kind=7
 ·subst h7
  rw[if_pos rfl]at h
  by_cases hm:arg∈s
  ·rw[if_pos hm]at h
   cases h
   refine⟨fun x=>?_,?_⟩
   ·rw[if_pos rfl]
    exact⟨.inr,fun h=>h.elim (fun e=>e▸hm) id⟩
   ·rw[if_pos rfl,if_pos hm]
  ·rw[if_neg hm]at h
   split at h
   ·cases h
   ·obtain⟨rfl,rfl⟩:ins s arg=n∧1=res:=by simpa[ins]using h
    exact⟨fun x=>by rw[if_pos rfl];exact TA,by rw[if_pos rfl,if_neg hm]⟩
 ·rw[if_neg h7]at h
  by_cases h8:kind=8
  ·subst h8
   rw[if_pos rfl]at h
   by_cases hm:arg∈s
   ·rw[if_pos hm]at h
    obtain⟨rfl,rfl⟩:del s arg=n∧1=res:=by simpa[del]using h
    exact⟨fun x=>by rw[if_neg (by decide),if_pos rfl];exact ab3 (by omega) hs hm,by rw[if_neg (by decide),if_pos hm]⟩
   ·rw[if_neg hm]at h
    cases h
    refine⟨fun x=>?_,?_⟩
    ·rw[if_neg (by decide),if_pos rfl]
     exact⟨fun h=>⟨fun e=>hm (e▸h),h⟩,fun h=>h.2⟩
    ·rw[if_neg (by decide),if_neg hm]
  ·rw[if_neg h8]at h
   cases h
   refine⟨fun x=>?_,?_⟩
   ·rw[if_neg h7,if_neg h8]
   ·rw[if_neg h7]
    by_cases hm:arg∈s
    ·rw[if_pos hm,if_pos hm]
    ·rw[if_neg hm,if_neg hm]
end Ob
namespace Sr
open Rl Hs
def nb(b:Bool)(kind:Int):Bool×Int:=if kind=7 then(true,if b then 0 else 1)else if kind=8 then(false,if b then 1 else 0)else(b,if b then 1 else 0)
def E_:Bool→List Do→Bool
 |_,[]=>true
 |b,d::l=>decide ((nb b d.kind).2=d.res)&&E_ (nb b d.kind).1 l
def fo(n:Int)(l:List Do):List Do:=l.filter fun d=>decide (d.arg=n)
theorem ajR{S:List Int}(hl:S.length+1≤50)(kind arg:Int): ∃n r,Ob.oA 4 S kind arg=some (n,r)∧n.length≤S.length+1:=by
 have key:=congrArg List.length (List.takeWhile_append_dropWhile (p:=(· < arg)) (l:=S))
 rw[List.length_append]at key
 unfold Ob.oA
 rw[if_neg (by decide),if_neg (by decide),if_neg (by decide),if_neg (by decide)]
 by_cases h7:kind=7
 ·rw[if_pos h7]
  by_cases hm:arg∈S
  ·rw[if_pos hm];exact⟨_,_,rfl,by omega⟩
  ·rw[if_neg hm,if_neg (by omega)]
   refine⟨_,_,rfl,?_⟩
   simp only[List.length_append,List.length_singleton]
   omega
 ·rw[if_neg h7]
  by_cases h8:kind=8
  ·rw[if_pos h8]
   by_cases hm:arg∈S
   ·rw[if_pos hm]
    refine⟨_,_,rfl,?_⟩
    simp only[List.length_append,List.length_drop]
    omega
   ·rw[if_neg hm];exact⟨_,_,rfl,by omega⟩
  ·rw[if_neg h8];exact⟨_,_,rfl,by omega⟩
theorem aa7{S n:List Int}{kind arg r:Int}(h1: ∀x,x∈n↔Ob.bN kind arg (· ∈S) x)(h2:r=Ob.gx kind arg (· ∈S)):nb (decide (arg∈S)) kind=(decide (arg∈n),r):=by
 have h1:=h1 arg
 unfold Ob.bN at h1
 unfold Ob.gx at h2
 subst h2
 unfold nb
 by_cases h7:kind=7
 ·rw[if_pos h7]at h1⊢
  rw[if_pos h7,decide_eq_true (h1.2 (.inl rfl))]
  by_cases hm:arg∈S
  ·rw[decide_eq_true hm,if_pos hm];rfl
  ·rw[decide_eq_false hm,if_neg hm];rfl
 ·rw[if_neg h7]at h1⊢
  rw[if_neg h7]
  by_cases h8:kind=8
  ·rw[if_pos h8]at h1⊢
   rw[decide_eq_false (fun h=>(h1.1 h).1 rfl)]
   by_cases hm:arg∈S
   ·rw[decide_eq_true hm,if_pos hm];rfl
   ·rw[decide_eq_false hm,if_neg hm];rfl
  ·rw[if_neg h8]at h1⊢
   by_cases hm:arg∈S
   ·rw[decide_eq_true hm,decide_eq_true (h1.2 hm),if_pos hm];rfl
   ·rw[decide_eq_false hm,decide_eq_false (fun h=>hm (h1.1 h)),if_neg hm];rfl
theorem G3{S n:List Int}{kind arg:Int}(h1: ∀x,x∈n↔Ob.bN kind arg (· ∈S) x){x:Int}(hx:x≠arg):decide (x∈n)=decide (x∈S):=by
 refine decide_eq_decide.2 ((h1 x).trans ?_)
 unfold Ob.bN
 split
 ·exact⟨fun h=>h.resolve_left hx,.inr⟩
 ·split
  ·exact⟨fun h=>h.2,fun h=>⟨hx,h⟩⟩
  ·exact Iff.rfl
theorem afY: ∀{l:List Do} {S:List Int},Ob.lS 4 S→S.length+l.length≤50→(∀d∈l,Ob.dz 4 d.kind d.arg)→((∃s',Ob.run 4 S l=some s')↔∀n,E_ (decide (n∈S)) (fo n l)=true)
 | [],S,_,_,_=>⟨fun _ n=>rfl,fun _=>⟨S,rfl⟩⟩
 |d::l,S,hO,hl,hA=>by
  have XK:=hA d (.head _)
  rw[List.length_cons]at hl
  obtain⟨n',r,hst,hlen⟩:=ajR (S:=S) (by omega) d.kind d.arg
  have hO':=(Ob.W_ hO XK hst).1
  obtain⟨m1,m2⟩:=Ob.Rm hO XK hst
  have DV:Ob.nx 4 S d.kind d.arg=some (n',r):=by unfold Ob.nx;rw[if_pos ⟨hO,XK⟩];exact hst
  have ih:=afY (l:=l) (S:=n') hO' (by omega) (fun x hx=>hA x (.tail _ hx))
  have e1:=aa7 m1 m2
  have hc1:fo d.arg (d::l)=d::fo d.arg l:=by unfold fo;rw[List.filter_cons,if_pos (by simp)]
  have xp: ∀n,n≠d.arg→fo n (d::l)=fo n l:=fun n hn=>by unfold fo;rw[List.filter_cons,if_neg (by simpa using Ne.symm hn)]
  have za:E_ (decide (d.arg∈S)) (fo d.arg (d::l))=(decide (r=d.res)&&E_ (decide (d.arg∈n')) (fo d.arg l)):=by
   rw[hc1]
   show(decide ((nb _ d.kind).2=d.res)&&E_ (nb _ d.kind).1 _)=_
   rw[e1]
  simp only[Ob.run,DV]
  constructor
  ·rintro⟨s',h⟩ n
   split at h
   ·rename_i hr
    by_cases e:n=d.arg
    ·subst e
     rw[za,decide_eq_true hr,ih.1 ⟨s',h⟩];rfl
    ·rw[xp n e,←G3 m1 e];exact ih.1 ⟨s',h⟩ n
   ·cases h
  ·intro h
   have h0:=h d.arg
   rw[za,Bool.and_eq_true,decide_eq_true_eq]at h0
   rw[if_pos h0.1]
   refine ih.2 fun n=>?_
   by_cases e:n=d.arg
   ·subst e;exact h0.2
   ·have:=h n
    rw[xp n e,←G3 m1 e]at this;exact this
theorem Oy{c:List Call}(gk: ∀i,i < c.length→(c.getD i Call.z).aj=0): ∀{t:List Step},(∀s∈t,DU c s)→e7 c 0 t=t.map (D c)
 | [],_=>rfl
 |s::t,h=>by
  have hr:=(h s (.head _)).eJ
  have:=gk s.call.toNat (by omega)
  unfold e7
  rw[if_pos (by rw[this];rfl),Oy gk (fun x hx=>h x (.tail _ hx))]
  rfl
structure Mn(c:List Call)(t:List Step):Prop where
 inc: ∀s∈t,DU c s
 pw:t.Pairwise (T9 (fg c))
 cm:Cm c (nums t)
 run: ∀n,E_ false (fo n (t.map (D c)))=true
theorem afZ{c:List Call}{rel:Rel}(X:Cx [4] c rel (fg c))(hA: ∀i,i < c.length→Ob.dz 4 (c.getD i Call.z).kind (c.getD i Call.z).arg){t:List Step}:Gd [4] c (fg c) (S0 [4]) [] t↔Mn c t:=by
 have gk: ∀i,i < c.length→(c.getD i Call.z).aj=0:=fun i hi=>by
  have:=X.th i hi
  simp only[List.length_singleton]at this
  omega
 have hcl:=X.cl
 have base:(∀s∈t,DU c s)→t.length≤c.length→((∀x,x < [(4:Int)].length→∃s',Ob.run ([(4:Int)].getD x 0) ((S0 [4]).getD x []) (e7 c x t)=some s')↔∀n,E_ false (fo n (t.map (D c)))=true):=by
  intro h hlen
  have hS:(S0 [4]).getD 0 []= []:=by simp[S0,Ob.pU]
  have hrun:=afY (l:=t.map (D c)) (S:=[]) (by have:=aaW X;have:=this.2 0 (by simp);rw[hS]at this;exact this) (by rw[List.length_map,List.length_nil];omega) (fun d hd=>by
   obtain⟨s,hs,rfl⟩:=List.mem_map.1 hd
   have:=(h s hs).eJ
   exact hA _ (by omega))
  have e0: ∀n:Int,decide (n∈([]:List Int))=false:=fun n=>decide_eq_false (by simp)
  constructor
  ·intro hx n
   have:=hx 0 (by simp)
   rw[hS,Oy gk h]at this
   rw[←e0 n]
   exact hrun.1 this n
  ·intro hn x hx
   have:x=0:=by simp only[List.length_singleton]at hx;omega
   subst this
   rw[hS,Oy gk h]
   exact hrun.2 fun n=>by rw[e0 n];exact hn n
 unfold Gd
 rw[Qi X (by simp[S0]),List.nil_append]
 constructor
 ·rintro⟨⟨ha,hx⟩,hc⟩
  obtain⟨h1,h2⟩:=XI.1 ha
  exact⟨h1,h2,hc,(base h1 ha.len).1 hx⟩
 ·rintro⟨h1,h2,h3,h4⟩
  have ha:=XI.2 ⟨h1,h2⟩
  exact⟨⟨ha,(base h1 ha.len).2 h4⟩,h3⟩
theorem af0(c:List Call)(n:Int)(t:List Step):fo n (t.map (D c))=(t.filter fun s=>decide ((c.getD s.call.toNat Call.z).arg=n)).map (D c):=by
 unfold fo;rw[List.filter_map];rfl
def gA(n:Int):Int→Int→Int→Bool:=fun _ _ a=>decide (a=n)
variable {N:Nat} {types:List Int} {p:List Event} {k:Nat} {out out':List Call} {op op':List Int} {idx pos:List Nat}
theorem ZT{n:Int}(P:sV N types (gA n) p k out out' op op' idx pos){t:List Step}(L:Mn out t): ∃t',Mn out' t':=by
 have hmem: ∀s∈t.filter (fun s=>decide ((out.getD s.call.toNat Call.z).arg=n)),DU out s∧gC (gA n) (out.getD s.call.toNat Call.z)=true:=fun s hs=>by
  obtain⟨h1,h2⟩:=List.mem_filter.1 hs
  exact⟨L.inc s h1,h2⟩
 have e:((t.filter (fun s=>decide ((out.getD s.call.toNat Call.z).arg=n))).map (G2 idx)).map (D out')=(t.filter (fun s=>decide ((out.getD s.call.toNat Call.z).arg=n))).map (D out):=by
  rw[List.map_map]
  refine List.map_congr_left fun s hs=>?_
  exact(Ox P (hmem s hs).1 (hmem s hs).2).2.2
 refine⟨(t.filter (fun s=>decide ((out.getD s.call.toNat Call.z).arg=n))).map (G2 idx),fun s hs=>?_,ahC P hmem (L.pw.sublist List.filter_sublist),ahD P fun i hi hg ha=>?_,fun m=>?_⟩
 ·obtain⟨x,hx,rfl⟩:=List.mem_map.1 hs
  exact(Ox P (hmem x hx).1 (hmem x hx).2).1
 ·obtain⟨s,hs,e⟩:=List.mem_map.1 (L.cm i hi ha)
  refine List.mem_map.2 ⟨s,List.mem_filter.2 ⟨hs,?_⟩,e⟩
  rw[e];exact hg
 ·rw[e]
  by_cases h:m=n
  ·subst h
   have:=L.run m
   rw[af0]at this
   unfold fo
   rw[List.filter_eq_self.2]
   ·exact this
   ·intro d hd
    obtain⟨s,hs,rfl⟩:=List.mem_map.1 hd
    exact(List.mem_filter.1 hs).2
  ·have:fo m ((t.filter (fun s=>decide ((out.getD s.call.toNat Call.z).arg=n))).map (D out))= []:=by
    refine filter_none fun d hd=>?_
    obtain⟨s,hs,rfl⟩:=List.mem_map.1 hd
    have:=of_decide_eq_true (List.mem_filter.1 hs).2
    exact decide_eq_false fun z=>h (z.symm.trans this)
   rw[this];rfl
end Sr
namespace Bg
open Hs Rl Sr
def C_(bN:List Bool)(v:Event)(n:Int):List Bool:=if v.kind=0 then bN else fb 8 false bN v.who (decide (v.value=n))
def VO(n:Int)(out:List Call)(op:List Int)(bN:List Bool):Prop:=∀w,w < 8→∀m:Nat,op.getD w 0=m+1→bN.getD w false=gC (gA n) (out.getD m Call.z)
theorem ZU{N:Nat}{types:List Int}{n:Int}{l:List Event}{k:Nat}{out Mm:List Call}{op T8:List Int}{bN:List Bool}{v:Event}(W:WF types l k out op)(S:uX N types out op (k:Int) v Mm T8)(h:VO n out op bN):
  VO n Mm T8 (C_ bN v n)∧Sel (gA n) out op v ((C_ bN v n).getD v.who.toNat false):=by
 have hw:=S.who
 have Gl:v.who.toNat < 8:=by omega
 have hlt: ∀w,w < 8→∀m:Nat,op.getD w 0=m+1→m < out.length:=fun w h m e=>by have:=(W.qk w h).2.1;omega
 rcases S.how with⟨hk,hf,ha,hn,rfl,rfl⟩|⟨hk,m,hm,hml,ht,hr,rfl,rfl⟩
 ·have hin:C_ bN v n=fb 8 false bN v.who (decide (v.value=n)):=by unfold C_;rw[if_neg hk]
  have af1: ∀w,w < 8→(C_ bN v n).getD w false=if w=v.who.toNat then decide (v.value=n)else bN.getD w false:=fun w h=>by rw[hin,gy h]
  refine⟨fun w Fz m hm=>?_,fun _=>by rw[af1 _ Gl,if_pos rfl];rfl,fun h=>(hk h).elim⟩
  rw[af1 w Fz]
  rw[gy Fz]at hm
  by_cases e:w=v.who.toNat
  ·rw[if_pos e]at hm⊢
   obtain rfl:m=out.length:=by omega
   rw[dL,if_neg (Nat.lt_irrefl _),if_pos rfl];rfl
  ·rw[if_neg e]at hm⊢
   rw[oS (hlt w Fz m hm)];exact h w Fz m hm
 ·have hin:C_ bN v n=bN:=by unfold C_;rw[if_pos hk]
  rw[hin]
  refine⟨fun w Fz q hq=>?_,fun h=>(h hk).elim,fun _ q hq=>h _ Gl q hq⟩
  rw[gy Fz]at hq
  split at hq
  ·omega
  ·rw[G1 hml];exact h w Fz q hq
theorem acU{N:Nat}(hN:300 < N){l:List Event}{c:List Call}{op:List Int}(hl:l.length≤200)(R:ex N [4] l l.length c op)(n:Int):Wp (vS N l n) fun p=>p.length≤l.length∧∃c' op' idx pos,sV N [4] (gA n) p l.length c c' op op' idx pos:=by
 obtain⟨f,f0,fl,fs⟩:=R.fn
 unfold vS
 refine .seq (P:=fun p=>p.length≤l.length∧∃c' op' idx pos,sV N [4] (gA n) p l.length c c' op op' idx pos) (.iter l.length (fun k st=>(st.1.length≤k∧∃a b idx pos,sV N [4] (gA n) st.1 k (f k).1 a (f k).2 b idx pos)∧VO n (f k).1 (f k).2 st.2.1∧st.2.2=(k:Int)) (by omega) ⟨⟨Nat.le_refl _,[],[],[],[],?_⟩,?_,rfl⟩ ?_ ?_) fun p _ h=> .one h
 ·rw[f0];exact .zero ..
 ·rw[f0];exact fun w _ m h=>absurd h (by show ¬(0:Int)=m+1;omega)
 ·rintro k ⟨p,bN,v⟩ hk ⟨⟨hlen,a,b,idx,pos,P⟩,hi,hv⟩
  dsimp only at P hv hi hlen
  subst hv
  obtain⟨Rk,S⟩:=fs k hk
  have hw:=S.who
  simp only[BM]
  refine .bg (decide_eq_true (by omega)) (.fL Event.z (by omega) (by omega) ?_)
  simp only[Int.toNat_natCast]
  obtain⟨x,hx⟩: ∃x,l.getD k Event.z=x:=⟨_,rfl⟩
  rw[hx]at S hw
  simp only[hx]
  obtain⟨hi2,hsel⟩:=ZU Rk.wf S hi
  have hst:=P.step Rk.wf S hsel
  refine .seq (P:=fun i=>i=C_ bN x n) (.cond (fun h=> .ax (by omega) (by omega) (.one ?_)) fun h=> .one ?_) fun i _ hi=>?_
  ·unfold C_;rw[if_neg (by simpa using h)]
  ·unfold C_;rw[if_pos (by simpa using h)]
  subst hi
  refine .ax (by omega) (by omega) (.cond (fun h=> .ck (eT ⟨?_,?_⟩) (.bK (by omega) (.one ⟨⟨by simp only[List.length_append,List.length_singleton];omega,hst.1 h⟩,hi2,by simp⟩))) fun h=> .bK (by omega) (.one ⟨⟨by simp only;omega,a,b,idx,pos,hst.2 h⟩,hi2,by simp⟩))
  ·simp only[List.length_singleton];exact Nat.le_trans (m:=2000) (by omega) (by decide)
  ·simp only[List.length_singleton];omega
 ·rintro⟨p,bN,v⟩ ⟨⟨hlen,a,b,idx,pos,P⟩,hi,hv⟩
  dsimp only at P hv hlen
  subst hv
  simp only[BM]
  refine .aL (decide_eq_false (by omega)) (.one ⟨hlen,a,b,idx,pos,?_⟩)
  rw[fl]at P
  exact P
theorem nQ{α:Type}(v:α)(k j:Int): ∀m:List (Int×α),gz (kX m k v) j=if k=j then some v else gz m j
 | []=>by
  unfold kX gz
  by_cases h:k=j
  ·rw[if_pos h,if_pos h]
  ·rw[if_neg h,if_neg h];rfl
 |(a,u)::r=>by
  unfold kX
  by_cases h:a=k
  ·subst h
   rw[if_pos rfl]
   unfold gz
   by_cases h2:a=j
   ·rw[if_pos h2,if_pos h2]
   ·rw[if_neg h2,if_neg h2]
    rw[if_neg h2]
  ·rw[if_neg h]
   unfold gz
   by_cases h2:a=j
   ·rw[if_pos h2,if_pos h2,if_neg (fun e=>h (h2.trans e.symm))]
   ·rw[if_neg h2,if_neg h2]
    exact nQ v k j r
theorem Ro{α:Type}{v:α}{k:Int}{p:Int×α}: ∀{m:List (Int×α)},p∈kX m k v→p∈m∨p=(k,v)
 | [],h=> .inr (List.mem_singleton.1 h)
 |(a,u)::r,h=>by
  unfold kX at h
  by_cases e:a=k
  ·rw[if_pos e]at h
   rcases List.mem_cons.1 h with h|h
   ·exact .inr (by rw[h,e])
   ·exact .inl (List.mem_cons_of_mem _ h)
  ·rw[if_neg e]at h
   rcases List.mem_cons.1 h with h|h
   ·exact .inl (h▸List.mem_cons_self ..)
   ·rcases Ro h with h|h
    ·exact .inl (List.mem_cons_of_mem _ h)
    ·exact .inr h
theorem Nv{α:Type}{v:α}{k:Int}: ∀{m:List (Int×α)},(kX m k v).map (·.1)=if k∈m.map (·.1)then m.map (·.1)else m.map (·.1)++[k]
 | []=>rfl
 |(a,u)::r=>by
  unfold kX
  by_cases e:a=k
  ·rw[if_pos e,if_pos (by rw[List.map_cons];exact List.mem_cons.2 (.inl e.symm))];simp[e]
  ·rw[if_neg e,List.map_cons,List.map_cons,Nv]
   by_cases h:k∈r.map (·.1)
   ·rw[if_pos h,if_pos (List.mem_cons_of_mem _ h)]
   ·rw[if_neg h,if_neg (fun z=>by
     rcases List.mem_cons.1 z with z|z
     ·exact e z.symm
     ·exact h z)];rfl
theorem VP{c:List Call}{k:Nat}(hk:k < c.length)(x:Int):((c.take (k+1)).map (·.arg)).count x=((c.take k).map (·.arg)).count x+(if(c.getD k Call.z).arg=x then 1 else 0):=by
 have e:c.take (k+1)=c.take k++[c.getD k Call.z]:=by rw[aW hk,List.take_add_one,List.getElem?_eq_getElem hk];rfl
 rw[e,List.map_append,List.count_append]
 simp[List.count_cons]
theorem N1{c:List Call}{k:Nat}(x:Int):((c.take k).map (·.arg)).count x≤(c.map (·.arg)).count x:=by
 have:=(List.take_sublist k c).map (·.arg)
 exact this.count_le x
def okF(N:Nat)(l:List Event)(n:Int):Bool:=((bd (vS N l n) fun p=>ku N [4] p).map (·.2.1)).getD false
def XL(c:List Call):Prop:=∀n,(c.map (·.arg)).count n≤9
theorem ZV{N:Nat}{l:List Event}{k:Nat}{c:List Call}{op:List Int}(R:ex N [4] l k c op): ∀i,i < c.length→Ob.dz 4 (c.getD i Call.z).kind (c.getD i Call.z).arg∧(1≤(c.getD i Call.z).arg∧(c.getD i Call.z).arg≤1000):=by
 intro i hi
 have hA:=BU R hi
 have gk:=(R.wf.one i hi).aj
 have e:(c.getD i Call.z).aj.toNat=0:=by simp only[List.length_singleton]at gk;omega
 rw[e]at hA
 have hA:Ob.dz 4 (c.getD i Call.z).kind (c.getD i Call.z).arg:=hA
 refine⟨hA,?_⟩
 have:=Ob.DI hA.2.1 hA.1
 exact hA.2.2.2 (by omega)
theorem hft{N:Nat}{types:List Int}{l:List Event}{k:Nat}{c:List Call}{op:List Int}(R:ex N types l k c op): ∀i,i < c.length→0≤(c.getD i Call.z).from_∧((c.getD i Call.z).aY≠ -1→(c.getD i Call.z).from_≤(c.getD i Call.z).aY):=by
 intro i hi
 have O:=R.wf.one i hi
 refine⟨O.fr.1,fun h=>?_⟩
 rcases O.tO with⟨h2,_⟩|⟨h2,_⟩
 ·exact(h h2).elim
 ·omega
theorem acV{N:Nat}(hN:300 < N)(ht:co N [4]=some 0){p:List Event}{c:List Call}{op:List Int}(hl:p.length≤200)(R:ex N [4] p p.length c op)(h9:c.length≤9):Wp (ku N [4] p) fun r=>r.2.2=0∧(r.2.1=true↔∃t,Mn c t):=by
 have hc:=G0 (nN hN ht hl R) h9
 have H:=VK hN hc
 obtain⟨rel,X⟩:=cx9 H hN
 refine(AJ hN hc).mono fun r ⟨h1,_,h3⟩=>⟨h1,?_⟩
 rw[(h3 rfl H).iff]
 exact⟨fun⟨u,hu⟩=>⟨u,(afZ X fun i hi=>(ZV R i hi).1).1 hu⟩,fun⟨u,hu⟩=>⟨u,(afZ X fun i hi=>(ZV R i hi).1).2 hu⟩⟩
theorem acW{N:Nat}{types:List Int}{n:Int}{p:List Event}{k:Nat}{out out':List Call}{op op':List Int}{idx pos:List Nat}(P:sV N types (gA n) p k out out' op op' idx pos):out'.length=(out.map (·.arg)).count n:=by
 rw[P.cnt,List.count_eq_countP,List.countP_map]
 congr 1
theorem XM{N:Nat}(hN:300 < N)(ht:co N [4]=some 0){l:List Event}{c:List Call}{op:List Int}(hl:l.length≤200)(R:ex N [4] l l.length c op){n:Int}(h9:(c.map (·.arg)).count n≤9):
  ∃p r c' op' idx pos,vS N l n=some p∧p.length≤l.length∧ku N [4] p=some r∧r.2.1=okF N l n∧sV N [4] (gA n) p l.length c c' op op' idx pos∧(okF N l n=true↔∃t,Mn c' t):=by
 obtain⟨p,h1,hpl,c',op',idx,pos,P⟩:=acU hN hl R n
 obtain⟨r,h2,_,h3⟩:=acV hN ht (by omega) P.run (by rw[acW P];exact h9)
 have e:r.2.1=okF N l n:=by unfold okF;rw[h1];show _=((ku N [4] p).map _).getD _;rw[h2];rfl
 exact⟨p,r,c',op',idx,pos,h1,hpl,h2,e,P,by rw[←e];exact h3⟩
theorem yB{N:Nat}(hN:300 < N)(ht:co N [4]=some 0){l:List Event}{c:List Call}{op:List Int}(hl:l.length≤200)(R:ex N [4] l l.length c op):Wp (iW N l) fun r=>(¬XL c∧r=([],2))∨(XL c∧r.2=0∧∃K:List Int,K.Pairwise (· < ·)∧(∀n,n∈K↔∃i,i < c.length∧(c.getD i Call.z).arg=n)∧r.1=K.filter fun n=>!okF N l n):=by
 have hcl:=R.wf.len
 unfold iW
 refine .bD (a:=()) rfl (.bD (nN hN ht hl R) (.aL rfl ?_))
 refine .elim (P:=fun t=>match t with| .inl m=>XL c∧(m.map (·.1)).Nodup∧m.length≤200∧(∀p∈m,1≤p.1∧p.1≤1000∧1≤p.2∧p.2≤9)∧(∀n,n∈m.map (·.1)↔∃i,i < c.length∧(c.getD i Call.z).arg=n)| .inr r=>¬XL c∧r=([],2))
  (.iter c.length (fun k st=>(∀x,(gz st.1 x).getD 0=(((c.take k).map (·.arg)).count x:Int))∧(∀x,((c.take k).map (·.arg)).count x≤9)∧(st.1.map (·.1)).Nodup∧st.1.length≤k∧(∀p∈st.1,1≤p.1∧p.1≤1000∧1≤p.2∧p.2≤9)∧(∀n,n∈st.1.map (·.1)↔∃i,i < k∧(c.getD i Call.z).arg=n)∧st.2=(k:Int)) (by omega) ⟨fun x=>rfl,fun x=>Nat.zero_le _,List.nodup_nil,Nat.le_refl _,fun p h=>(nomatch h),fun n=>⟨fun h=>(nomatch h),fun⟨i,h,_⟩=>absurd h (Nat.not_lt_zero _)⟩,rfl⟩ ?_ ?_) (fun m _ h=>?_) (fun r _ h=> .one (.inl h))
 ·rintro k ⟨m,v⟩ hk ⟨h1,h9,h2,h3,h4,h5,hv⟩
  dsimp only at h1 h2 h3 h4 h5 hv
  subst hv
  simp only[uM]
  refine .bg (decide_eq_true (by show(k:Int) < c.length;omega)) (.fL Call.z (by omega) (by show(k:Int) < c.length;omega) ?_)
  simp only[Int.toNat_natCast]
  have Rp:=(ZV R k hk).2
  obtain⟨a,ha⟩: ∃a,(c.getD k Call.z).arg=a:=⟨_,rfl⟩
  have hct:=VP hk
  rw[ha]at hct Rp
  simp only[ha]
  rw[h1 a]
  have h9a:=h9 a
  have hca:=hct a
  rw[if_pos rfl]at hca
  refine .bK (by omega) ?_
  rw[nQ,if_pos rfl]
  refine .cond (fun h=> .one ⟨fun F=>?_,rfl⟩) fun h=>?_
  ·have h:(9:Int) < (((c.take k).map (·.arg)).count a:Int)+1:=of_decide_eq_true h
   have:=F a
   have:=N1 (c:=c) (k:=k+1) a
   omega
  ·have h: ¬(9:Int) < (((c.take k).map (·.arg)).count a:Int)+1:=of_decide_eq_false h
   have hkeys:=Nv (v:=(((c.take k).map (·.arg)).count a:Int)+1) (k:=a) (m:=m)
   refine .bK (by omega) (.one ⟨fun x=>?_,fun x=>?_,?_,?_,fun p hp=>?_,fun n=>?_,by simp⟩)
   ·show(gz (kX m a _) x).getD 0=_
    rw[nQ,hct x]
    by_cases e:a=x
    ·subst e;rw[if_pos rfl,if_pos rfl];simp
    ·rw[if_neg e,if_neg e,h1 x];simp
   ·rw[hct x]
    by_cases e:a=x
    ·subst e;rw[if_pos rfl];omega
    ·rw[if_neg e];exact h9 x
   ·show((kX m a _).map (·.1)).Nodup
    rw[hkeys]
    split
    ·exact h2
    ·rename_i e
     exact List.nodup_append.2 ⟨h2,by simp,fun x hx y hy z=>e (by rw[List.mem_singleton]at hy;rw[←hy,←z];exact hx)⟩
   ·show(kX m a _).length≤k+1
    have:=congrArg List.length hkeys
    rw[List.length_map]at this
    rw[this]
    split
    ·rw[List.length_map];omega
    ·rw[List.length_append,List.length_map,List.length_singleton];omega
   ·rcases Ro hp with hp|rfl
    ·exact h4 p hp
    ·exact⟨Rp.1,Rp.2,by simp only;omega,by simp only;omega⟩
   ·show n∈(kX m a _).map (·.1)↔_
    rw[hkeys]
    have key:(∃i,i < k+1∧(c.getD i Call.z).arg=n)↔(∃i,i < k∧(c.getD i Call.z).arg=n)∨n=a:=by
     constructor
     ·rintro⟨i,h6,h7⟩
      rcases Nat.lt_or_ge i k with h8|h8
      ·exact .inl ⟨i,h8,h7⟩
      ·obtain rfl:i=k:=by omega
       exact .inr (h7.symm.trans ha)
     ·rintro(⟨i,h6,h7⟩|rfl)
      ·exact⟨i,by omega,h7⟩
      ·exact⟨k,by omega,ha⟩
    rw[key,←h5 n]
    split
    ·rename_i e
     exact⟨.inl,fun h=>h.elim id fun h=>h▸e⟩
    ·rw[List.mem_append,List.mem_singleton]
 ·rintro⟨m,v⟩ ⟨h1,h9,h2,h3,h4,h5,hv⟩
  dsimp only at h1 h2 h3 h4 h5 hv
  subst hv
  simp only[uM]
  rw[List.take_length]at h9
  exact .aL (decide_eq_false (by show ¬(c.length:Int) < c.length;omega)) (.one ⟨h9,h2,by omega,h4,h5⟩)
 ·obtain⟨F,h2,h3,h4,h5⟩:=h
  obtain⟨K,hK⟩: ∃K,K=(m.map (·.1)).mergeSort fun x y=>decide (x≤y):=⟨_,rfl⟩
  have hs:uL N m=some K:=by
   have wf: ∀z:Int,1≤z→z≤1000→Iq z=true:=fun z h1 h2=>by
    simp[Iq,Lit.wf,IntKind.min,IntKind.max,IntKind.bits,IntKind.signed];omega
   have hall:(m.all fun p=>Iq p.1&&Iq p.2)=true:=by
    rw[List.all_eq_true]
    intro p hp
    have:=h4 p hp
    rw[Bool.and_eq_true]
    exact⟨wf _ (by omega) (by omega),wf _ (by omega) (by omega)⟩
   unfold uL Oq
   rw[if_pos ⟨hall,by omega⟩,hK]
  have CB:K.Perm (m.map (·.1)):=by rw[hK];exact List.mergeSort_perm ..
  have hKp:K.Pairwise (· < ·):=by
   have hle:K.Pairwise fun x y=>decide (x≤y)=true:=by
    rw[hK]
    exact List.pairwise_mergeSort (fun a b c h1 h2=>by simp only[decide_eq_true_eq]at *;omega) (fun a b=>by simp only[Bool.or_eq_true,decide_eq_true_eq];omega) _
   have hnd:K.Nodup:=CB.nodup_iff.2 h2
   refine(hle.and hnd).imp fun h=>?_
   have:=of_decide_eq_true h.1
   have:=h.2
   omega
  have hKm: ∀n,n∈K↔∃i,i < c.length∧(c.getD i Call.z).arg=n:=fun n=>(CB.mem_iff).trans (h5 n)
  have hKl:K.length≤200:=by rw[CB.length_eq,List.length_map];exact h3
  refine .seq (P:=fun out=>out=K.filter fun n=>!okF N l n) (.bD (a:=()) rfl (.bD hs ?_)) fun out _ ho=> .one (.inr ⟨F,rfl,K,hKp,hKm,ho⟩)
  refine .iter K.length (fun k st=>st.1=(K.take k).filter (fun n=>!okF N l n)∧st.2=(k:Int)) (by omega) ⟨rfl,rfl⟩ ?_ ?_
  ·rintro k ⟨out,v⟩ hk ⟨ho,hv⟩
   dsimp only at ho hv
   subst ho;subst hv
   simp only[zK]
   refine .bg (decide_eq_true (by omega)) (.ix hk (.bD (a:=()) rfl ?_))
   obtain⟨p,r,c',op',idx,pos,q1,_,q2,q3,_,_⟩:=XM hN ht hl R (n:=K[k]) (F _)
   refine .bD q1 (.bD q2 ?_)
   have htk:(K.take (k+1)).filter (fun n=>!okF N l n)=(K.take k).filter (fun n=>!okF N l n)++if okF N l K[k]then []else [K[k]]:=by
    rw[List.take_add_one,List.getElem?_eq_getElem hk,List.filter_append]
    congr 1
    show List.filter _ [K[k]]=_
    rw[List.filter_cons]
    cases okF N l K[k]<;>rfl
   have hfl:((K.take k).filter (fun n=>!okF N l n)).length≤200:=Nat.le_trans (List.length_filter_le _ _) (by rw[List.length_take];omega)
   refine .cond (fun h=> .ck (eT ⟨?_,?_⟩) (.bK (by omega) (.one ⟨?_,by simp⟩))) fun h=> .bK (by omega) (.one ⟨?_,by simp⟩)
   ·simp only[List.length_singleton];exact Nat.le_trans (m:=2000) (by omega) (by decide)
   ·simp only[List.length_singleton];omega
   ·rw[q3,Bool.not_eq_true']at h
    rw[htk,h];rfl
   ·rw[q3,Bool.not_eq_false']at h
    rw[htk,h];exact(List.append_nil _).symm
  ·rintro⟨out,v⟩ ⟨ho,hv⟩
   dsimp only at ho hv
   subst ho;subst hv
   simp only[zK]
   exact .aL (decide_eq_false (by omega)) (.one (by rw[List.take_length]))
theorem vV{N:Nat}(hN:300 < N)(l:List Event):Wp (iW N l) fun r=>(r.2≠0∧r.1= [])∨(r.2=0∧co N [4]=some 0∧l.length≤200∧∃c op,ex N [4] l l.length c op∧XL c∧∃K:List Int,K.Pairwise (· < ·)∧(∀n,n∈K↔∃i,i < c.length∧(c.getD i Call.z).arg=n)∧r.1=K.filter fun n=>!okF N l n):=by
 obtain⟨⟨c,e,er⟩,hc,h⟩:=sG (types:=[4]) (l:=l) hN
 by_cases h0:er=0
 ·subst h0
  obtain⟨ht,_,hl,_,op,R⟩:=h rfl
  refine(yB hN ht hl R).mono fun r hr=>?_
  rcases hr with⟨_,rfl⟩|⟨F,h1,h2⟩
  ·exact .inl ⟨by simp,rfl⟩
  ·exact .inr ⟨h1,ht,hl,c,op,R,F,h2⟩
 ·unfold iW
  exact .bD (a:=()) rfl (.bD hc (.bg (by simpa using h0) (.one (.inl ⟨h0,rfl⟩))))
end Bg
end Go.Proofs.YtjdkkabcenohcaaGreatDoor
