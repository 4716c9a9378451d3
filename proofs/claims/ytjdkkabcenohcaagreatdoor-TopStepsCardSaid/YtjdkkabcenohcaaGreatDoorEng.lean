import Derived.WalkKit
import Derived.Deep.LoopGhost
import Derived.Deep.Quiet
import Derived.StillTail
set_option linter.unusedVariables false
set_option linter.unusedSimpArgs false
namespace Go.Proofs.YtjdkkabcenohcaaGreatDoor
open Go.RowKit
abbrev Env:=List (Nat×Value)
def Env.get?:Env→Nat→Option Value
 | [],_=>none
 |(d,v)::r,i=>bif Nat.beq d i then some v else Env.get? r i
structure Fits(n:Nat)(e:Env)(a:Act):Prop where
 defers:a.defers= []
 size:a.tmps.size=n
 get: ∀i v,e.get? i=some v→a.tmps.getD i undef=v
def aD(n:Nat)(e:Env)(x:Operand)(v:Value):Prop:=∀a,Fits n e a→a.eval x=v
def Env.ev(e:Env):Operand→Option Value
 | .tmp t=>e.get? t
 | .const v=>some v
 | .global g=>some (.pointer (some ⟨g,0,none⟩))
 | .func f=>some (.func (.func f) #[] #[])
def gv(b:Bool)(v:Value):Value:=bif b then v else undef
theorem aD.pl{n:Nat}{e:Env}{x:Operand}{v:Value}(h:e.ev x=some v):aD n e x v:=by
 intro a ha
 cases x with
 |tmp t=>exact ha.get t v h
 |const u=>exact Option.some.inj h
 |global g=>exact Option.some.inj h
 |func f=>exact Option.some.inj h
theorem aD.gd{n:Nat}{e:Env}{x:Operand}{b:Bool}{v:Value}(hb:b=true)(h:e.ev x=some (gv b v)):aD n e x v:=by
 have:=aD.pl (n:=n) h
 subst hb
 exact this
theorem Fits.put{n:Nat}{e:Env}{a:Act}(h:Fits n e a)(d:Nat)(v:Value)(hd:Nat.blt d n=true):Fits n ((d,v)::e) (a.put (some d) v):=by
 have hlt:d < n:=by simpa[Nat.blt_eq]using hd
 refine⟨h.defers,by simp[Act.put,h.size],fun i u hi=>?_⟩
 simp only[Act.put]
 by_cases hdi:d=i
 ·subst hdi
  simp only[Env.get?]at hi
  have:Nat.beq d d=true:=by simp
  rw[this]at hi
  have:v=u:=by simpa using hi
  subst this
  simp[h.size,hlt]
 ·have hb:Nat.beq d i=false:=by
   cases hh:Nat.beq d i with
   |false=>rfl
   |true=>exact absurd (Nat.eq_of_beq_eq_true hh) hdi
  simp only[Env.get?,hb,cond_false]at hi
  rw[←h.get i u hi]
  simp[Array.getElem?_setIfInBounds_ne hdi]
def OB:Option Nat→Nat→Bool
 |some d,n=>Nat.blt d n
 |none,_=>true
def IE:Option Nat→Value→Env→Env
 |some d,v,e=>(d,v)::e
 |none,_,e=>e
theorem Fits.Ys{n:Nat}{e:Env}{a:Act}{D:Option Nat}{v:Value}(h:Fits n e a)(hd:OB D n=true):Fits n (IE D v e) (a.put D v):=by
 cases D with
 |some d=>exact h.put d v hd
 |none=>exact h
theorem Fits.Lj{n:Nat}{e:Env}{a:Act}(h:Fits n e a)(v:Value):Fits n e (a.put none v):=h
def Sub(e' e:Env):Prop:=∀i v,e'.get? i=some v→e.get? i=some v
theorem Sub.nil{e:Env}:Sub [] e:=fun _ _ h=>by cases h
theorem Sub.cons{e r:Env}{i:Nat}{v:Value}(h:e.get? i=some v)(hr:Sub r e):Sub ((i,v)::r) e:=by
 intro j u hj
 simp only[Env.get?]at hj
 by_cases hb:Nat.beq i j=true
 ·rw[hb]at hj
  have e1:i=j:=Nat.eq_of_beq_eq_true hb
  have e2:v=u:=by simpa using hj
  subst e1;subst e2;exact h
 ·have:Nat.beq i j=false:=eq_false_of_ne_true hb
  rw[this]at hj
  exact hr j u hj
theorem Sub.refl{e:Env}:Sub e e:=fun _ _ h=>h
theorem Yt(a b:Env)(i:Nat):Env.get? (a++b) i=match a.get? i with|some v=>some v|none=>b.get? i:=by
 induction a with
 |nil=>rfl
 |cons p r ih=>
  obtain⟨p1,p2⟩:=p
  simp only[List.cons_append,Env.get?,ih]
  cases Nat.beq p1 i<;>rfl
theorem Sub.app{a b e:Env}(ha:Sub a e)(hb:Sub b e):Sub (a++b) e:=by
 intro j u hj
 rw[Yt]at hj
 cases h:a.get? j with
 |none=>rw[h]at hj;exact hb j u hj
 |some v=>rw[h]at hj;exact ha j u (by rw[h];exact hj)
theorem SH{c:Bool}(h:c=true):(c==true)=true:=by rw[h];rfl
theorem JC{c:Bool}(h:c=false):(c==false)=true:=by rw[h];rfl
theorem Fits.sub{n:Nat}{e e':Env}{a:Act}(h:Fits n e a)(hs:Sub e' e):Fits n e' a:=⟨h.defers,h.size,fun i v hi=>h.get i v (hs i v hi)⟩
structure Chunk where
 own:List Nat
 ok:(Nat→Option Obj)→Prop
 loc: ∀f g,(∀b∈own,f b=g b)→ok f→ok g
def Chunk.sat(c:Chunk)(w:World):Prop:=c.ok fun b=>w.heap[b]?
def Chunk.one(o:Option Nat)(p:Option Obj→Prop):Chunk:=⟨o.toList,fun f=>p (o.bind f),fun f g h hf=>by
 cases o with
 |none=>exact hf
 |some b=>rw[Option.bind_some]at hf⊢;rw[←h b (by simp)];exact hf⟩
def owns(L:List Chunk):List Nat:=L.flatMap (·.own)
theorem jf(L M:List Chunk):owns (L++M)=owns L++owns M:=by simp[owns]
theorem m9(c:Chunk)(M:List Chunk):owns (c::M)=c.own++owns M:=by simp[owns]
structure St(base:Nat)(w0:World)(L:List Chunk)(w:World):Prop where
 below:Below base w0 w
 ot:base≤w0.heap.size
 sat: ∀c∈L,c.sat w
 nodup:(owns L).Nodup
 ge: ∀b∈owns L,base≤b∧b < w.heap.size
variable {P:Program} {n:Nat} {base:Nat} {w0 w:World} {L:List Chunk} {e:Env}
theorem St.xE(h:St base w0 L w):base≤w.heap.size:=Nat.le_trans h.ot h.below.size
theorem St.start(w:World):St w.heap.size w [] w:=⟨Below.refl _ _,Nat.le_refl _,by simp,by simp[owns],by simp[owns]⟩
theorem St.drew(h:St base w0 L w):St base w0 L w.drew:=⟨h.below.drew,h.ot,h.sat,h.nodup,h.ge⟩
theorem xF{L:List Chunk}{c:Chunk}{b:Nat}(hc:c∈L)(hb:b∈c.own):b∈owns L:=List.mem_flatMap.2 ⟨c,hc,hb⟩
theorem St.ro(h:St base w0 L w){p:Addr}{v:Value}(hv:w0.cell? p=some v)(hp:p.block < base):w.cell? p=some v:=by
 rw[h.below.cell hp];exact hv
theorem St.JD(h:St w0.heap.size w0 L w){p:Addr}{v:Value}(hv:w0.cell? p=some v):w.cell? p=some v:=
 h.ro hv (World.block_lt_of_cell? _ _ hv)
def mx(b:Nat)(o:Obj):Chunk:= .one (some b) fun x=>x=some o
theorem St.obj(h:St base w0 L w){i b:Nat}{o:Obj}(hi:L[i]? =some (mx b o)):w.heap[b]? =some o:=h.sat _ (List.mem_of_getElem? hi)
theorem g_{w:World}{b:Nat}{arr:Array Value}{T:TypeId}{fz:Nat×Nat}{k:Nat}{v:Value}(h:w.heap[b]? =some (.cells arr T fz))(hk:arr[k]? =some v):w.cell? ⟨b,k,none⟩=some v:=by
 simp[World.cell?,h,hk]
def nth:List Value→Nat→Option Value
 | [],_=>none
 |v::_,0=>some v
 |_::r,k+1=>nth r k
theorem yO(l:List Value)(k:Nat):nth l k=l[k]? :=by
 induction l generalizing k with
 |nil=>simp[nth]
 |cons v r ih=>cases k<;>simp[nth,ih]
theorem St.replace{X M M' Y:List Chunk}(h:St base w0 (X++(M++Y)) w){w':World}(hos:w'.os=w.os)(JE:w'.tape=w.tape)(hout:w'.output=w.output)(hsz:w.heap.size≤w'.heap.size)
  (Ll: ∀k,k < w.heap.size→k∉owns M→w'.heap[k]? =w.heap[k]?)(Ed: ∀c∈M',c.sat w')(hnd:(owns M').Nodup)(hsub: ∀b∈owns M',b∈owns M∨(w.heap.size≤b∧b < w'.heap.size)):St base w0 (X++(M'++Y)) w':=by
 have hn:=h.nodup
 have hg:=h.ge
 rw[jf,jf]at hn hg
 rw[List.nodup_append,List.nodup_append]at hn
 obtain⟨hX,⟨hM,hY,hMY⟩,Yu⟩:=hn
 have keep: ∀c,c∈X∨c∈Y→c.sat w':=by
  intro c hc
  have hs:=h.sat c (by rcases hc with hc|hc<;>simp[hc])
  refine c.loc _ _ (fun b hb=>?_) hs
  have hbo:b∈owns X∨b∈owns Y:=by rcases hc with hc|hc;exact .inl (xF hc hb);exact .inr (xF hc hb)
  refine(Ll b ?_ ?_).symm
  ·exact(hg b (by rcases hbo with h|h<;>simp[h])).2
  ·intro hm
   rcases hbo with hb'|hb'
   ·exact Yu b hb' b (by simp[hm]) rfl
   ·exact hMY b hm b hb' rfl
 refine⟨h.below.trans ⟨hos,JE,hout,hsz,fun k hk=>Ll k (Nat.lt_of_lt_of_le hk h.xE) fun hm=>?_⟩,h.ot,fun c hc=>?_,?_,?_⟩
 ·have:=(hg k (by simp[hm])).1;omega
 ·rcases List.mem_append.1 hc with hc|hc
  ·exact keep c (.inl hc)
  ·rcases List.mem_append.1 hc with hc|hc
   ·exact Ed c hc
   ·exact keep c (.inr hc)
 ·rw[jf,jf,List.nodup_append,List.nodup_append]
  refine⟨hX,⟨hnd,hY,fun a ha b hb e=>?_⟩,fun a ha b hb e=>?_⟩
  ·subst e
   rcases hsub a ha with h1|h1
   ·exact hMY a h1 a hb rfl
   ·have:=(hg a (by simp[hb])).2;omega
  ·subst e
   rcases List.mem_append.1 hb with hb|hb
   ·rcases hsub a hb with h1|h1
    ·exact Yu a ha a (by simp[h1]) rfl
    ·have:=(hg a (by simp[ha])).2;omega
   ·exact Yu a ha a (by simp[hb]) rfl
 ·intro b hb
  rw[jf,jf]at hb
  have hb':b∈owns X∨b∈owns M'∨b∈owns Y:=by simpa using hb
  rcases hb' with h1|h1|h1
  ·have:=hg b (by simp[h1]);omega
  ·rcases hsub b h1 with h2|h2
   ·have:=hg b (by simp[h2]);omega
   ·have:=h.xE;omega
  ·have:=hg b (by simp[h1]);omega
theorem FN{L:List Chunk}{i:Nat}{c:Chunk}(hi:L[i]? =some c):L=L.take i++([c]++L.drop (i+1))∧∀c',L.set i c'=L.take i++([c']++L.drop (i+1)):=by
 obtain⟨hil,hic⟩:=List.getElem?_eq_some_iff.1 hi
 refine⟨by rw[←hic];simp,fun c'=>by rw[List.set_eq_take_append_cons_drop,if_pos hil];rfl⟩
theorem St.OC(h:St base w0 L w){w':World}{i:Nat}{c c':Chunk}(hi:L[i]? =some c)(hos:w'.os=w.os)(JE:w'.tape=w.tape)(hout:w'.output=w.output)(hsz:w.heap.size≤w'.heap.size)
  (Ll: ∀k,k < w.heap.size→k∉c.own→w'.heap[k]? =w.heap[k]?)(Ed:c'.sat w')(hnd:c'.own.Nodup)(hsub: ∀b∈c'.own,b∈c.own∨(w.heap.size≤b∧b < w'.heap.size)):St base w0 (L.set i c') w':=by
 obtain⟨e1,e2⟩:=FN hi
 rw[e2 c']
 rw[e1]at h
 have o1: ∀c:Chunk,owns [c]=c.own:=fun c=>by simp[owns]
 exact St.replace (M:=[c]) (M':=[c']) h hos JE hout hsz (fun k hk hm=>Ll k hk (by rwa[o1]at hm)) (fun x hx=>by obtain rfl:=List.mem_singleton.1 hx;exact Ed) (by rw[o1];exact hnd) (fun b hb=>by rw[o1]at hb⊢;exact hsub b hb)
theorem St.alloc(h:St base w0 L w)(o:Obj):St base w0 (mx w.heap.size o::L) (w.alloc o):=by
 have h0:St base w0 ([]++([]++L)) w:=h
 refine St.replace (X:=[]) (M:=[]) (M':=[mx w.heap.size o]) (Y:=L) h0 rfl rfl rfl (by simp) (fun k hk _=>Below.heap_alloc _ _ _ hk) (fun c hc=>?_) (by simp[owns,mx,Chunk.one]) (fun b hb=>?_)
 ·obtain rfl:=List.mem_singleton.1 hc
  show((some w.heap.size).bind fun b=>(w.heap.push o)[b]?)=some o
  rw[Option.bind_some,Array.getElem?_push_size]
 ·have:b=w.heap.size:=by simpa[owns,mx,Chunk.one]using hb
  subst this
  exact .inr ⟨Nat.le_refl _,by simp⟩
theorem St.SI(h:St base w0 L w){w':World}{i:Nat}{c c':Chunk}{b:Nat}(hi:L[i]? =some c)(hc:c.own= [b])(Cb:c'.own= [b])
  (hos:w'.os=w.os)(JE:w'.tape=w.tape)(hout:w'.output=w.output)(hsz:w'.heap.size=w.heap.size)(Ll: ∀k,k≠b→w'.heap[k]? =w.heap[k]?)(Ed:c'.sat w'):St base w0 (L.set i c') w':=
 h.OC hi hos JE hout (by omega) (fun k _ hk=>Ll k (by rw[hc]at hk;simpa using hk)) Ed (by rw[Cb];simp) (fun b' hb=> .inl (by rw[hc];rwa[Cb]at hb))
theorem St.store(h:St base w0 L w){i b k:Nat}{arr:Array Value}{T:TypeId}(hi:L[i]? =some (mx b (.cells arr T (0,0))))(hk:k < arr.size)(v:Value):
  (∃u,w.cell? ⟨b,k,none⟩=some u)∧w.frozen? ⟨b,k,none⟩=false∧St base w0 (L.set i (mx b (.cells (arr.setIfInBounds k v) T (0,0)))) (w.setCell ⟨b,k,none⟩ v):=by
 have ho:=h.obj hi
 have hkk:arr[k]? =some arr[k]:=Array.getElem?_eq_getElem hk
 refine⟨⟨arr[k],g_ ho hkk⟩,by simp[World.frozen?,ho],h.SI hi rfl rfl rfl rfl rfl (by simp) (fun j hj=>Below.heap_setCell _ _ _ _ (by simpa using hj)) ?_⟩
 show((some b).bind fun b'=>(w.setCell ⟨b,k,none⟩ v).heap[b']?)=_
 simp[World.setCell,Array.getElem?_modify,ho]
theorem St.weak{c c':Chunk}{L:List Chunk}(h:St base w0 (c::L) w)(hc: ∀x,c.ok x→c'.ok x)(ho:c'.own=c.own:=by rfl):St base w0 (c'::L) w:=by
 have aaG:owns (c'::L)=owns (c::L):=by rw[m9,m9,ho]
 refine⟨h.below,h.ot,fun x hx=>?_,aaG▸h.nodup,aaG▸h.ge⟩
 rcases List.mem_cons.1 hx with rfl|hx
 ·have:=h.sat c (by simp)
  exact hc _ this
 ·exact h.sat x (by simp[hx])
theorem St.N'{o:Option Nat}{p p':Option Obj→Prop}{L:List Chunk}(h:St base w0 (.one o p::L) w)(hc: ∀x,p x→p' x):St base w0 (.one o p'::L) w:=
 h.weak fun f hf=>hc _ hf
def Ee:List (Int×Value)→Int→Option Value
 | [],_=>none
 |(a,v)::r,k=>if a=k then some v else Ee r k
def wb:List (Int×Value)→Int→Value→List (Int×Value)
 | [],k,v=>[(k,v)]
 |(a,u)::r,k,v=>if a=k then(a,v)::r else(a,u)::wb r k v
def yE(es:Array MapEntry)(l:List (Int×Value)):Prop:=es.toList.map (fun e=>(e.key,e.val))=l.map fun p=>(Value.int .i64 p.1,p.2)
def OD(b:Nat)(l:List (Int×Value)):Chunk:= .one (some b) fun x=>∃es clock,x=some (.map es clock)∧yE es l∧Go.MapKept.Stamped es clock
def lh:List (Int×Value)→Int→Option (Nat×Value)
 | [],_=>none
 |(a,v)::r,k=>if k=a then some (0,v)else(lh r k).map fun p=>(p.1+1,p.2)
theorem MN(k:Int): ∀l:List (Int×Value),(lh l k).map (·.2)=Ee l k
 | []=>rfl
 |(a,v)::r=>by
  simp only[lh,Ee]
  by_cases h:k=a
  ·subst h;simp
  ·rw[if_neg h,if_neg (Ne.symm h),←MN k r];cases lh r k<;>rfl
theorem Ia(k:Int): ∀(es:List MapEntry) (l:List (Int×Value)) (i:Nat),es.map (fun e=>(e.key,e.val))=l.map (fun p=>(Value.int .i64 p.1,p.2))→
  Instr.findNow (.int .i64) (.int .i64 k) es i=some ((lh l k).map fun p=>(i+p.1,p.2))
 | [],l,i,h=>by
  have:l= []:=by simpa using h.symm
  subst this;rfl
 |e::es,[],i,h=>by simp at h
 |e::es,(a,v)::l,i,h=>by
  simp only[List.map_cons,List.cons.injEq,Prod.mk.injEq]at h
  obtain⟨⟨h1,h2⟩,h3⟩:=h
  have ih:=Ia k es l (i+1) h3
  unfold Instr.findNow
  rw[h1]
  by_cases hk:k=a
  ·subst hk;simp[Instr.sameNow,lh,h2]
  ·have hb:(k==a)=false:=by simpa using hk
   simp only[Instr.sameNow,if_true,hb,lh,if_neg hk]
   rw[ih]
   cases lh l k with
   |none=>rfl
   |some p=>simp[Nat.add_assoc,Nat.add_comm 1]
theorem De(k:Int)(v:Value): ∀(es:List MapEntry) (l:List (Int×Value)) (j:Nat) (u:Value),es.map (fun e=>(e.key,e.val))=l.map (fun p=>(Value.int .i64 p.1,p.2))→lh l k=some (j,u)→
  (es.modify j fun e=>{e with key:= .int .i64 k,val:=v}).map (fun e=>(e.key,e.val))=(wb l k v).map (fun p=>(Value.int .i64 p.1,p.2))∧(es[j]?).map (·.key)=some (.int .i64 k)
 | [],l,j,u,h,hf=>by
  have:l= []:=by simpa using h.symm
  subst this;cases hf
 |e::es,[],j,u,h,hf=>by cases hf
 |e::es,(a,x)::l,j,u,h,hf=>by
  simp only[List.map_cons,List.cons.injEq,Prod.mk.injEq]at h
  obtain⟨⟨h1,h2⟩,h3⟩:=h
  simp only[lh]at hf
  by_cases hk:k=a
  ·subst hk
   rw[if_pos rfl]at hf
   obtain⟨rfl,rfl⟩:0=j∧x=u:=by simpa using hf
   simp[wb,h1,h3]
  ·rw[if_neg hk]at hf
   cases hf':lh l k with
   |none=>rw[hf']at hf;cases hf
   |some p=>
    rw[hf']at hf
    obtain⟨hj,hu⟩:p.1+1=j∧p.2=u:=by simpa using hf
    subst hj
    have:=De k v es l p.1 p.2 h3 hf'
    simp only[wb,if_neg (Ne.symm hk),List.modify_succ_cons,List.map_cons,h1,h2,this.1]
    exact⟨trivial,by simpa using this.2⟩
theorem Df(k:Int)(v:Value): ∀(l:List (Int×Value)),lh l k=none→wb l k v=l++[(k,v)]
 | [],_=>rfl
 |(a,x)::l,hf=>by
  simp only[lh]at hf
  by_cases hk:k=a
  ·rw[if_pos hk]at hf;cases hf
  ·rw[if_neg hk]at hf
   have:=Df k v l (by cases h:lh l k with|none=>rfl|some p=>rw[h]at hf;cases hf)
   simp[wb,if_neg (Ne.symm hk),this]
theorem NI{P:Program}{w:World}{KT:Nat}(hK:P.underlying KT=some (.int .i64))(em:Bool)(k:Int)(m:Nat):(Instr.checkKey em (m+1) KT (.int .i64 k)).run P w= .ok () w:=by
 simp[Instr.checkKey,run_underlying hK]
theorem run_checkKey{P:Program}{w:World}{KT:Nat}(hK:P.underlying KT=some (.int .i64))(em:Bool)(k:Int):(Instr.checkKey em 10000 KT (.int .i64 k)).run P w= .ok () w:=
 NI hK em k 9999
theorem s5{P:Program}{w:World}{b:Nat}{es:Array MapEntry}{clock:Nat}(hb:w.heap[b]? =some (.map es clock)):(getObj b).run P w= .ok (.map es clock) w:=by
 simp[getObj,Sem.run,hb]
theorem Ag{P:Program}{w:World}{b:Nat}{es:Array MapEntry}{clock:Nat}{o:Obj}(hb:w.heap[b]? =some (.map es clock)):(setObj b o).run P w= .ok () {w with heap:=w.heap.setIfInBounds b o}:=by
 simp[setObj,Sem.run,hb]
theorem run_findKey{P:Program}{w:World}{KT:Nat}{es:Array MapEntry}{l:List (Int×Value)}(hK:P.underlying KT=some (.int .i64))(hl:yE es l)(k:Int):(Instr.findKey KT (.int .i64 k) es.toList).run P w= .ok (lh l k) w:=by
 unfold Instr.findKey
 rw[Sem.run_bind,run_underlying hK]
 simp only[Result.andThen_ok,Ia k es.toList l 0 hl,Sem.run_pure]
 cases lh l k<;>simp
theorem JF(k:Int): ∀{l:List (Int×Value)},lh l k=none→∀p∈l,p.1≠k
 | [],_,p,hp=>nomatch hp
 |(a,v)::r,h,p,hp=>by
  unfold lh at h
  by_cases e:k=a
  ·rw[if_pos e]at h;cases h
  ·rw[if_neg e]at h
   rcases List.mem_cons.1 hp with rfl|hp
   ·exact fun z=>e z.symm
   ·refine JF k ?_ p hp
    cases hf:lh r k with
    |none=>rfl
    |some q=>rw[hf]at h;cases h
theorem UF{P:Program}{w:World}{T KT E b:Nat}{es:Array MapEntry}{clock:Nat}{l:List (Int×Value)}(hT:P.underlying T=some (.map KT E))(hK:P.underlying KT=some (.int .i64))(hb:w.heap[b]? =some (.map es clock))(hl:yE es l)(hst:Go.MapKept.Stamped es clock)(k:Int)(v:Value):
  ∃es' clock',(Instr.mapUpdate T (.map (some b)) (.int .i64 k) v).run P w= .ok () {w with heap:=w.heap.setIfInBounds b (.map es' clock')}∧yE es' (wb l k v)∧Go.MapKept.Stamped es' clock':=by
 unfold Instr.mapUpdate
 simp only[Sem.run_bind,run_underlying hT,Result.andThen_ok,s5 hb,run_checkKey hK,run_findKey hK hl]
 cases hf:lh l k with
 |none=>
  refine⟨es.push ⟨.int .i64 k,v,clock⟩,clock+1,by simp[Ag hb],?_,Go.MapKept.stamped_push hst fun x hx e=>?_⟩
  ·unfold yE at hl⊢
   rw[Df k v l hf]
   simp[hl]
  ·unfold yE at hl
   have hm:(x.key,x.val)∈l.map fun p=>(Value.int .i64 p.1,p.2):=hl▸List.mem_map.2 ⟨x,hx,rfl⟩
   obtain⟨p,hp,e2⟩:=List.mem_map.1 hm
   have e3:=(Prod.mk.inj e2).1
   rw[e]at e3
   exact JF k hf p hp (by injection e3)
 |some p=>
  obtain⟨j,u⟩:=p
  obtain⟨h1,h2⟩:=De k v es.toList l j u hl hf
  have V7:(es[j]?).map (·.key)=some (.int .i64 k):=by simpa using h2
  refine⟨es.modify j fun e=>{e with key:= .int .i64 k,val:=v},clock,?_,?_,Go.MapKept.stamped_modify hst j _ (fun _ _=>rfl) fun e _ he=>?_⟩
  ·simp[V7,Instr.keyThatStays,Instr.sameBits,Ag hb]
  ·unfold yE
   rw[Array.toList_modify]
   exact h1
  ·rw[he]at V7
   exact(Option.some.inj V7).symm
theorem UG{P:Program}{w:World}{T KT E b:Nat}{es:Array MapEntry}{clock:Nat}{l:List (Int×Value)}{z:Value}(hT:P.underlying T=some (.map KT E))(hK:P.underlying KT=some (.int .i64))(hz: ∃i,P.info? E=some i∧i.zero=some z)(hb:w.heap[b]? =some (.map es clock))(hl:yE es l)(k:Int)(FP:Bool):
  (Instr.lookup T (.map (some b)) (.int .i64 k) FP).run P w= .ok (if FP then .tuple #[(Ee l k).getD z,.bool (Ee l k).isSome]else(Ee l k).getD z) w:=by
 obtain⟨i,hi,hz⟩:=hz
 unfold Instr.lookup
 rw[←MN k l]
 simp only[Sem.run_bind,run_underlying hT,Result.andThen_ok,s5 hb,run_checkKey hK,run_findKey hK hl,Sem.run_pure]
 cases hf:lh l k with
 |none=>simp[zeroValue,typeInfo,hi,hz]
 |some p=>simp
theorem St.sub{L':List Chunk}(h:St base w0 L w)(hs: ∃R,(L'++R).Perm L):St base w0 L' w:=by
 obtain⟨R,hp⟩:=hs
 have ho:(owns (L'++R)).Perm (owns L):=hp.flatMap_right _
 have hsub:owns (L'++R)=owns L'++owns R:=by simp[owns]
 have hnd:(owns L'++owns R).Nodup:=hsub▸(ho.nodup_iff.2 h.nodup)
 refine⟨h.below,h.ot,fun c hc=>h.sat c (hp.mem_iff.1 (by simp[hc])),(List.nodup_append.1 hnd).1,fun b hb=>h.ge b (ho.mem_iff.1 (by rw[hsub];simp[hb]))⟩
theorem Ef{α:Type}: ∀L:List α,(List.range L.length).filterMap (L[·]?)=L
 | []=>rfl
 |c::L=>by
  have ih:=Ef L
  rw[List.length_cons,List.range_succ_eq_map,List.filterMap_cons]
  simp only[List.getElem?_cons_zero,List.filterMap_map]
  congr 1
theorem St.pick(h:St base w0 L w)(idx:List Nat)(hi:(decide idx.Nodup&&idx.all fun i=>Nat.blt i L.length)=true):St base w0 (idx.filterMap (L[·]?)) w:=by
 simp only[Bool.and_eq_true,decide_eq_true_eq,List.all_eq_true,Nat.blt_eq]at hi
 obtain⟨hn,hl⟩:=hi
 refine h.sub ⟨((List.range L.length).filter (fun i=>decide (i∉idx))).filterMap (L[·]?),?_⟩
 conv=>rhs;rw[←Ef L]
 rw[←List.filterMap_append]
 refine List.Perm.filterMap _ ?_
 rw[List.perm_ext_iff_of_nodup]
 ·intro a
  simp only[List.mem_append,List.mem_filter,List.mem_range,decide_eq_true_eq]
  constructor
  ·rintro(h|h)
   ·exact hl a h
   ·exact h.1
  ·intro h
   by_cases ha:a∈idx
   ·exact .inl ha
   ·exact .inr ⟨h,ha⟩
 ·rw[List.nodup_append]
  refine⟨hn,List.Pairwise.filter _ List.nodup_range,fun a ha b hb e=>?_⟩
  subst e
  simp at hb
  exact hb.2 ha
 ·exact List.nodup_range
theorem St.merge{L':List Chunk}{w':World}(h:St base w0 L w)(k:St w.heap.size w L' w'):St base w0 (L'++L) w':=by
 have hlt: ∀b∈owns L,b < w.heap.size:=fun b hb=>(h.ge b hb).2
 refine⟨h.below.trans (k.below.mono h.xE),h.ot,?_,?_,?_⟩
 ·intro c hc
  rcases List.mem_append.1 hc with hc|hc
  ·exact k.sat c hc
  ·exact c.loc _ _ (fun b hb=>(k.below.block b (hlt b (xF hc hb))).symm) (h.sat c hc)
 ·have:owns (L'++L)=owns L'++owns L:=by simp[owns]
  rw[this,List.nodup_append]
  refine⟨k.nodup,h.nodup,fun a ha b hb=>?_⟩
  have:=(k.ge a ha).1
  have:=hlt b hb
  omega
 ·intro b hb
  have:owns (L'++L)=owns L'++owns L:=by simp[owns]
  rw[this]at hb
  rcases List.mem_append.1 hb with hb|hb
  ·have:=k.ge b hb
   have:=h.xE
   omega
  ·have:=h.ge b hb
   have:=k.below.size
   omega
theorem St.same{w':World}(h:St base w0 L w)(k:St w.heap.size w [] w'):St base w0 L w':=h.merge k
def KK(n:Nat)(base:Nat)(w0:World)(e:Env)(L:List Chunk)(K:Act→World→Prop):Prop:=∀a w,Fits n e a→St base w0 L w→K a w
def WL(P:Program)(ops:List Oper)(n:Nat)(base:Nat)(w0:World)(e:Env)(L:List Chunk)(l:List Oper)(Q:Exit→Act→World→Prop):Prop:=
 KK n base w0 e L (wpList P ops.toArray Q l)
def WO(P:Program)(ops:List Oper)(n:Nat)(base:Nat)(w0:World)(e:Env)(L:List Chunk)(o:Oper)(K:Act→World→Prop)(Q:Exit→Act→World→Prop):Prop:=
 ∀a w,Fits n e a→St base w0 L w→if Region.wanted o (yielded ops.toArray a.tmps)then o.wp P a w K Q∨(o.asks P a w∧LetsOut Q)else K (a.put o.dst undef) w
def WS(P:Program)(ops:List Oper)(n:Nat)(base:Nat)(w0:World)(e:Env)(L:List Chunk)(l:List Oper)(Q:Act→World→Prop):Prop:=
 ∀a w,Fits n e a→St base w0 L w→wpStill P ops.toArray w (fun a'=>Q a' w) l a
def W(P:Program)(n:Nat)(base:Nat)(w0:World)(e:Env)(L:List Chunk)(c:Code)(Q:Exit→Act→World→Prop):Prop:=
 ∀a w,Fits n e a→St base w0 L w→c.wp P Q a w
def Yd(P:Program)(n:Nat)(base:Nat)(w0:World)(e:Env)(L:List Chunk)(o:Oper)(v:Value):Prop:=
 ∀a w,Fits n e a→St base w0 L w→(execOp a.eval o).run P w= .ok (.value v) w
variable {ops rest:List Oper} {Q:Exit→Act→World→Prop} {R:Act→World→Prop} {d:Nat} {op:Op} {t:TypeId} {pos:String} {af:Array Edge} {v:Value}
theorem WL.step{o:Oper}(h:WO P ops n base w0 e L o (wpList P ops.toArray Q rest) Q):WL P ops n base w0 e L (o::rest) Q:=fun a w ha hw=>by
 unfold wpList;exact h a w ha hw
theorem WO.of_run{o:Oper}{K:Act→World→Prop}(hg:o.guard=none)(h: ∀a w,Fits n e a→St base w0 L w→o.wp P a w K Q):WO P ops n base w0 e L o K Q:=by
 intro a w ha hw
 rw[if_pos (by simp[Region.wanted,hg])]
 exact .inl (h a w ha hw)
theorem WL.nil(h: ∀a w,Fits n e a→St base w0 L w→Q .normal a w):WL P ops n base w0 e L [] Q:=fun a w ha hw=>h a w ha hw
theorem WS.nil(h: ∀a w,Fits n e a→St base w0 L w→R a w):WS P ops n base w0 e L [] R:=fun a w ha hw=>h a w ha hw
theorem WL.q(y:Yd P n base w0 e L ⟨some d,op,t,pos,af,none⟩ v)(hd:Nat.blt d n=true)(k:WL P ops n base w0 ((d,v)::e) L rest Q):
  WL P ops n base w0 e L (⟨some d,op,t,pos,af,none⟩::rest) Q:=by
 intro a w ha hw
 have hy:=y a w ha hw
 unfold wpList
 rw[if_pos (by simp[Region.wanted])]
 refine .inl ?_
 unfold Oper.wp
 rw[hy]
 exact k _ w (ha.put d v hd) hw
theorem WS.q(y:Yd P n base w0 e L ⟨some d,op,t,pos,af,none⟩ v)(hd:Nat.blt d n=true)(k:WS P ops n base w0 ((d,v)::e) L rest R):
  WS P ops n base w0 e L (⟨some d,op,t,pos,af,none⟩::rest) R:=by
 intro a w ha hw
 have hy:=y a w ha hw
 unfold wpStill
 rw[if_pos (by simp[Region.wanted])]
 unfold Oper.still
 rw[hy]
 exact⟨rfl,k _ w (ha.put d v hd) hw⟩
def Cc:List Oper→Nat→Option Tmp
 | [],_=>none
 |o::_,0=>o.dst
 |_::r,k+1=>Cc r k
theorem IG(l:List Oper)(j:Nat):(l.toArray[j]?).bind (·.dst)=Cc l j:=by
 induction l generalizing j with
 |nil=>simp[Cc]
 |cons o r ih=>
  cases j with
  |zero=>simp[Cc]
  |succ j=>simpa[Cc]using ih j
def Gd(ops:List Oper)(n:Nat)(e:Env)(j:Nat)(want:Bool)(b:Bool):Prop:=∀a,Fits n e a→(yielded ops.toArray a.tmps j==some want)=b
theorem V8{a:Act}{dj:Nat}(hs:dj < a.tmps.size):a.tmps[dj]? =some (a.tmps.getD dj undef):=by
 simp[hs]
theorem Gd.pl{j dj:Nat}{want b:Bool}(hj:Cc ops j=some dj)(hlt:Nat.blt dj n=true)(h:e.get? dj=some (.bool b)):Gd ops n e j want (b==want):=by
 intro a ha
 have hd:dj < a.tmps.size:=by rw[ha.size];simpa[Nat.blt_eq]using hlt
 unfold yielded
 rw[IG,hj]
 simp only[Option.bind_some]
 rw[V8 hd,ha.get _ _ h]
 cases b<;>cases want<;>rfl
theorem Gd.gd{j dj:Nat}{want b c:Bool}(hj:Cc ops j=some dj)(hlt:Nat.blt dj n=true)(h:e.get? dj=some (gv c (.bool b))):Gd ops n e j want (c&&(b==want)):=by
 intro a ha
 have hd:dj < a.tmps.size:=by rw[ha.size];simpa[Nat.blt_eq]using hlt
 unfold yielded
 rw[IG,hj]
 simp only[Option.bind_some]
 rw[V8 hd,ha.get _ _ h]
 cases c
 ·simp[gv,undef]
 ·cases b<;>cases want<;>rfl
theorem uO{p q:Bool}(h:p=true)(k:q=true):(p&&q)=true:=by rw[h,k];rfl
theorem WL.g{j:Nat}{want b:Bool}(g:Gd ops n e j want b)(y:b=true→Yd P n base w0 e L ⟨some d,op,t,pos,af,some (j,want)⟩ v)(hd:Nat.blt d n=true)
  (k:WL P ops n base w0 ((d,gv b v)::e) L rest Q):WL P ops n base w0 e L (⟨some d,op,t,pos,af,some (j,want)⟩::rest) Q:=by
 intro a w ha hw
 have hg:=g a ha
 unfold wpList
 simp only[Region.wanted,hg]
 cases b with
 |true=>
  rw[if_pos rfl]
  refine .inl ?_
  unfold Oper.wp
  rw[y rfl a w ha hw]
  exact k _ w (ha.put d v hd) hw
 |false=>
  rw[if_neg (by simp)]
  exact k _ w (ha.put d undef hd) hw
theorem WS.g{j:Nat}{want b:Bool}(g:Gd ops n e j want b)(y:b=true→Yd P n base w0 e L ⟨some d,op,t,pos,af,some (j,want)⟩ v)(hd:Nat.blt d n=true)
  (k:WS P ops n base w0 ((d,gv b v)::e) L rest R):WS P ops n base w0 e L (⟨some d,op,t,pos,af,some (j,want)⟩::rest) R:=by
 intro a w ha hw
 have hg:=g a ha
 unfold wpStill
 simp only[Region.wanted,hg]
 cases b with
 |true=>
  rw[if_pos rfl]
  unfold Oper.still
  rw[y rfl a w ha hw]
  exact⟨rfl,k _ w (ha.put d v hd) hw⟩
 |false=>
  rw[if_neg (by simp)]
  exact k _ w (ha.put d undef hd) hw
def WD(P:Program)(ops:List Oper)(n:Nat)(base:Nat)(w0:World)(e:Env)(L:List Chunk)(l:List Oper)(Q:Act→Prop):Prop:=
 ∀a,Fits n e a→wpQuiet P ops.toArray (St base w0 L) Q l a
theorem WD.q{R:Act→Prop}(y:Yd P n base w0 e L ⟨some d,op,t,pos,af,none⟩ v)(hd:Nat.blt d n=true)(k:WD P ops n base w0 ((d,v)::e) L rest R):
  WD P ops n base w0 e L (⟨some d,op,t,pos,af,none⟩::rest) R:=by
 intro a ha
 unfold wpQuiet
 rw[if_pos (by simp[Region.wanted])]
 refine⟨v,fun w hw=>?_,k _ (ha.put d v hd)⟩
 unfold Oper.quietAt
 rw[y a w ha hw]
 exact⟨rfl,rfl⟩
theorem WD.g{R:Act→Prop}{j:Nat}{want b:Bool}(g:Gd ops n e j want b)(y:b=true→Yd P n base w0 e L ⟨some d,op,t,pos,af,some (j,want)⟩ v)(hd:Nat.blt d n=true)
  (k:WD P ops n base w0 ((d,gv b v)::e) L rest R):WD P ops n base w0 e L (⟨some d,op,t,pos,af,some (j,want)⟩::rest) R:=by
 intro a ha
 have hg:=g a ha
 unfold wpQuiet
 simp only[Region.wanted,hg]
 cases b with
 |true=>
  rw[if_pos rfl]
  refine⟨v,fun w hw=>?_,k _ (ha.put d v hd)⟩
  unfold Oper.quietAt
  rw[y rfl a w ha hw]
  exact⟨rfl,rfl⟩
 |false=>
  rw[if_neg (by simp)]
  exact k _ (ha.put d undef hd)
theorem WD.nil{R:Act→Prop}(h: ∀a,Fits n e a→R a):WD P ops n base w0 e L [] R:=fun a ha=>h a ha
def ik(n:Nat)(e:Env)(xs:List Operand)(vs:List Value):Prop:=∀a,Fits n e a→xs.map a.eval=vs
theorem ik.nil:ik n e [] []:=fun _ _=>rfl
theorem ik.cons{x:Operand}{xs:List Operand}{vs:List Value}(h:aD n e x v)(k:ik n e xs vs):ik n e (x::xs) (v::vs):=fun a ha=>by simp[h a ha,k a ha]
theorem SJ(a:Act)(f:FuncId):a.eval (.func f)= .func (.func f) #[] #[]:=rfl
theorem o0(a:Act)(v:Value):a.eval (.const v)=v:=rfl
section
variable {D:Option Tmp} {G:Option (Nat×Bool)} {x y z:Operand}
theorem Y.cast{o:Oper}{v':Value}(h:Yd P n base w0 e L o v)(he:v=v'):Yd P n base w0 e L o v':=he▸h
theorem Y.move(hx:aD n e x v):Yd P n base w0 e L ⟨D,.move x,t,pos,af,G⟩ v:=by
 intro a w ha _;simp[execOp,hx a ha]
theorem Y.assign(hx:aD n e x v):Yd P n base w0 e L ⟨D,.assign x,t,pos,af,G⟩ v:=by
 intro a w ha _;simp[execOp,hx a ha]
theorem Y.or{c b:Bool}(hc:aD n e x (.bool c))(hb:c=false→aD n e z (.bool b)):Yd P n base w0 e L ⟨D,.pick x (.const (.bool true)) z,t,pos,af,G⟩ (.bool (c||b)):=by
 intro a w ha _
 cases c
 ·simp[execOp,hc a ha,hb rfl a ha,asBool]
 ·simp[execOp,hc a ha,asBool,o0]
theorem Y.and{c b:Bool}(hc:aD n e x (.bool c))(hb:c=true→aD n e y (.bool b)):Yd P n base w0 e L ⟨D,.pick x y (.const (.bool false)),t,pos,af,G⟩ (.bool (c&&b)):=by
 intro a w ha _
 cases c
 ·simp[execOp,hc a ha,asBool,o0]
 ·simp[execOp,hc a ha,hb rfl a ha,asBool]
section ints
variable {k:IntKind} {p q:Int} {tx ty:TypeId}
theorem Y.lss(hx:aD n e x (.int k p))(hy:aD n e y (.int k q)):Yd P n base w0 e L ⟨D,.binOp .lss tx x y ty,t,pos,af,G⟩ (.bool (decide (p < q))):=by
 intro a w ha _;simp[execOp,hx a ha,hy a ha,eqGuard,binOp,Op.intCmp]
theorem Y.leq(hx:aD n e x (.int k p))(hy:aD n e y (.int k q)):Yd P n base w0 e L ⟨D,.binOp .leq tx x y ty,t,pos,af,G⟩ (.bool (decide (p≤q))):=by
 intro a w ha _;simp[execOp,hx a ha,hy a ha,eqGuard,binOp,Op.intCmp]
theorem Y.gtr(hx:aD n e x (.int k p))(hy:aD n e y (.int k q)):Yd P n base w0 e L ⟨D,.binOp .gtr tx x y ty,t,pos,af,G⟩ (.bool (decide (q < p))):=by
 intro a w ha _;simp[execOp,hx a ha,hy a ha,eqGuard,binOp,Op.intCmp]
theorem Y.geq(hx:aD n e x (.int k p))(hy:aD n e y (.int k q)):Yd P n base w0 e L ⟨D,.binOp .geq tx x y ty,t,pos,af,G⟩ (.bool (decide (q≤p))):=by
 intro a w ha _;simp[execOp,hx a ha,hy a ha,eqGuard,binOp,Op.intCmp]
theorem Y.eql(hx:aD n e x (.int k p))(hy:aD n e y (.int k q)):Yd P n base w0 e L ⟨D,.binOp .eql tx x y ty,t,pos,af,G⟩ (.bool (decide (p=q))):=by
 intro a w ha _;simp[execOp,hx a ha,hy a ha,eqGuard,binOp,Op.intCmp];rfl
theorem Y.neq(hx:aD n e x (.int k p))(hy:aD n e y (.int k q)):Yd P n base w0 e L ⟨D,.binOp .neq tx x y ty,t,pos,af,G⟩ (.bool (!decide (p=q))):=by
 intro a w ha _;simp[execOp,hx a ha,hy a ha,eqGuard,binOp,Op.intCmp];rfl
end ints
theorem wrap64_in(r:Int)(h: -9223372036854775808≤r∧r≤9223372036854775807):IntKind.i64.wrap r=r:=by rw[IntKind.wrap_i64];omega
theorem Y.add{p q:Int}{tx ty:TypeId}(hx:aD n e x (.int .i64 p))(hy:aD n e y (.int .i64 q))(hb: -9223372036854775808≤p+q∧p+q≤9223372036854775807):
  Yd P n base w0 e L ⟨D,.binOp .add tx x y ty,t,pos,af,G⟩ (.int .i64 (p+q)):=by
 intro a w ha _;simp[execOp,hx a ha,hy a ha,eqGuard,binOp,Op.intArith,wrap64_in _ hb]
theorem Y.sub{p q:Int}{tx ty:TypeId}(hx:aD n e x (.int .i64 p))(hy:aD n e y (.int .i64 q))(hb: -9223372036854775808≤p - q∧p - q≤9223372036854775807):
  Yd P n base w0 e L ⟨D,.binOp .sub tx x y ty,t,pos,af,G⟩ (.int .i64 (p - q)):=by
 intro a w ha _;simp[execOp,hx a ha,hy a ha,eqGuard,binOp,Op.intArith,wrap64_in _ hb]
theorem Y.mul{p q:Int}{tx ty:TypeId}(hx:aD n e x (.int .i64 p))(hy:aD n e y (.int .i64 q))(hb: -9223372036854775808≤p * q∧p * q≤9223372036854775807):
  Yd P n base w0 e L ⟨D,.binOp .mul tx x y ty,t,pos,af,G⟩ (.int .i64 (p * q)):=by
 intro a w ha _;simp[execOp,hx a ha,hy a ha,eqGuard,binOp,Op.intArith,wrap64_in _ hb]
theorem Y.not{b:Bool}{tx:TypeId}(hx:aD n e x (.bool b)):Yd P n base w0 e L ⟨D,.unOp .not tx x,t,pos,af,G⟩ (.bool (!b)):=by
 intro a w ha _;simp[execOp,hx a ha,Op.unary]
theorem zo{P:Program}{T k:Nat}(h:P.cellsOf T=k+1): ∃i,P.info? T=some i∧i.size=k+1:=by
 unfold Program.cellsOf at h
 cases hi:P.info? T with
 |none=>simp[hi]at h
 |some i=>exact⟨i,rfl,by simpa[hi]using h⟩
theorem kw{P:Program}{T k:Nat}(h:P.cellsOf T=k+1)(w:World):(sizeOf T).run P w= .ok (k+1) w:=by
 obtain⟨i,hi,hs⟩:=zo h
 simp[sizeOf,typeInfo,hi,hs]
def fx:TypeDesc→Bool
 | .struct _| .array .. =>false
 |_=>true
def xG:TypeDesc→Bool
 | .struct _| .array .. =>true
 |_=>false
theorem run_isAgg_plain{P:Program}{T:Nat}{d:TypeDesc}(h:P.underlying T=some d)(hd:fx d=true)(w:World):(isAgg T).run P w= .ok false w:=by
 unfold isAgg
 rw[Sem.run_bind,run_underlying h w]
 cases d<;>simp_all[fx]
theorem zp{P:Program}{T:Nat}{d:TypeDesc}(h:P.underlying T=some d)(hd:xG d=true)(w:World):(isAgg T).run P w= .ok true w:=by
 unfold isAgg
 rw[Sem.run_bind,run_underlying h w]
 cases d<;>simp_all[xG]
def dr(a:Option Addr)(k:Nat):Addr:=match a with|some p=>⟨p.block,p.off+k,none⟩|none=>⟨0,k,some 0⟩
theorem eX(b o k:Nat):(⟨b,o,none⟩:Addr).add k=⟨b,o+k,none⟩:=by unfold Addr.add;split<;>simp_all
theorem abj(a:Option Addr)(k j:Nat)(ha:a.isSome=true):(dr a k).add j=dr a (k+j):=by
 cases a with
 |none=>cases ha
 |some p=>simp[dr,eX,Nat.add_assoc]
def ints(xs:List Int):List Value:=xs.map (Value.int .i64)
def xk(A:Option Addr):Prop:=A.isSome=true∧∀p,A=some p→p.spot=none
structure sa(w:World)(v:Value)(xs:List Int):Prop where
 is: ∃a cap,v= .slice a xs.length cap∧xs.length≤cap∧∀i (h:i < xs.length),xk a∧w.cell? (dr a i)=some (.int .i64 xs[i])
theorem sa.mono{w0 w:World}{v:Value}{xs:List Int}{L:List Chunk}(h:sa w0 v xs)(hw:St w0.heap.size w0 L w):sa w v xs:=by
 obtain⟨a,cap,hv,hl,hc⟩:=h
 exact⟨a,cap,hv,hl,fun i hi=>⟨(hc i hi).1,hw.JD (hc i hi).2⟩⟩
theorem Y.len{T E:TypeId}{a:Option Addr}{m cap:Nat}(hT:P.underlying T=some (.slice E))(hx:aD n e x (.slice a m cap)):
  Yd P n base w0 e L ⟨D,.call {callee:= .builtin .len,args:= #[x],argTypes:= #[T]},t,pos,af,G⟩ (.int .i64 (m:Int)):=by
 intro a w ha _;simp[execOp,resolve,invoke,builtin,Builtin.len_,hx a ha,run_underlying hT,goInt]
theorem Y.nilCheck{p:Addr}(hx:aD n e x (.pointer (some p))):Yd P n base w0 e L ⟨D,.nilCheck x,t,pos,af,G⟩ (.pointer (some p)):=by
 intro a w ha _;simp[execOp,hx a ha]
def pO(P:Program)(fs:Array Field)(i off ft:Nat):Prop:=(fs[i]?).map (fun f=>(f.offset,f.type))=some (off,ft)
theorem CN{T i off ft k:Nat}{fs:Array Field}{p:Addr}{w:World}(hT:P.underlying T=some (.struct fs))(hf:pO P fs i off ft)(hk:P.cellsOf ft=k+1):(Instr.fieldAt T (.pointer (some p)) i).run P w= .ok (.pointer (some (p.add off))) w:=by
 unfold pO at hf
 cases h:fs[i]? with
 |none=>rw[h]at hf;cases hf
 |some f=>
  rw[h]at hf
  obtain⟨rfl,rfl⟩:f.offset=off∧f.type=ft:=by simpa using hf
  simp[Instr.fieldAt,run_underlying hT,h,Instr.sureAddr,fieldPlace,kw hk]
theorem Y.fieldAddr{T i off ft k:Nat}{fs:Array Field}{b o:Nat}(hT:P.underlying T=some (.struct fs))(hf:pO P fs i off ft)(hk:P.cellsOf ft=k+1)(hx:aD n e x (.pointer (some ⟨b,o,none⟩))):
  Yd P n base w0 e L ⟨D,.fieldAddr T x i,t,pos,af,G⟩ (.pointer (some ⟨b,o+off,none⟩)):=by
 intro a w ha _;simp[execOp,hx a ha,CN hT hf hk,eX]
theorem Y.dQ{T i off ft k:Nat}{fs:Array Field}{b:Nat}(hT:P.underlying T=some (.struct fs))(hf:pO P fs i off ft)(hk:P.cellsOf ft=k+1)(hx:aD n e x (.pointer (some ⟨b,0,none⟩))):
  Yd P n base w0 e L ⟨D,.fieldAddr T x i,t,pos,af,G⟩ (.pointer (some ⟨b,off,none⟩)):=by
 intro a w ha _;simp[execOp,hx a ha,CN hT hf hk,eX]
theorem Y.wc{T i off ft k:Nat}{fs:Array Field}{A:Option Addr}{j:Nat}(hT:P.underlying T=some (.struct fs))(hf:pO P fs i off ft)(hk:P.cellsOf ft=k+1)(hA:A.isSome=true)(hx:aD n e x (.pointer (some (dr A j)))):
  Yd P n base w0 e L ⟨D,.fieldAddr T x i,t,pos,af,G⟩ (.pointer (some (dr A (j+off)))):=by
 intro a w ha _;simp[execOp,hx a ha,CN hT hf hk,abj _ _ _ hA]
theorem Y.Cd{T E k:Nat}{A:Option Addr}{m cap:Nat}{kd:IntKind}{i:Int}(hT:P.underlying T=some (.slice E))(hk:P.cellsOf E=k+1)(hx:aD n e x (.slice A m cap))(hy:aD n e y (.int kd i))(hi:0≤i∧i < m)
  (hA:A.isSome=true∧∀p,A=some p→p.spot=none):Yd P n base w0 e L ⟨D,.indexAddr T x y,t,pos,af,G⟩ (.pointer (some (dr A (i.toNat * (k+1))))):=by
 intro a w ha _
 obtain⟨hs,hsp⟩:=hA
 cases A with
 |none=>cases hs
 |some p=>
  obtain⟨b,o,s⟩:=p
  obtain rfl:s=none:=hsp _ rfl
  simp[execOp,hx a ha,hy a ha,Instr.indexAt,asIntOf,run_underlying hT,hi.1,hi.2,kw hk,eX,dr]
theorem Y.OE{T E k:Nat}{b o m:Nat}{kd:IntKind}{i:Int}(hT:P.underlying T=some (.array m E))(hk:P.cellsOf E=k+1)(hx:aD n e x (.pointer (some ⟨b,o,none⟩)))(hy:aD n e y (.int kd i))(hi:0≤i∧i < m):
  Yd P n base w0 e L ⟨D,.indexAddr T x y,t,pos,af,G⟩ (.pointer (some ⟨b,o+i.toNat * (k+1),none⟩)):=by
 intro a w ha _
 simp[execOp,hx a ha,hy a ha,Instr.indexAt,asIntOf,run_underlying hT,hi.1,hi.2,kw hk,eX,Instr.sureAddr]
theorem Y.min{p q:Int}{kd:IntKind}{ats:Array TypeId}(hx:aD n e x (.int kd p))(hy:aD n e y (.int kd q)):Yd P n base w0 e L ⟨D,.call {callee:= .builtin .min,args:= #[x,y],argTypes:=ats},t,pos,af,G⟩ (.int kd (Min.min p q)):=by
 intro a w ha _
 have:(if q < p then q else p)=Min.min p q:=by rw[Int.min_def];split<;>split<;>omega
 simp[execOp,resolve,invoke,builtin,Builtin.min_,Builtin.min2,hx a ha,hy a ha,this]
theorem Y.max{p q:Int}{kd:IntKind}{ats:Array TypeId}(hx:aD n e x (.int kd p))(hy:aD n e y (.int kd q)):Yd P n base w0 e L ⟨D,.call {callee:= .builtin .max,args:= #[x,y],argTypes:=ats},t,pos,af,G⟩ (.int kd (Max.max p q)):=by
 intro a w ha _
 have:(if q > p then q else p)=Max.max p q:=by rw[Int.max_def];split<;>split<;>omega
 simp[execOp,resolve,invoke,builtin,Builtin.max_,Builtin.max2,hx a ha,hy a ha,this]
theorem Y.load{T:Nat}{d:TypeDesc}{p:Addr}(hT:P.underlying T=some d)(hd:fx d=true)(hx:aD n e x (.pointer (some p)))(hl: ∀w,St base w0 L w→w.cell? p=some v):
  Yd P n base w0 e L ⟨D,.load T x,t,pos,af,G⟩ v:=by
 intro a w ha hw
 simp[execOp,hx a ha,Instr.loadAt,Instr.sureAddr,loadVar,run_isAgg_plain hT hd,hl w hw]
theorem Y.SK{T k:Nat}{d:TypeDesc}{b o:Nat}{cs:List Value}(hT:P.underlying T=some d)(hd:xG d=true)(hk:P.cellsOf T=k+1)(hx:aD n e x (.pointer (some ⟨b,o,none⟩)))(hc:cs.length=k+1)
  (hl: ∀w,St base w0 L w→∀i v,cs[i]? =some v→w.cell? ⟨b,o+i,none⟩=some v):
  Yd P n base w0 e L ⟨D,.load T x,t,pos,af,G⟩ (.agg cs.toArray):=by
 intro a w ha hw
 have h1:(loadCells ⟨b,o,none⟩ cs.length).run P w= .ok cs.toArray w:=run_loadCells_list w ⟨b,o,none⟩ cs (fun j v hj=>by rw[eX];exact hl w hw j v hj)
 rw[hc]at h1
 simp[execOp,hx a ha,Instr.loadAt,Instr.sureAddr,loadVar,zp hT hd,kw hk,h1]
theorem Y.IH{T k:Nat}{d:TypeDesc}{A:Option Addr}{j:Nat}{cs:List Value}(hT:P.underlying T=some d)(hd:xG d=true)(hk:P.cellsOf T=k+1)(hA:A.isSome=true)(hx:aD n e x (.pointer (some (dr A j))))(hc:cs.length=k+1)
  (hl: ∀w,St base w0 L w→∀i v,cs[i]? =some v→w.cell? (dr A (j+i))=some v):
  Yd P n base w0 e L ⟨D,.load T x,t,pos,af,G⟩ (.agg cs.toArray):=by
 cases A with
 |none=>cases hA
 |some p=>
  refine Y.SK (b:=p.block) (o:=p.off+j) hT hd hk hx hc (fun w hw i v hi=>?_)
  have:=hl w hw i v hi
  simpa[dr,Nat.add_assoc]using this
theorem Y.adV{T KT E i b:Nat}{l:List (Int×Value)}{k:Int}{u:Value}(hT:P.underlying T=some (.map KT E))(hK:P.underlying KT=some (.int .i64))(hz: ∃i,P.info? E=some i∧i.zero=some u)(hx:aD n e x (.map (some b)))(hy:aD n e y (.int .i64 k))(hi:L[i]? =some (OD b l)):
  Yd P n base w0 e L ⟨D,.lookup T x y false,t,pos,af,G⟩ ((Ee l k).getD u):=by
 intro a w ha hw
 obtain⟨es,clock,hb,hl,_⟩:=hw.sat _ (List.mem_of_getElem? hi)
 have:=UG (P:=P) (w:=w) hT hK hz hb hl k false
 simp[execOp,hx a ha,hy a ha,this]
def wd(places:List (Nat×Nat)):Array Value→List (Nat×Value)→Option (Array Value)
 |cells,[]=>some cells
 |cells,(i,v)::r=>match places[i]? with
  |some (off,1)=>if off < cells.size then wd places (cells.setIfInBounds off v) r else none
  |_=>none
theorem JG{places:List (Nat×Nat)}: ∀(parts:List (Nat×Value)) (cells cs:Array Value),(∀p∈parts,p.2.oneCell'=true)→wd places cells parts=some cs→Instr.fill (places.toArray[·]?) cells parts=some cs
 | [],cells,cs,_,h=>by simpa[wd,Instr.fill]using h
 |(i,v)::r,cells,cs,h1,h=>by
  have hv:=h1 (i,v) (by simp)
  have hc:v.cells= #[v]:=by cases v<;>simp_all[Value.cells,Value.oneCell']
  unfold wd at h
  unfold Instr.fill
  have e1:places.toArray[i]? =places[i]? :=by simp
  rw[e1]
  split at h
  ·rename_i off heq
   rw[heq]
   split at h
   ·rename_i hlt
    simp only[hc]
    have hsz: ¬off+1 > cells.size:=by omega
    simp only[List.size_toArray,List.length_cons,List.length_nil,Nat.zero_add,ne_eq,not_true_eq_false,hsz,or_self,if_false]
    have:=JG r (cells.setIfInBounds off v) cs (fun p hp=>h1 p (by simp[hp])) h
    simpa using this
   ·cases h
  ·cases h
def MO(n:Nat)(e:Env)(xs:List (Nat×Operand))(vs:List (Nat×Value)):Prop:=∀a,Fits n e a→xs.map (fun p=>(p.1,a.eval p.2))=vs
theorem MO.nil:MO n e [] []:=fun _ _=>rfl
theorem MO.cons{i:Nat}{x:Operand}{xs:List (Nat×Operand)}{vs:List (Nat×Value)}(h:aD n e x v)(k:MO n e xs vs):MO n e ((i,x)::xs) ((i,v)::vs):=fun a ha=>by simp[h a ha,k a ha]
def sb:Nat→List Value→List (Nat×Value)
 |_,[]=>[]
 |k,v::r=>(k,v)::sb (k+1) r
def MP(n:Nat)(e:Env)(k:Nat)(xs:List (Nat×Operand))(vs:List Value):Prop:=∀a,Fits n e a→xs.map (fun p=>(p.1,a.eval p.2))=sb k vs
theorem MP.nil{k:Nat}:MP n e k [] []:=fun _ _=>rfl
theorem MP.cons{k:Nat}{x:Operand}{xs:List (Nat×Operand)}{vs:List Value}(h:aD n e x v)(r:MP n e (k+1) xs vs):MP n e k ((k,x)::xs) (v::vs):=fun a ha=>by simp[h a ha,r a ha,sb]
structure Shape(P:Program)(T:Nat)(places:List (Nat×Nat))(z:Array Value):Prop where
 is: ∃fs i zv,P.underlying T=some (.struct fs)∧P.info? T=some i∧i.zero=some zv∧zv.cells=z∧fs.toList.map (fun f=>(f.offset,P.cellsOf f.type))=places∧∀p∈places,0 < p.2
theorem OG: ∀(cs:List Value) (j:Nat) (done mid tail:List Value),mid.length=cs.length→done.length=j→
  (cs.zipIdx j).foldl (fun(A:Array Value) (p:Value×Nat)=>A.setIfInBounds p.2 p.1) (done++(mid++tail)).toArray=(done++(cs++tail)).toArray
 | [],j,done,mid,tail,h,hd=>by
  have:mid= []:=by simpa using h
  simp[this]
 |c::cs,j,done,mid,tail,h,hd=>by
  cases mid with
  |nil=>simp at h
  |cons m mid=>
   simp only[List.zipIdx_cons,List.foldl_cons]
   have e1:(done++(m::mid++tail)).toArray.setIfInBounds j c=((done++[c])++(mid++tail)).toArray:=by
    simp[←hd]
   rw[e1,OG cs (j+1) (done++[c]) mid tail (by simpa using h) (by simp[hd])]
   simp
theorem JH(off:Nat): ∀(cs:List Value) (j:Nat) (A:Array Value),
  (cs.zipIdx j).foldl (fun(A:Array Value) (p:Value×Nat)=>A.setIfInBounds (off+p.2) p.1) A=(cs.zipIdx (off+j)).foldl (fun(A:Array Value) (p:Value×Nat)=>A.setIfInBounds p.2 p.1) A
 | [],_,_=>rfl
 |c::cs,j,A=>by
  simp only[List.zipIdx_cons,List.foldl_cons]
  rw[JH off cs (j+1)];rfl
theorem OH{sz:Nat}: ∀(vs:List Value) (k:Nat) (done tail:List Value),tail.length=vs.length * sz→done.length=k * sz→(∀v∈vs,v.cells.size=sz)→
  Instr.fill (fun i=>some (i * sz,sz)) (done++tail).toArray (sb k vs)=some (done++vs.flatMap fun v=>v.cells.toList).toArray
 | [],k,done,tail,h,_,_=>by
  have:tail= []:=by simpa using h
  simp[sb,Instr.fill,this]
 |v::vs,k,done,tail,h,hd,hs=>by
  have hv:=hs v (by simp)
  have hlen:tail.length=sz+vs.length * sz:=by rw[h];simp[Nat.add_mul,Nat.add_comm]
  have hle:sz≤tail.length:=by omega
  unfold sb Instr.fill
  have hcond: ¬(v.cells.size≠sz∨k * sz+v.cells.size > (done++tail).toArray.size):=by simp;omega
  simp only[hcond,if_false]
  have e1:(v.cells.zipIdx.foldl (fun cs (c,j)=>cs.setIfInBounds (k * sz+j) c) (done++tail).toArray)=((done++v.cells.toList)++tail.drop sz).toArray:=by
   have h1:=JH (k * sz) v.cells.toList 0 (done++tail).toArray
   have h2:=OG v.cells.toList (k * sz) done (tail.take sz) (tail.drop sz) (by simp;omega) hd
   rw[List.take_append_drop]at h2
   rw[←Array.foldl_toList,Array.toList_zipIdx]
   simpa[h2]using h1
  rw[e1,OH vs (k+1) (done++v.cells.toList) (tail.drop sz) (by simp;omega) (by simp[hd,hv,Nat.add_mul]) (fun u hu=>hs u (by simp[hu]))]
  simp
  exact⟨hv,by omega⟩
theorem run_places{P:Program}{w:World}: ∀(fs:List Field) (places:List (Nat×Nat)),fs.map (fun f=>(f.offset,P.cellsOf f.type))=places→(∀p∈places,0 < p.2)→
  (fs.mapM (m:=Sem) fun f=>do pure (f.offset,←sizeOf f.type)).run P w= .ok places w
 | [],places,h,_=>by subst h;simp
 |f::r,places,h,hp=>by
  subst h
  have h0:0 < P.cellsOf f.type:=hp (f.offset,P.cellsOf f.type) (by simp)
  obtain⟨k,hk⟩: ∃k,P.cellsOf f.type=k+1:=⟨_,(Nat.succ_pred_eq_of_pos h0).symm⟩
  have ih:=run_places (w:=w) r _ rfl (fun p hp'=>hp p (by simp at hp'⊢;exact .inr hp'))
  simp only[List.mapM_cons,Sem.run_bind,kw hk,Result.andThen_ok,Sem.run_pure,ih,List.map_cons,hk]
theorem Y.build{T:Nat}{places:List (Nat×Nat)}{z cs:Array Value}{xs:List (Nat×Operand)}{vs:List (Nat×Value)}(hs:Shape P T places z)(hx:MO n e xs vs)(h1: ∀p∈vs,p.2.oneCell'=true)(hc:wd places z vs=some cs):
  Yd P n base w0 e L ⟨D,.build T xs.toArray,t,pos,af,G⟩ (.agg cs):=by
 intro a w ha _
 obtain⟨fs,i,zv,hT,hi,hz,rfl,hp,hpos⟩:=hs
 have h2:=run_places (P:=P) (w:=w) fs.toList places hp hpos
 have h3:(fs.mapM (m:=Sem) fun f=>do pure (f.offset,←sizeOf f.type)).run P w= .ok places.toArray w:=by
  rw[Array.mapM_eq_mapM_toList,Sem.run_map,h2];rfl
 have h4:=hx a ha
 have h5:=JG vs zv.cells cs h1 hc
 have h6:(xs.toArray.map fun(p:Nat×Operand)=>(p.1,a.eval p.2))=vs.toArray:=by rw[←h4];simp
 simp only[execOp,Instr.build,Sem.run_bind,zeroValue,typeInfo,Sem.run_pure,run_program,Result.andThen_ok,hi,hz,run_underlying hT,h3,h6,h5]
theorem Y.sliceTo{T E k:Nat}{A:Option Addr}{m cap:Nat}{kd:IntKind}{j:Int}(hT:P.underlying T=some (.slice E))(hk:P.cellsOf E=k+1)(hx:aD n e x (.slice A m cap))(hy:aD n e y (.int kd j))(hj:0≤j∧j≤cap):
  Yd P n base w0 e L ⟨D,.slice T x none (some y) none,t,pos,af,G⟩ (.slice A j.toNat cap):=by
 intro a w ha _
 have e1:(fun x:Addr=>x.add 0)=id:=by funext p;rfl
 simp[execOp,hx a ha,hy a ha,Instr.sliceAt,Instr.slice,Instr.sliceBounds,Instr.sliceBound,asIntOf,run_underlying hT,kw hk,hj.1,hj.2,e1]
theorem Y.fn{f:Fn}{xs:List Operand}{vs:List Value}(hx:ik n e xs vs):Yd P n base w0 e L ⟨D,.makeFunc f xs.toArray #[],t,pos,af,G⟩ (.func f vs.toArray #[]):=by
 intro a w ha _
 have:=hx a ha
 simp[execOp,Instr.makeFunc,this]
theorem Y.fnC{f:Fn}{xs:List Operand}{vs:List Value}(hx:ik n e xs vs):Yd P n base w0 e L ⟨D,.makeFunc f #[] xs.toArray,t,pos,af,G⟩ (.func f #[] vs.toArray):=by
 intro a w ha _
 have:=hx a ha
 simp[execOp,Instr.makeFunc,this]
theorem Y.extract{i:Nat}{vs:Array Value}(hx:aD n e x (.tuple vs))(hv:nth vs.toList i=some v):Yd P n base w0 e L ⟨D,.extract x i,t,pos,af,G⟩ v:=by
 intro a w ha _
 have hv':vs[i]? =some v:=by rw[yO]at hv;simpa using hv
 simp[execOp,hx a ha,Instr.extract,hv']
theorem Y.conv{S T:TypeId}{d:TypeDesc}{k k':IntKind}{p:Int}(hS:P.underlying S=some d)(hT:P.underlying T=some (.int k))(hx:aD n e x (.int k' p)):
  Yd P n base w0 e L ⟨D,.convert S T x,t,pos,af,G⟩ (.int k (k.wrap p)):=by
 intro a w ha _
 simp[execOp,hx a ha,convert,run_underlying hS,run_underlying hT,Conv.intToInt]
end
def se(P:Program)(f:FuncId):Prop:=∃fn,P.funcs[f]? =some fn∧(fn.name== "runtime.NumGoroutine")=false∧fn.body.isNone=false
theorem xH{f:FuncId}{args:List Operand}{vs:List Value}{ats:Array TypeId}{D:Option Tmp}{G:Option (Nat×Bool)}(hg:se P f)(hx:ik n e args vs)(a:Act)(w:World)(ha:Fits n e a):
  (execOp a.eval ⟨D,.call {callee:= .value (.func f),args:=args.toArray,argTypes:=ats},t,pos,af,G⟩).run P w= .ok (.enter f vs.toArray) w:=by
 have:=hx a ha
 obtain⟨fn,hf,hn,hb⟩:=hg
 have hn': ¬fn.name= "runtime.NumGoroutine" :=by simpa using hn
 have hb': ¬fn.body=none:=fun h=>by simp[h]at hb
 simp[execOp,resolve,Deferred.ofValue,SJ,invoke,callFunc,hf,hn',hb',this]
theorem V9{f:FuncId}{x:Operand}{first cap:Array Value}{args:List Operand}{vs:List Value}{ats:Array TypeId}{D:Option Tmp}{G:Option (Nat×Bool)}(hg:se P f)(hf:aD n e x (.func (.func f) first cap))(hx:ik n e args vs)(a:Act)(w:World)(ha:Fits n e a):
  (execOp a.eval ⟨D,.call {callee:= .value x,args:=args.toArray,argTypes:=ats},t,pos,af,G⟩).run P w= .ok (.enter f (first++vs.toArray++cap)) w:=by
 have:=hx a ha
 have h1:=hf a ha
 obtain⟨fn,hf,hn,hb⟩:=hg
 have hn': ¬fn.name= "runtime.NumGoroutine" :=by simpa using hn
 have hb': ¬fn.body=none:=fun h=>by simp[h]at hb
 simp[execOp,resolve,Deferred.ofValue,h1,invoke,callFunc,hf,hn',hb',this]
def Pure(P:Program)(f:FuncId)(vs:List Value)(w:World)(v:Value):Prop:=Calls P f vs.toArray w fun e w'=>e= .returned v∧St w.heap.size w [] w'
def Made(P:Program)(f:FuncId)(vs:List Value)(w:World){γ:Type}(V:γ→Value)(C:γ→List Chunk)(I:γ→Prop):Prop:=
 Calls P f vs.toArray w fun e w'=>∃g,I g∧e= .returned (V g)∧St w.heap.size w (C g) w'
theorem WD.jc{R:Act→Prop}{f:FuncId}{args:List Operand}{vs:List Value}{ats:Array TypeId}(hg:se P f)(hx:ik n e args vs)(hd:Nat.blt d n=true)
  (hc: ∀w,St base w0 L w→Pure P f vs w v)(K:WD P ops n base w0 ((d,v)::e) L rest R):
  WD P ops n base w0 e L (⟨some d,.call {callee:= .value (.func f),args:=args.toArray,argTypes:=ats},t,pos,af,none⟩::rest) R:=by
 intro a ha
 unfold wpQuiet
 rw[if_pos (by simp[Region.wanted])]
 refine⟨v,fun w hw=>?_,K _ (ha.put d v hd)⟩
 unfold Oper.quietAt
 rw[xH hg hx a w ha]
 refine⟨rfl,(hc w hw).mono ?_⟩
 rintro e' w' ⟨rfl,hs⟩
 exact⟨rfl,hw.same hs⟩
theorem WD.gP{R:Act→Prop}{j:Nat}{want b:Bool}{f:FuncId}{args:List Operand}{vs:List Value}{ats:Array TypeId}(g:Gd ops n e j want b)(hg:se P f)(hx:b=true→ik n e args vs)(hd:Nat.blt d n=true)
  (hc:b=true→∀w,St base w0 L w→Pure P f vs w v)(K:WD P ops n base w0 ((d,gv b v)::e) L rest R):
  WD P ops n base w0 e L (⟨some d,.call {callee:= .value (.func f),args:=args.toArray,argTypes:=ats},t,pos,af,some (j,want)⟩::rest) R:=by
 intro a ha
 have hgg:=g a ha
 unfold wpQuiet
 simp only[Region.wanted,hgg]
 cases b with
 |true=>
  rw[if_pos rfl]
  refine⟨v,fun w hw=>?_,K _ (ha.put d v hd)⟩
  unfold Oper.quietAt
  rw[xH hg (hx rfl) a w ha]
  refine⟨rfl,(hc rfl w hw).mono ?_⟩
  rintro e' w' ⟨rfl,hs⟩
  exact⟨rfl,hw.same hs⟩
 |false=>
  rw[if_neg (by simp)]
  exact K _ (ha.put d undef hd)
theorem WL.gP{j:Nat}{want b:Bool}{f:FuncId}{args:List Operand}{vs:List Value}{ats:Array TypeId}(g:Gd ops n e j want b)(hg:se P f)(hx:b=true→ik n e args vs)(hd:Nat.blt d n=true)
  (hc:b=true→∀w,St base w0 L w→Pure P f vs w v)(K:WL P ops n base w0 ((d,gv b v)::e) L rest Q):
  WL P ops n base w0 e L (⟨some d,.call {callee:= .value (.func f),args:=args.toArray,argTypes:=ats},t,pos,af,some (j,want)⟩::rest) Q:=by
 intro a w ha hw
 have hgg:=g a ha
 unfold wpList
 simp only[Region.wanted,hgg]
 cases b with
 |true=>
  rw[if_pos rfl]
  refine .inl ?_
  unfold Oper.wp
  rw[xH hg (hx rfl) a w ha]
  simp only[Oper.upon]
  refine(hc rfl w hw).mono ?_
  rintro e' w' ⟨rfl,hs⟩
  exact K _ _ (ha.put d v hd) (hw.same hs)
 |false=>
  rw[if_neg (by simp)]
  exact K _ w (ha.put d undef hd) hw
section
variable {K:Act→World→Prop}
theorem WO.q(y:Yd P n base w0 e L ⟨some d,op,t,pos,af,none⟩ v)(hd:Nat.blt d n=true)(k:KK n base w0 ((d,v)::e) L K):WO P ops n base w0 e L ⟨some d,op,t,pos,af,none⟩ K Q:=by
 refine WO.of_run rfl fun a w ha hw=>?_
 unfold Oper.wp
 rw[y a w ha hw]
 exact k _ w (ha.put d v hd) hw
theorem WO.store{T:Nat}{x y:Operand}{b k i:Nat}{arr:Array Value}{E:TypeId}(hc:P.cellsOf T=1)(hx:aD n e x (.pointer (some ⟨b,k,none⟩)))(hy:aD n e y v)(hv:v.oneCell'=true)
  (hi:L[i]? =some (mx b (.cells arr E (0,0))))(hk:k < arr.size)(h:KK n base w0 e (L.set i (mx b (.cells (arr.setIfInBounds k v) E (0,0)))) K):
  WO P ops n base w0 e L ⟨none,.store T x y,t,pos,af,none⟩ K Q:=by
 refine WO.of_run rfl fun a w ha hw=>?_
 obtain⟨⟨u,hu⟩,hf,hs⟩:=hw.store hi hk v
 have hcs:v.cells= #[v]:=by cases v<;>simp_all[Value.cells,Value.oneCell']
 have hr:(execOp a.eval ⟨none,.store T x y,t,pos,af,none⟩).run P w= .ok .skip (w.setCell ⟨b,k,none⟩ v):=by
  simp[execOp,hx a ha,hy a ha,Instr.storeAt,Instr.sureAddr,storeVar,hcs,kw hc,storeCells,eX,run_store _ _ _ _ _ hv,hu,hf]
 unfold Oper.wp
 rw[hr]
 exact h _ _ (ha.Lj undef) hs
theorem WO.box{T:Nat}{x:Operand}{cs:Array Value}(hcs:v.cells=cs)(hx:aD n e x v)(hd:Nat.blt d n=true)
  (h: ∀b,KK n base w0 ((d,.pointer (some ⟨b,0,none⟩))::e) (mx b (.cells cs T (0,0))::L) K):WO P ops n base w0 e L ⟨some d,.box T x,t,pos,af,none⟩ K Q:=by
 refine WO.of_run rfl fun a w ha hw=>?_
 have hr:(execOp a.eval ⟨some d,.box T x,t,pos,af,none⟩).run P w= .ok (.value (.pointer (some ⟨w.heap.size,0,none⟩))) (w.alloc (.cells cs T)):=by
  simp[execOp,hx a ha,Instr.box,newVar,newRow,hcs]
 unfold Oper.wp
 rw[hr]
 exact h w.heap.size _ _ (ha.put d _ hd) (hw.alloc _)
theorem WO.il{T:Nat}{x:Operand}{cs:Array Value}(hx:aD n e x (.agg cs))(hd:Nat.blt d n=true)
  (h: ∀b,KK n base w0 ((d,.pointer (some ⟨b,0,none⟩))::e) (mx b (.cells cs T (0,0))::L) K):WO P ops n base w0 e L ⟨some d,.box T x,t,pos,af,none⟩ K Q:=WO.box rfl hx hd h
theorem WO.Eg{T:Nat}{x:Operand}(hx:aD n e x v)(hv:v.oneCell'=true)(hd:Nat.blt d n=true)
  (h: ∀b,KK n base w0 ((d,.pointer (some ⟨b,0,none⟩))::e) (mx b (.cells #[v] T (0,0))::L) K):WO P ops n base w0 e L ⟨some d,.box T x,t,pos,af,none⟩ K Q:=
 WO.box (by cases v<;>simp_all[Value.cells,Value.oneCell']) hx hd h
theorem WO.alloc{T:Nat}{z:Value}{cs:Array Value}(hz: ∃i,P.info? T=some i∧i.zero=some z)(hcs:z.cells=cs)(hd:Nat.blt d n=true)
  (h: ∀b,KK n base w0 ((d,.pointer (some ⟨b,0,none⟩))::e) (mx b (.cells cs T (0,0))::L) K):WO P ops n base w0 e L ⟨some d,.alloc T,t,pos,af,none⟩ K Q:=by
 refine WO.of_run rfl fun a w ha hw=>?_
 obtain⟨i,hi,hz⟩:=hz
 have hr:(execOp a.eval ⟨some d,.alloc T,t,pos,af,none⟩).run P w= .ok (.value (.pointer (some ⟨w.heap.size,0,none⟩))) (w.alloc (.cells cs T)):=by
  simp[execOp,Instr.alloc,zeroValue,typeInfo,hi,hz,newVar,newRow,hcs]
 unfold Oper.wp
 rw[hr]
 exact h w.heap.size _ _ (ha.put d _ hd) (hw.alloc _)
theorem WO.make{T E V_:Nat}{x:Operand}{kd:IntKind}{k:Nat}{z:Value}(hT:P.underlying T=some (.slice E))(hz: ∃i,P.info? E=some i∧i.zero=some z∧i.size=1∧i.bytes=V_)(hz1:z.cells= #[z])(hx:aD n e x (.int kd (k:Int)))(hk:V_ * k≤281474976710656∧k≤9223372036854775807)(hd:Nat.blt d n=true)
  (h: ∀b,KK n base w0 ((d,.slice (some ⟨b,0,none⟩) k k)::e) (mx b (.cells (Array.replicate k z) E (0,0))::L) K):WO P ops n base w0 e L ⟨some d,.makeSlice T x x,t,pos,af,none⟩ K Q:=by
 refine WO.of_run rfl fun a w ha hw=>?_
 obtain⟨i,hi,hz,hs,hby⟩:=hz
 subst hby
 have hm:madeCells z.cells ((k:Int).toNat * i.size)=Array.replicate k z:=by
  rw[hz1,hs];apply Array.toList_inj.1;rw[toList_madeCells_one];simp
 have hr:(execOp a.eval ⟨some d,.makeSlice T x x,t,pos,af,none⟩).run P w= .ok (.value (.slice (some ⟨w.heap.size,0,none⟩) k k)) (w.alloc (.cells (Array.replicate k z) E)):=by
  have:=run_make (P:=P) w T E i z hT hi hz kd kd k k (by omega) (by omega) (by rw[←Int.natCast_mul];exact Int.ofNat_le.2 hk.1) (by omega)
  rw[hm]at this
  simp only[Int.toNat_natCast]at this
  simp only[execOp,hx a ha,Sem.run_bind,this,Result.andThen_ok,Sem.run_pure]
 unfold Oper.wp
 rw[hr]
 exact h w.heap.size _ _ (ha.put d _ hd) (hw.alloc _)
theorem WO.V'{T E sz len:Nat}{zv:Value}{xs:List (Nat×Operand)}{vs:List Value}(hT:P.underlying T=some (.slice E))(hz: ∃i,P.info? E=some i∧i.zero=some zv∧i.size=sz)(hx:MP n e 0 xs vs)(hl:vs.length=len)(hs: ∀v∈vs,v.cells.size=sz)(hsm:len * sz≤16777216)(hd:Nat.blt d n=true)
  (h: ∀b,KK n base w0 ((d,.slice (some ⟨b,0,none⟩) len len)::e) (mx b (.cells (vs.flatMap fun v=>v.cells.toList).toArray E (0,0))::L) K):WO P ops n base w0 e L ⟨some d,.buildSlice T len xs.toArray,t,pos,af,none⟩ K Q:=by
 refine WO.of_run rfl fun a w ha hw=>?_
 obtain⟨i,hi,hz,hsz⟩:=hz
 subst hl
 have h1:=hx a ha
 have h2:(xs.toArray.map fun(p:Nat×Operand)=>(p.1,a.eval p.2))=(sb 0 vs).toArray:=by rw[←h1];simp
 have hr:(execOp a.eval ⟨some d,.buildSlice T vs.length xs.toArray,t,pos,af,none⟩).run P w= .ok (.value (.slice (some ⟨w.heap.size,0,none⟩) vs.length vs.length)) (w.alloc (.cells (vs.flatMap fun v=>v.cells.toList).toArray E)):=by
  have key: ∀A:Array Value,A.size=vs.length * sz→Instr.fill (fun i=>some (i * sz,sz)) A (sb 0 vs)=some (vs.flatMap fun v=>v.cells.toList).toArray:=by
   intro A hA
   have:=OH (sz:=sz) vs 0 [] A.toList (by simpa using hA) (by simp) hs
   simpa using this
  have hle: ¬vs.length * sz > 2 ^ 24:=by omega
  by_cases h0:vs.length * sz=0
  ·simp only[execOp,Instr.buildSlice,Sem.run_bind,run_underlying hT,Result.andThen_ok,sizeOf,typeInfo,run_program,hi,Sem.run_pure,hsz,h2,h0]
   simp only[Nat.zero_mul,gt_iff_lt,Nat.not_lt_zero,if_false,if_true,Sem.run_pure,Result.andThen_ok,Sem.run_ite,pure_bind]
   rw[key _ (by simp[h0])]
   simp[newRow]
  ·simp only[execOp,Instr.buildSlice,Sem.run_bind,run_underlying hT,Result.andThen_ok,sizeOf,typeInfo,run_program,hi,Sem.run_pure,hsz,h2,h0,hle,if_false,zeroValue,hz]
   rw[key _ (by simp)]
   simp[newRow]
 unfold Oper.wp
 rw[hr]
 exact h w.heap.size _ _ (ha.put d _ hd) (hw.alloc _)
theorem WL.gd{D:Option Tmp}{j:Nat}{want b:Bool}(g:Gd ops n e j want b)(hb:b=true)(h:WL P ops n base w0 e L (⟨D,op,t,pos,af,none⟩::rest) Q):WL P ops n base w0 e L (⟨D,op,t,pos,af,some (j,want)⟩::rest) Q:=by
 intro a w ha hw
 have hg:=g a ha
 have h1:=h a w ha hw
 unfold wpList at h1⊢
 simp only[Region.wanted,hg,hb,if_true]at h1⊢
 exact h1
theorem WS.gd{D:Option Tmp}{j:Nat}{want b:Bool}(g:Gd ops n e j want b)(hb:b=true)(h:WS P ops n base w0 e L (⟨D,op,t,pos,af,none⟩::rest) R):WS P ops n base w0 e L (⟨D,op,t,pos,af,some (j,want)⟩::rest) R:=by
 intro a w ha hw
 have hg:=g a ha
 have h1:=h a w ha hw
 unfold wpStill at h1⊢
 simp only[Region.wanted,hg,hb,if_true]at h1⊢
 exact h1
theorem WD.gd{R:Act→Prop}{D:Option Tmp}{j:Nat}{want b:Bool}(g:Gd ops n e j want b)(hb:b=true)(h:WD P ops n base w0 e L (⟨D,op,t,pos,af,none⟩::rest) R):WD P ops n base w0 e L (⟨D,op,t,pos,af,some (j,want)⟩::rest) R:=by
 intro a ha
 have hg:=g a ha
 have h1:=h a ha
 unfold wpQuiet at h1⊢
 simp only[Region.wanted,hg,hb,if_true]at h1⊢
 exact h1
theorem WL.gn{j:Nat}{want b:Bool}(g:Gd ops n e j want b)(hb:b=false)(hd:Nat.blt d n=true)(h:WL P ops n base w0 ((d,undef)::e) L rest Q):WL P ops n base w0 e L (⟨some d,op,t,pos,af,some (j,want)⟩::rest) Q:=by
 intro a w ha hw
 have hg:=g a ha
 unfold wpList
 simp only[Region.wanted,hg,hb,Bool.false_eq_true,if_false]
 exact h _ _ (ha.put d undef hd) hw
theorem WD.gn{R:Act→Prop}{j:Nat}{want b:Bool}(g:Gd ops n e j want b)(hb:b=false)(hd:Nat.blt d n=true)(h:WD P ops n base w0 ((d,undef)::e) L rest R):WD P ops n base w0 e L (⟨some d,op,t,pos,af,some (j,want)⟩::rest) R:=by
 intro a ha
 have hg:=g a ha
 unfold wpQuiet
 simp only[Region.wanted,hg,hb,Bool.false_eq_true,if_false]
 exact h _ (ha.put d undef hd)
theorem WS.gn{j:Nat}{want b:Bool}(g:Gd ops n e j want b)(hb:b=false)(hd:Nat.blt d n=true)(h:WS P ops n base w0 ((d,undef)::e) L rest R):WS P ops n base w0 e L (⟨some d,op,t,pos,af,some (j,want)⟩::rest) R:=by
 intro a w ha hw
 have hg:=g a ha
 unfold wpStill
 simp only[Region.wanted,hg,hb,Bool.false_eq_true,if_false]
 exact h _ _ (ha.put d undef hd) hw
theorem WO.gd{D:Option Tmp}{j:Nat}{want b:Bool}(g:Gd ops n e j want b)(hb:b=true)(h:WO P ops n base w0 e L ⟨D,op,t,pos,af,none⟩ K Q):WO P ops n base w0 e L ⟨D,op,t,pos,af,some (j,want)⟩ K Q:=by
 intro a w ha hw
 have hg:=g a ha
 have h1:=h a w ha hw
 simp only[Region.wanted,hg,hb,if_true]at h1⊢
 exact h1
theorem WO.gn{j:Nat}{want b:Bool}(g:Gd ops n e j want b)(hb:b=false)(hd:Nat.blt d n=true)(h:KK n base w0 ((d,undef)::e) L K):WO P ops n base w0 e L ⟨some d,op,t,pos,af,some (j,want)⟩ K Q:=by
 intro a w ha hw
 have hg:=g a ha
 simp only[Region.wanted,hg,hb,Bool.false_eq_true,if_false]
 exact h _ _ (ha.put d undef hd) hw
theorem WO.makeMap{T:Nat}(hd:Nat.blt d n=true)(h: ∀b,KK n base w0 ((d,.map (some b))::e) (OD b []::L) K):WO P ops n base w0 e L ⟨some d,.makeMap T none,t,pos,af,none⟩ K Q:=by
 refine WO.of_run rfl fun a w ha hw=>?_
 have hr:(execOp a.eval ⟨some d,.makeMap T none,t,pos,af,none⟩).run P w= .ok (.value (.map (some w.heap.size))) (w.alloc (.map #[] 0)):=by
  simp[execOp,Instr.makeMap]
 unfold Oper.wp
 rw[hr]
 exact h w.heap.size _ _ (ha.put d _ hd) ((hw.alloc _).weak (fun x hx=>⟨#[],0,hx,rfl,Go.MapKept.stamped_empty 0⟩))
theorem WO.adW{T E i b:Nat}{x y z:Operand}{l:List (Int×Value)}{k:Int}{KT:Nat}(hT:P.underlying T=some (.map KT E))(hK:P.underlying KT=some (.int .i64))(hx:aD n e x (.map (some b)))(hy:aD n e y (.int .i64 k))(hz:aD n e z v)
  (hi:L[i]? =some (OD b l))(h:KK n base w0 e (L.set i (OD b (wb l k v))) K):WO P ops n base w0 e L ⟨none,.mapUpdate T x y z,t,pos,af,none⟩ K Q:=by
 refine WO.of_run rfl fun a w ha hw=>?_
 obtain⟨es,clock,hb,hl,hst⟩:=hw.sat _ (List.mem_of_getElem? hi)
 have hb':w.heap[b]? =some (.map es clock):=hb
 obtain⟨es',clock',hrun,hl',ah6⟩:=UF (P:=P) (w:=w) hT hK hb' hl hst k v
 have hr:(execOp a.eval ⟨none,.mapUpdate T x y z,t,pos,af,none⟩).run P w= .ok .skip {w with heap:=w.heap.setIfInBounds b (.map es' clock')}:=by
  simp[execOp,hx a ha,hy a ha,hz a ha,hrun]
 unfold Oper.wp
 rw[hr]
 have Yv:b < w.heap.size:=(Array.getElem?_eq_some_iff.1 hb').1
 refine h _ _ (ha.Lj undef) (hw.SI hi rfl rfl rfl rfl rfl (by simp) (fun j hj=>by simp[Array.getElem?_setIfInBounds_ne (Ne.symm hj)]) ?_)
 exact⟨es',clock',by simp[OD,Yv],hl',ah6⟩
theorem WO.jc{f:FuncId}{args:List Operand}{vs:List Value}{ats:Array TypeId}(hg:se P f)(hx:ik n e args vs)(hd:Nat.blt d n=true)
  (hc: ∀w,St base w0 L w→Pure P f vs w v)(h:KK n base w0 ((d,v)::e) L K):
  WO P ops n base w0 e L ⟨some d,.call {callee:= .value (.func f),args:=args.toArray,argTypes:=ats},t,pos,af,none⟩ K Q:=by
 refine WO.of_run rfl fun a w ha hw=>?_
 unfold Oper.wp
 rw[xH hg hx a w ha]
 simp only[Oper.upon]
 refine(hc w hw).mono ?_
 rintro e' w' ⟨rfl,hs⟩
 exact h _ _ (ha.put d _ hd) (hw.same hs)
theorem WO.wg{f:FuncId}{args:List Operand}{vs:List Value}{ats:Array TypeId}{γ:Type}{V:γ→Value}{C:γ→List Chunk}{I:γ→Prop}(hg:se P f)(hx:ik n e args vs)(hd:Nat.blt d n=true)
  (hc: ∀w,St base w0 L w→Made P f vs w V C I)(h: ∀g,I g→KK n base w0 ((d,V g)::e) (C g++L) K):
  WO P ops n base w0 e L ⟨some d,.call {callee:= .value (.func f),args:=args.toArray,argTypes:=ats},t,pos,af,none⟩ K Q:=by
 refine WO.of_run rfl fun a w ha hw=>?_
 unfold Oper.wp
 rw[xH hg hx a w ha]
 simp only[Oper.upon]
 refine(hc w hw).mono ?_
 rintro e' w' ⟨g,hI,rfl,hs⟩
 exact h g hI _ _ (ha.put d _ hd) (hw.merge hs)
theorem WO.call{γ:Type}{f:FuncId}{args:List Operand}{vs:List Value}{ats:Array TypeId}{D:Option Tmp}(V:γ→Value)(L':γ→List Chunk)(I:γ→Prop)(hg:se P f)(hx:ik n e args vs)(hd:OB D n=true)
  (hc: ∀w,St base w0 L w→Calls P f vs.toArray w fun e w'=>∃g,I g∧e= .returned (V g)∧St base w0 (L' g) w')(h: ∀g,I g→KK n base w0 (IE D (V g) e) (L' g) K):
  WO P ops n base w0 e L ⟨D,.call {callee:= .value (.func f),args:=args.toArray,argTypes:=ats},t,pos,af,none⟩ K Q:=by
 refine WO.of_run rfl fun a w ha hw=>?_
 unfold Oper.wp
 rw[xH hg hx a w ha]
 simp only[Oper.upon]
 refine(hc w hw).mono ?_
 rintro e' w' ⟨g,hI,rfl,hs⟩
 exact h g hI _ _ (ha.Ys hd) hs
end
def WA(P:Program)(ops:List Oper)(n:Nat)(base:Nat)(w0:World)(e:Env)(L:List Chunk)(fuel:Nat)(listed:Array Bool)(K:Act→World→Prop):Prop:=
 KK n base w0 e L (wpAny P .any ops.toArray (fun x a w=>x= .normal∧K a w) fuel listed)
theorem WA.take{K:Act→World→Prop}{fuel:Nat}{listed:Array Bool}(i:Nat)(fe:Array Bool)(hi:ops[i]? =some ⟨some d,op,t,pos,af,none⟩)
  (hB:(Region.noSelect ops.toArray&&Region.free .any ops.toArray listed i&&(Region.ready .any ops.toArray listed).contains i&&listed.setIfInBounds i true==fe)=true)
  (y: ∀base w0,Yd P n base w0 e [] ⟨some d,op,t,pos,af,none⟩ v)(hd:Nat.blt d n=true)(k:WA P ops n base w0 ((d,v)::e) L fuel fe K):WA P ops n base w0 e L (fuel+1) listed K:=by
 simp only[Bool.and_eq_true,beq_iff_eq]at hB
 obtain⟨⟨⟨h1,h2⟩,h3⟩,rfl⟩:=hB
 intro a w ha hw
 refine wpAny_take (v:=v) (by simpa using hi) h1 h2 h3 (fun c a w h=>by cases h.1) (.inl ⟨by simp[Region.wanted],fun w=>y w.heap.size w a w ha (St.start w)⟩) ?_
 exact k _ w (ha.put d v hd) hw
def Hj(p:Nat→Prop):List Nat→Prop
 | []=>True
 |i::r=>p i∧Hj p r
theorem Hj.get{p:Nat→Prop}: ∀{l:List Nat},Hj p l→∀i∈l,p i
 | [],_,i,hi=>by cases hi
 |j::r,h,i,hi=>by
  rcases List.mem_cons.1 hi with rfl|hi
  ·exact h.1
  ·exact Hj.get h.2 i hi
def WI(P:Program)(ops:List Oper)(n:Nat)(base:Nat)(w0:World)(e:Env)(L:List Chunk)(fuel:Nat)(listed:Array Bool)(K:Act→World→Prop)(i:Nat):Prop:=
 KK n base w0 e L (wpOp P ops.toArray (fun x a w=>x= .normal∧K a w) i (wpAny P .any ops.toArray (fun x a w=>x= .normal∧K a w) fuel (listed.setIfInBounds i true)))
theorem WA.branch{K:Act→World→Prop}{fuel:Nat}{listed:Array Bool}(rs:List Nat)(hB:(Region.ready .any ops.toArray listed==rs&& !rs.isEmpty)=true)(h:Hj (WI P ops n base w0 e L fuel listed K) rs):WA P ops n base w0 e L (fuel+1) listed K:=by
 simp only[Bool.and_eq_true,beq_iff_eq,Bool.not_eq_true',List.isEmpty_eq_false_iff]at hB
 intro a w ha hw
 exact wpAny_all hB.1 hB.2 fun i hi=>h.get i hi a w ha hw
theorem WI.step{K:Act→World→Prop}{fuel:Nat}{listed:Array Bool}{i:Nat}{o:Oper}(fe:Array Bool)(hi:ops[i]? =some o)(hl:listed.setIfInBounds i true=fe)
  (h:WO P ops n base w0 e L o (wpAny P .any ops.toArray (fun x a w=>x= .normal∧K a w) fuel fe) (fun x a w=>x= .normal∧K a w)):WI P ops n base w0 e L fuel listed K i:=by
 subst hl
 intro a w ha hw
 unfold wpOp
 have:ops.toArray[i]? =some o:=by simpa using hi
 simp only[this]
 exact h a w ha hw
theorem WA.done{K:Act→World→Prop}{listed:Array Bool}(hr:(Region.ready .any ops.toArray listed).isEmpty=true)(k:KK n base w0 e L K):WA P ops n base w0 e L 0 listed K:=
 fun a w ha hw=>wpAny_done (by simpa using hr) ⟨rfl,k a w ha hw⟩ 0
theorem WA.sub{K:Act→World→Prop}{fuel:Nat}{listed:Array Bool}{L':List Chunk}(hs: ∃R,(L'++R).Perm L)(k:WA P ops n base w0 e L' fuel listed K):WA P ops n base w0 e L fuel listed K:=
 fun a w ha hw=>k a w ha (hw.sub hs)
def FQ:Nat→List Value→Env
 |_,[]=>[]
 |k,v::r=>(k,v)::FQ (k+1) r
theorem UH{args:List Value}{k i:Nat}{v:Value}(h:(FQ k args).get? i=some v):k≤i∧args[i - k]? =some v:=by
 induction args generalizing k with
 |nil=>cases h
 |cons u r ih=>
  simp only[FQ,Env.get?]at h
  by_cases hb:Nat.beq k i=true
  ·rw[hb]at h
   have:k=i:=Nat.eq_of_beq_eq_true hb
   subst this
   have:u=v:=by simpa using h
   subst this
   simp
  ·rw[eq_false_of_ne_true hb]at h
   have:=ih h
   have hne:k≠i:=fun e=>hb (by rw[e];simp)
   obtain⟨h1,h2⟩:=this
   refine⟨by omega,?_⟩
   have:i - k=(i - (k+1))+1:=by omega
   rw[this];simpa using h2
section
variable {y c c1 c2:Code} {id:Nat} {Q':Exit→Act→World→Prop}
theorem W.mR{l:List Oper}(h: ∀Q':Exit→Act→World→Prop,(∀a w,y.wp P Q a w→Q' .normal a w)→WL P l n base w0 e L l Q'):W P n base w0 e L (.seq (.region id l.toArray false) y) Q:=
 fun a w ha hw=>wp_seq (wp_region_lit (h _ (fun _ _ h=>h) a w ha hw))
theorem W.Wa{l:List Oper}(h:WL P l n base w0 e L l Q):W P n base w0 e L (.region id l.toArray false) Q:=
 fun a w ha hw=>wp_region_lit (h a w ha hw)
theorem W.iI{l:List Oper}(hm:P.follows .mixedOrders=true)(hB:Region.lexB .any l.toArray=true)(h: ∀R:Act→Prop,(∀a,(∀w,St base w0 L w→y.wp P Q a w)→R a)→WD P l n base w0 e L l R):W P n base w0 e L (.seq (.region id l.toArray true) y) Q:=by
 intro a w ha hw
 refine wp_seq (wp_region_quiet (C:=St base w0 L) hm hB hw.drew ?_)
 have:=h _ (fun _ h=>h) a ha
 simpa[Exit.then]using this
theorem WD.next{R:Act→Prop}{Q0:Exit→Act→World→Prop}(hR: ∀a,(∀w,St base w0 L w→y.wp P Q0 a w)→R a){e':Env}(hs:Sub e' e)(k:W P n base w0 e' L y Q0):WD P ops n base w0 e L [] R:=
 fun a ha=>hR a (fun w hw=>k a w (ha.sub hs) hw)
theorem W.ah7{l:List Oper}(hm:P.follows .mixedOrders=true)(h: ∀K:Act→World→Prop,(∀a w,y.wp P Q a w→K a w)→WA P l n base w0 e L l.length (Array.replicate l.length false) K):W P n base w0 e L (.seq (.region id l.toArray true) y) Q:=by
 intro a w ha hw
 have h1:=wp_region_any (id:=id) (ops:=l.toArray) (Q:=fun x a w=>x= .normal∧y.wp P Q a w) (a:=a) (w:=w) hm (by simpa using h _ (fun _ _ h=>h) a w.drew ha hw.drew)
 refine wp_seq (wp_mono h1 ?_)
 rintro e a w ⟨rfl,h⟩
 exact h
theorem KK.next{K:Act→World→Prop}{Q0:Exit→Act→World→Prop}(hK: ∀a w,y.wp P Q0 a w→K a w){e':Env}(hs:Sub e' e)(k:W P n base w0 e' L y Q0):KK n base w0 e L K:=
 fun a w ha hw=>hK a w (k a w (ha.sub hs) hw)
theorem KK.pick{K:Act→World→Prop}{L':List Chunk}(idx:List Nat)(hi:(decide idx.Nodup&&idx.all fun i=>Nat.blt i L.length)=true)(he:idx.filterMap (L[·]?)=L')(k:KK n base w0 e L' K):KK n base w0 e L K:=
 fun a w ha hw=>k a w ha (he▸hw.pick idx hi)
theorem W.zq{l:List Oper}(k:Nat)(hm:P.follows .mixedOrders=true)(hB:Region.lexTailB .any l.toArray k=true)
  (h: ∀Q':Exit→Act→World→Prop,(∀a w,y.wp P Q a w→Q' .normal a w)→WS P l n base w0 e L (l.take k) (fun a w=>wpList P l.toArray Q' (l.drop k) a w)):W P n base w0 e L (.seq (.region id l.toArray true) y) Q:=by
 intro a w ha hw
 refine wp_seq (wp_region_still_tail k hm hB ?_)
 exact h _ (fun _ _ h=>h) a _ ha hw.drew
theorem W.OI{l:List Oper}(k:Nat)(hm:P.follows .mixedOrders=true)(hB:Region.lexTailB .any l.toArray k=true)
  (h:WS P l n base w0 e L (l.take k) (fun a w=>wpList P l.toArray Q (l.drop k) a w)):W P n base w0 e L (.region id l.toArray true) Q:=by
 intro a w ha hw
 exact wp_region_still_tail k hm hB (h a _ ha hw.drew)
theorem WS.tail{Q':Exit→Act→World→Prop}(h:WL P ops n base w0 e L rest Q'):WS P ops n base w0 e L [] (fun a w=>wpList P ops.toArray Q' rest a w):=
 fun a w ha hw=>h a w ha hw
theorem WL.next{Q0:Exit→Act→World→Prop}(hQ: ∀a w,y.wp P Q0 a w→Q .normal a w){e':Env}(hs:Sub e' e)(k:W P n base w0 e' L y Q0):WL P ops n base w0 e L [] Q:=
 fun a w ha hw=>hQ a w (k a w (ha.sub hs) hw)
theorem W.seq(h: ∀K:Act→World→Prop,(∀a w,y.wp P Q a w→K a w)→W P n base w0 e L c (Exit.then K Q)):W P n base w0 e L (.seq c y) Q:=
 fun a w ha hw=>wp_seq_k (fun K hK=>h K hK a w ha hw)
theorem W.go{K:Act→World→Prop}(hK: ∀a w,y.wp P Q a w→K a w){e':Env}(hs:Sub e' e)(k:W P n base w0 e' L y Q): ∀a w,Fits n e a→St base w0 L w→K a w:=
 fun a w ha hw=>hK a w (k a w (ha.sub hs) hw)
theorem W.skip(h: ∀a w,Fits n e a→St base w0 L w→Q .normal a w):W P n base w0 e L .skip Q:=fun a w ha hw=>wp_skip (h a w ha hw)
theorem W.exit(h: ∀a w,Fits n e a→St base w0 L w→Q (.exit id) a w):W P n base w0 e L (.exit id) Q:=fun a w ha hw=>wp_exit (h a w ha hw)
theorem W.block(h:W P n base w0 e L c (Exit.inBlock id Q)):W P n base w0 e L (.block id c) Q:=fun a w ha hw=>wp_block (h a w ha hw)
theorem W.cond{x:Operand}{b:Bool}(hx:aD n e x (.bool b))(ht:b=true→W P n base w0 e L c1 Q)(hf:b=false→W P n base w0 e L c2 Q):W P n base w0 e L (.cond x c1 c2) Q:=
 fun a w ha hw=>wp_cond_split (hx a ha) (fun h=>ht h a w ha hw) (fun h=>hf h a w ha hw)
theorem W.loop{γ:Type}(Em:γ→Env){er:Env}(M:γ→List Chunk)(I:γ→Prop)(m:γ→Nat)(x0:γ)(h0:I x0)(hs:Sub (Em x0) e)(hr:Sub er e)(hm: ∀w,St base w0 L w→St base w0 (M x0) w)
  (round: ∀x,I x→∀K:Act→World→Prop,(∀y a w,I y→m y < m x→Fits n (Em y++er) a→St base w0 (M y) w→K a w)→W P n base w0 (Em x++er) (M x) c (Exit.then K Q)):W P n base w0 e L (.loop c) Q:=by
 intro a w ha hw
 refine wp_loop_ghost (fun N a w=>∃x,I x∧m x=N∧Fits n (Em x++er) a∧St base w0 (M x) w) (m x0) ⟨x0,h0,rfl,ha.sub (Sub.app hs hr),hm w hw⟩ ?_
 rintro N a w ⟨x,hI,rfl,ha,hw⟩
 exact round x hI _ (fun y a w hIy hlt hay hwy=>⟨m y,hlt,y,hIy,rfl,hay,hwy⟩) a w ha hw
theorem W.again{γ:Type}{Em:γ→Env}{er:Env}{M:γ→List Chunk}{I:γ→Prop}{m:γ→Nat}{x:γ}{K:Act→World→Prop}(hK: ∀y a w,I y→m y < m x→Fits n (Em y++er) a→St base w0 (M y) w→K a w)
  (y:γ)(hI:I y)(hlt:m y < m x)(hs:Sub (Em y) e)(hr:Sub er e)(hm: ∀w,St base w0 L w→St base w0 (M y) w): ∀a w,Fits n e a→St base w0 L w→K a w:=
 fun a w ha hw=>hK y a w hI hlt (ha.sub (Sub.app hs hr)) (hm w hw)
theorem W.join{γ:Type}(Em:γ→Env){er:Env}(M:γ→List Chunk)(I:γ→Prop)(hr:Sub er e)
  (h: ∀K:Act→World→Prop,(∀x a w,I x→Fits n (Em x++er) a→St base w0 (M x) w→K a w)→W P n base w0 e L c (Exit.then K Q))(k: ∀x,I x→W P n base w0 (Em x++er) (M x) y Q):W P n base w0 e L (.seq c y) Q:=
 fun a w ha hw=>wp_seq (h _ (fun x a w hI ha hw=>k x hI a w ha hw) a w ha hw)
theorem W.enter{f:FuncId}{fn:Func}{args:List Value}{R:Ending→World→Prop}(hf:P.funcs[f]? =some fn)(hb:fn.body=some c)(hn:fn.ntmps=n){e:Env}(hs:Sub e (FQ 0 args))(hle:args.length≤n)(hw:St base w0 L w)
  (h: ∀R':Ending→World→Prop,(∀e w',R e w'→R' e w')→W P n base w0 e L c (bodyPost P fn R')):Calls P f args.toArray w R:=by
 refine calls_of_wp hf hb (h R (fun _ _ h=>h) _ w (Fits.sub ⟨rfl,by simp[hn];omega,fun i v hi=>?_⟩ hs) hw)
 obtain⟨h1,h2⟩:=UH hi
 have h1':i < args.length:=by have:=(List.getElem?_eq_some_iff.1 h2).1;omega
 simp only[Array.getD_eq_getD_getElem?]
 rw[Array.getElem?_append_left (by simpa using h1')]
 simp at h2⊢
 simp[h2]
end
end Go.Proofs.YtjdkkabcenohcaaGreatDoor
