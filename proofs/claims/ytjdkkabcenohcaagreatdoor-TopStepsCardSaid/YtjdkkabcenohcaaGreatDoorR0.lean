import Derived.Test.YtjdkkabcenohcaaGreatDoorP6
import Derived.Test.YtjdkkabcenohcaaGreatDoorP9
import Derived.Test.YtjdkkabcenohcaaGreatDoorP3
import Derived.Test.YtjdkkabcenohcaaGreatDoorP8
import Derived.Test.YtjdkkabcenohcaaGreatDoorV9
import Derived.Test.YtjdkkabcenohcaaGreatDoorW2
set_option linter.unusedVariables false
set_option linter.unusedSimpArgs false
set_option linter.unusedSectionVars false
set_option maxRecDepth 100000
namespace Go.Proofs.YtjdkkabcenohcaaGreatDoor
open Go.RowKit
namespace Sr
open Rl Hs
theorem G0{N:Nat}{types:List Int}{l:List Event}{c:List Call}(h:cB N types l=some (c,0,0))(hl:c.length≤9):gW N types l=some (c,0):=by
 unfold gW
 rw[ahc h]
 exact(eH rfl).trans (eH (decide_eq_false (by simp only;omega)))
theorem VK{N:Nat}(hN:300 < N){types:List Int}{l:List Event}{c:List Call}(h:gW N types l=some (c,0)):Hc N types l c:=by
 obtain⟨r,h1,h2⟩:=Cs hN types l
 rw[h]at h1
 cases h1
 rcases h2 with⟨_,H,_⟩|⟨h,_⟩
 ·exact H
 ·exact(h rfl).elim
theorem BU{N:Nat}{types:List Int}{l:List Event}{k:Nat}{c:List Call}{op:List Int}(R:ex N types l k c op){m:Nat}(hm:m < c.length):Ob.dz (types.getD (c.getD m Call.z).aj.toNat 0) (c.getD m Call.z).kind (c.getD m Call.z).arg:=by
 have O:=R.wf.one m hm
 have a1:=(w_ R m hm).1
 rw[Ob.pm]at a1
 refine⟨O.fit.1,O.fit.2,fun h=>?_,fun h=>?_⟩
 ·rw[if_pos h]at a1
  simpa using a1
 ·rw[if_neg h]at a1
  have:1≤(c.getD m Call.z).arg∧(c.getD m Call.z).arg≤1000:=by simpa using a1
  exact this
end Sr
namespace Hs
end Hs
namespace Sr
open Rl Hs
end Sr
namespace Sr
open Rl Hs
variable {N:Nat} {types:List Int} {g:Int→Int→Int→Bool} {p:List Event} {k:Nat} {out out':List Call} {op op':List Int} {idx pos:List Nat}
end Sr
namespace Ob
end Ob
namespace Sr
open Rl Hs
variable {N:Nat} {types:List Int} {p:List Event} {k:Nat} {out out':List Call} {op op':List Int} {idx pos:List Nat}
end Sr
namespace Bg
open Hs Rl Sr
end Bg
namespace Vd
def eJ(x:Int):Prop:= -9223372036854775808≤x∧x≤9223372036854775807
def Pc{α:Type}(m:Option α)(Q:α→Prop):Prop:=∀r,m=some r→Q r
theorem Pc.one{α:Type}{a:α}{Q:α→Prop}(h:Q a):Pc (some a) Q:=by rintro r ⟨⟩;exact h
theorem Pc.none{α:Type}{Q:α→Prop}:Pc (none:Option α) Q:=by rintro r ⟨⟩
theorem Pc.bI{α β:Type}{m:Option α}{f:α→Option β}{Q:β→Prop}(P:α→Prop)(h:Pc m P)(k: ∀a,P a→Pc (f a) Q):Pc (bd m f) Q:=fun r hr=>by
 obtain⟨a,h1,h2⟩:=al hr
 exact k a (h a h1) r h2
theorem Pc.any{α β:Type}{m:Option α}{f:α→Option β}{Q:β→Prop}(k: ∀a,Pc (f a) Q):Pc (bd m f) Q:=Pc.bI (fun _=>True) (fun _ _=>trivial) fun a _=>k a
theorem Pc.cI{α:Type}{b:Bool}{x y:Option α}{Q:α→Prop}(h:b=true→Pc x Q)(k:b=false→Pc y Q):Pc (cond b x y) Q:=by
 cases b with
 |true=>exact h rfl
 |false=>exact k rfl
theorem Pc.kI{α:Type}{b:Bool}{x:Option α}{Q:α→Prop}(h:b=true→Pc x Q):Pc (ck b x) Q:=by
 cases b with
 |true=>exact h rfl
 |false=>exact Pc.none
theorem Pc.xI{α β:Type}{l:List α}{i:Int}{f:α→Option β}{Q:β→Prop}(k: ∀a,a∈l→0≤i∧i < l.length→Pc (f a) Q):Pc (bd (ix l i) f) Q:=fun r hr=>by
 obtain⟨a,h1,h2⟩:=al hr
 unfold Go.Proofs.YtjdkkabcenohcaaGreatDoor.ix at h1
 split at h1
 ·obtain⟨h3,h4⟩:=List.getElem?_eq_some_iff.1 h1
  exact k a (h4▸List.getElem_mem h3) (by omega) r h2
 ·cases h1
theorem Pc.it{σ ρ:Type}{body:σ→Option (σ ⊕ ρ)}{P:ρ→Prop}(h: ∀s,Pc (body s) fun t=>match t with| .inl _=>True| .inr r=>P r): ∀n s,Pc (iter body n s) P
 |0,s=>by rintro r ⟨⟩
 |n+1,s=>fun r hr=>by
  unfold iter at hr
  have h1:=h s
  cases hb:body s with
  |none=>rw[hb]at hr;cases hr
  |some t=>
   rw[hb]at hr
   have h2:=h1 t hb
   cases t with
   |inl s'=>exact Pc.it h n s' r hr
   |inr r'=>cases hr;exact h2
end Vd
namespace Vd
theorem Pc.sI{α β γ:Type}{m:Option (α ⊕ β)}{f:α→Option γ}{g:β→Option γ}{Q:γ→Prop}(P:β→Prop)(h:Pc m fun t=>match t with| .inl _=>True| .inr y=>P y)(hl: ∀a,Pc (f a) Q)(hr: ∀b,P b→Pc (g b) Q):Pc (bd m (Sum.elim f g)) Q:=
 .bI (fun t=>match t with| .inl _=>True| .inr y=>P y) h fun t ht=>by
  cases t with
  |inl a=>exact hl a
  |inr b=>exact hr b ht
def sm(x:Int):Prop:=decide (-1000000≤x∧x≤1000000)=true
theorem sm.G4{x:Int}(h:sm x):eJ x:=by
 have:=of_decide_eq_true h
 unfold Vd.eJ;omega
theorem Z7{N:Nat}{t:List Int}:Pc (co N t) sm:=by
 unfold co
 repeat' with_reducible first|apply Pc.one|apply Pc.none|(apply Pc.cI<;>intro _)|(apply Pc.kI;intro _)|(apply Pc.xI;intro _ _ _)|(apply Pc.any;intro _)
 all_goals exact rfl
theorem Z8{N:Nat}{t:List Int}{o:List Call}{p:List Int}{i:Int}{v:Event}:Pc (ep N t o p i v) fun r=>sm r.2.2:=by
 unfold ep
 repeat' with_reducible first|apply Pc.one|apply Pc.none|(apply Pc.cI<;>intro _)|(apply Pc.kI;intro _)|(apply Pc.xI;intro _ _ _)|(apply Pc.any;intro _)
 all_goals exact rfl
theorem DX{N:Nat}{t:List Int}{l:List Event}:Pc (cB N t l) fun r=>sm r.2.2:=by
 unfold cB
 refine .bI _ Z7 fun a ha=> .cI (fun _=> .one ha) fun _=> .cI (fun _=> .one rfl) fun _=> .sI (fun r=>sm r.2.2) (.it (fun s=>?_) _ _) (fun a=> .one rfl) fun b hb=> .one hb
 obtain⟨o,p,v⟩:=s
 simp only[gB]
 refine .cI (fun _=> .xI fun a _ _=> .bI _ Z8 fun r hr=> .cI (fun _=> .one hr) fun _=> .kI fun _=> .one trivial) fun _=> .one trivial
def Eb(r:List Int×Int):Prop:=eJ r.2∧(r.2≠0→r.1= [])∧r.1.length≤1001∧∀n∈r.1,eJ n
def Rs(r:Bool×Int×Int×Int×Int):Prop:=eJ r.2.1∧eJ r.2.2.1∧eJ r.2.2.2.1∧eJ r.2.2.2.2
theorem ac7{N:Nat}{l:List Event}:Pc (ni N l) fun r=>sm r.2.2.2:=by
 unfold ni
 refine .bI _ DX fun a ha=> .cI (fun _=> .one ha) fun _=> .sI (fun r=>sm r.2.2.2) (.it (fun s=>?_) _ _) (fun a=>?_) fun b hb=> .one hb
 ·obtain⟨o,v⟩:=s
  simp only[pX]
  repeat' with_reducible first|apply Pc.one|apply Pc.none|(apply Pc.cI<;>intro _)|(apply Pc.kI;intro _)|(apply Pc.xI;intro _ _ _)|(apply Pc.any;intro _)
  all_goals first|trivial|exact rfl
 ·repeat' with_reducible first|apply Pc.one|apply Pc.none|(apply Pc.cI<;>intro _)|(apply Pc.kI;intro _)|(apply Pc.xI;intro _ _ _)|(apply Pc.any;intro _)
  all_goals exact rfl
theorem Z_{N:Nat}{l:List Event}:Pc (jM N l) fun r=>sm r.2.2.2.2:=by
 unfold jM
 refine .bI _ DX fun a ha=> .cI (fun _=> .one ha) fun _=> .any fun p=>?_
 obtain⟨p,m,h⟩:=p
 repeat' with_reducible first|apply Pc.one|apply Pc.none|(apply Pc.cI<;>intro _)|(apply Pc.kI;intro _)|(apply Pc.xI;intro _ _ _)|(apply Pc.any;intro _)
 all_goals exact rfl
end Vd
namespace Vd
open Hs
theorem kg{x:Int}(h: -1000000≤x∧x≤1000000):eJ x:=by unfold eJ;omega
theorem Da{i n:Nat}(h:i < n)(hn:n≤1000):eJ (i:Int):=by unfold eJ;omega
theorem jO:eJ 0:=kg (by decide)
theorem KQ{N:Nat}{types:List Int}{l:List Event}{k:Nat}{c:List Call}{op:List Int}(R:ex N types l k c op){m:Nat}(hm:m < c.length):0≤(c.getD m Call.z).arg∧(c.getD m Call.z).arg≤1000:=by
 have h:=Tx.Ua (Sr.w_ R m hm).1
 split at h<;>omega
theorem ac8{N:Nat}{l:List Event}:Pc (iV N l) fun r=>sm r.2.2.2.2:=by
 unfold iV
 refine .bI _ ac7 fun a ha=> .cI (fun _=> .one ha) fun _=> .sI (fun r=>sm r.2.2.2.2) (.kI fun _=> .it (fun s=>?_) _ _) (fun _=> .one rfl) fun b hb=> .one hb
 simp only[qY]
 refine .cI (fun _=> .kI fun _=> .any fun p=>?_) fun _=> .one trivial
 obtain⟨k,x,y⟩:=p
 exact .cI (fun _=> .one rfl) fun _=> .kI fun _=> .one trivial
theorem VS{N:Nat}{l:List Event}:Pc (fR N l) fun r=>sm r.2.2.2.2:=by
 unfold fR
 exact .bI _ Z_ fun a ha=> .cI (fun _=> .one ha) fun _=> .kI fun _=> .any fun _=> .one rfl
def Vr(v:aq):Prop:=eJ v.n∧eJ v.oJ∧eJ v.lG
theorem ac_{N:Nat}{c:List Call}{V:List aq}(hV: ∀v∈V,Vr v):Pc (nu N c V) fun r=>eJ r.2.2:=by
 unfold nu
 refine .sI (fun r=>eJ r.2.2) (.it (fun s=>?_) _ _) (fun _=> .one jO) fun b hb=> .one hb
 simp only[oP]
 refine .cI (fun _=> .sI (fun r=>eJ r.2.2) (.xI fun a ha _=> .it (fun s=>?_) _ _) (fun _=> .kI fun _=> .one trivial) fun b hb=> .one hb) fun _=> .one trivial
 simp only[oO]
 exact .cI (fun _=> .xI fun b hb _=> .any fun _=> .cI (fun _=> .one (hV b hb).1) fun _=> .kI fun _=> .one trivial) fun _=> .one trivial
theorem ac'{N:Nat}{c:List Call}{V:List aq}(hV: ∀v∈V,Vr v):Pc (nq N c V) fun r=>eJ r.2.2:=by
 unfold nq rT
 refine .bI (fun r=>eJ r.2.2) (.sI (fun r=>eJ r.2.2) (.it (fun s=>?_) _ _) (fun _=> .one jO) fun b hb=> .one hb) fun r hr=> .one hr
 simp only[oL]
 refine .cI (fun _=> .xI fun _ _ _=> .cI (fun _=> .bI (fun r=>eJ r.2.2) ?_ fun r hr=> .cI (fun _=> .one hr) fun _=> .kI fun _=> .one trivial) fun _=> .kI fun _=> .one trivial) fun _=> .one trivial
 unfold qM
 exact .any fun _=> .xI fun _ _ _=> .cI (fun _=> .xI fun a ha _=> .one (hV a ha).2.2) fun _=> .one jO
theorem ada{N:Nat}{c:List Call}{V:List aq}(hV: ∀v∈V,Vr v):Pc (nr N c V) fun r=>eJ r.2.2:=by
 unfold nr rU
 refine .bI (fun r=>eJ r.2.2) (.sI (fun r=>eJ r.2.2) (.it (fun s=>?_) _ _) (fun _=> .one jO) fun b hb=> .one hb) fun r hr=> .one hr
 simp only[oM]
 refine .cI (fun _=> .xI fun _ _ _=> .cI (fun _=> .bI (fun r=>eJ r.2.2) ?_ fun r hr=> .cI (fun _=> .one hr) fun _=> .kI fun _=> .one trivial) fun _=> .kI fun _=> .one trivial) fun _=> .one trivial
 unfold qN
 exact .any fun _=> .xI fun _ _ _=> .xI fun _ _ _=> .cI (fun _=> .xI fun a ha _=> .one (hV a ha).2.1) fun _=> .one jO
theorem af2{N:Nat}{l:List Event}(h: ∀r,ni N l=some r→∀v∈r.2.2.1,Vr v):Pc (iV N l) fun r=>eJ r.2.2.2.1:=by
 unfold iV
 refine .bI (fun r=>∀v∈r.2.2.1,Vr v) h fun a ha=> .cI (fun _=> .one jO) fun _=> .sI (fun r=>eJ r.2.2.2.1) (.kI fun _=> .it (fun s=>?_) _ _) (fun _=> .one jO) fun b hb=> .one hb
 simp only[qY]
 refine .cI (fun _=> .kI fun _=> .bI (fun r=>eJ r.2.2) ?_ fun p hp=>?_) fun _=> .one trivial
 ·exact .cI (fun _=> .any fun _=> .one jO) fun _=> .cI (fun _=> .bI _ (ac' ha) fun r hr=> .one hr) fun _=> .cI (fun _=> .bI _ (ada ha) fun r hr=> .one hr) fun _=> .cI (fun _=> .bI _ (ac_ ha) fun r hr=> .one hr) fun _=> .cI (fun _=> .any fun _=> .one jO) fun _=> .none
 ·obtain⟨k,x,y⟩:=p
  exact .cI (fun _=> .one hp) fun _=> .kI fun _=> .one trivial
theorem Ud{N:Nat}(hN:300 < N)(l:List Event):Wp (iV N l) Rs:=by
 obtain⟨⟨b,k,x,y,e⟩,hr,h⟩:=Rw.mJ hN l
 refine⟨_,hr,?_⟩
 have he:eJ e:=(ac8 _ hr).G4
 rcases h with⟨_,h⟩|⟨_,ht,hl,c,op,R,C,h⟩
 ·cases h
  exact⟨jO,jO,jO,he⟩
 ·have hc:=R.wf.len
  have hb:eJ y:=by
   refine af2 (fun r hr2 v hv=>?_) _ hr
   obtain⟨r',hr',h'⟩:=Rw.AL hN ht hl R
   rw[hr2]at hr'
   cases hr'
   rcases h' with⟨_,rfl⟩|⟨_,_,_,_,hV⟩
   ·cases hv
   ·obtain⟨i,h1,h2,_,h3,h4⟩:=hV.mem v hv
    refine⟨?_,?_,?_⟩
    ·rw[←h3];exact kg (by have:=KQ R h2;omega)
    ·rw[h1];exact Da h2 (by omega)
    ·rcases h4 with⟨h4,_⟩|⟨d,h4,h5⟩
     ·rw[h4];exact kg (by decide)
     ·rw[h4];exact Da h5.1 (by omega)
  have hk: ∀k:Int,0≤k∧k≤9→eJ k:=fun k h=>kg (by omega)
  rcases h with⟨h,_⟩|⟨i,b',h,hi⟩|⟨i,b',h,hi,_⟩|⟨i,b',h,hi,_⟩|⟨i,j,h,hi,_⟩|⟨i,b',h,hi,_⟩
  ·cases h;exact⟨jO,jO,jO,he⟩
  ·cases h;exact⟨hk 1 (by decide),Da hi.lt (by omega),hb,he⟩
  ·cases h;exact⟨hk 2 (by decide),Da hi.lt (by omega),hb,he⟩
  ·cases h;exact⟨hk 3 (by decide),Da hi.lt (by omega),hb,he⟩
  ·cases h;exact⟨hk 6 (by decide),kg (x:=(c.getD i Call.z).arg) (by have:=KQ R hi.la;omega),hb,he⟩
  ·cases h;exact⟨hk 7 (by decide),Da hi.lt (by omega),hb,he⟩
theorem ahF{N:Nat}{c:List Call}{p m:List Int}(hc:c.length≤200)(hm: ∀n∈m,eJ n):Pc (kQ N c p m) fun r=>eJ r.1∧eJ r.2.1∧eJ r.2.2:=by
 have hk: ∀k:Int,0≤k∧k≤200→eJ k:=fun k h=>kg (by omega)
 unfold kQ
 refine .sI _ (.it (fun s=>?_) _ _) (fun _=> .sI _ (.it (fun s=>?_) _ _) (fun _=> .sI _ (.it (fun s=>?_) _ _) (fun _=> .one ⟨jO,jO,jO⟩) fun b hb=> .one hb) fun b hb=> .one hb) fun b hb=> .one hb
 ·simp only[ml]
  refine .cI (fun _=> .sI _ (.xI fun a _ ha=> .kI fun _=> .it (fun t=>?_) _ _) (fun _=> .kI fun _=> .one trivial) fun b hb=> .one hb) fun _=> .one trivial
  simp only[mj]
  refine .cI (fun _=> .xI fun b _ hb=> .cI (fun _=> .one ⟨hk 2 (by decide),hk s (by omega),hk t ?_⟩) fun _=> .kI fun _=> .one trivial) fun _=> .one trivial
  rw[List.length_take]at hb
  omega
 ·simp only[mq]
  refine .cI (fun _=> .sI _ (.xI fun a _ ha=> .it (fun t=>?_) _ _) (fun _=> .kI fun _=> .one trivial) fun b hb=> .one hb) fun _=> .one trivial
  simp only[mn]
  exact .cI (fun _=> .xI fun b _ hb=> .cI (fun _=> .one ⟨hk 6 (by decide),hk s (by omega),hk t (by omega)⟩) fun _=> .kI fun _=> .one trivial) fun _=> .one trivial
 ·simp only[mr]
  exact .cI (fun _=> .xI fun a ha _=> .any fun _=> .cI (fun _=> .one ⟨hk 8 (by decide),hm a ha,jO⟩) fun _=> .kI fun _=> .one trivial) fun _=> .one trivial
theorem KR{N:Nat}(hN:5000 < N)(l:List Event):Wp (fR N l) Rs:=by
 obtain⟨⟨b,k,x,y,e⟩,hr,h⟩:=Tk.vV hN l
 refine⟨_,hr,?_⟩
 have he:eJ e:=(VS _ hr).G4
 suffices h:eJ k∧eJ x∧eJ y from⟨h.1,h.2.1,h.2.2,he⟩
 obtain⟨⟨c,a,er⟩,h1,h2⟩:=sG (N:=N) (types:=[5]) (l:=l) (by omega)
 have:Pc (fR N l) fun r=>eJ r.2.1∧eJ r.2.2.1∧eJ r.2.2.2.1:=by
  unfold fR
  refine .bI (fun r=>r.2.2.2.2=0→r.2.1.length≤200∧∀n∈r.2.2.2.1,eJ n) (fun r hr=>?_) fun a ha=> .cI (fun _=> .one ⟨jO,jO,jO⟩) fun h0=> .kI fun _=>?_
  ·by_cases h0:er=0
   ·subst h0
    obtain⟨ht,_,hl,_,op,R⟩:=h2 rfl
    have R:ex N [5] l l.length c op:=R
    have hlen:=R.wf.len
    have hrs:=(Tk.okl R).res
    have:=Tk.HU hN h1 (by omega) fun i hi=>(hrs i hi).2
    rw[hr]at this
    cases this
    refine fun _=>⟨show c.length≤200 by omega,fun n hn=>?_⟩
    obtain⟨m,hm,rfl,_⟩:=Tk.GZ.1 hn
    have:=Tk.Ov (fun i hi=>(hrs i hi).2) c.length (Nat.le_refl _)
    exact kg (by omega)
   ·intro h3
    have:jM N l=some (false,[],[],[],er):=by
     unfold jM
     exact Wp.eq (.bD h1 (.bg (by simpa using h0) (.one rfl)))
    rw[hr]at this
    cases this
    exact absurd h3 h0
  ·obtain⟨hc,hm⟩:=ha (by simpa using h0)
   exact .bI _ (ahF hc hm) fun r h=> .one h
 exact this _ hr
theorem af3{typ:Int}{s:List Int}{kind arg:Int}{n:List Int}{res:Int}(h:Ob.nx typ s kind arg=some (n,res)): -1≤res∧res≤1000:=by
 obtain⟨hO,hA,hs,_⟩:=Ob.HI h
 have hm: ∀k,-1≤s.getD k 0∧s.getD k 0≤1000:=fun k=>by
  by_cases hk:k < s.length
  ·rw[aW hk]
   have hx:=List.getElem_mem hk
   rcases hO with⟨_,v,e,h1,h2⟩|⟨_,_,h1⟩|⟨_,_,h1,_⟩
   ·have h3: ∀y∈s,y=v:=by rw[e];exact fun y hy=>List.mem_singleton.1 hy
    have:=h3 _ hx
    omega
   ·have:=h1 _ hx;unfold Ob.gH at this;omega
   ·have:=h1 _ hx;unfold Ob.gH at this;omega
  ·rw[List.getD_eq_getElem?_getD,List.getElem?_eq_none (by omega)];decide
 have h0:=hm 0
 have h1:=hm (s.length - 1)
 unfold Ob.oA at hs
 repeat' split at hs
 all_goals first
  |(cases hs;done)
  |(have e:=(Prod.mk.inj (Option.some.inj hs)).2;omega)
  |(have e:=(Prod.mk.inj (Option.some.inj hs)).2;split at e<;>omega)
end Vd
namespace Sr
open Hs
theorem aa9{types:List Int}{c:List Call}{q:Nat→Nat→Bool}: ∀{t:List Step} {S:List (List Int)} {w:List Nat},Pl types c q S w t→Ac c q w t
 | [],_,_,_=>trivial
 |s::t,S,w,⟨i,n,h1,h2,h3,h4,h5,_,h7⟩=>⟨i,h1,h2,h3,h4,h5,aa9 h7⟩
end Sr
namespace Vd
open Tx
def qn:Pt→List UInt8
 | .s x=>bs x
 | .i x=>it x
 | .e x=>it x
def rD:Pt→Prop
 | .s x=>(10:UInt8)∉bs x∧x.size≤100
 | .i x=>eJ x
 | .e x=>eJ x
theorem Rt{n:Int}(h:eJ n):(it n).length≤20:=by
 unfold eJ at h
 unfold it Lib.itoa
 split
 ·have:=Dx 18 n.natAbs (by simp;omega)
  simp;omega
 ·have:=Dx 18 n.toNat (by simp;omega)
  omega
theorem Ru{N:Nat}{n:Int}(h:eJ n):qq N n=some (Tx.jS (it n)):=by
 unfold qq eJ at *
 rw[if_pos h];rfl
theorem KS{p:Pt}(h:rD p):(qn p).length≤100:=by
 cases p with
 |s x=>have:=h.2;rw[nM]at this;exact this
 |i x=>have:=Rt (n:=x) h;simp only[qn];omega
 |e x=>have:=Rt (n:=x) h;simp only[qn];omega
theorem p8{N:Nat}{a b:ByteArray}(h:a.size+b.size≤10000000):vU N a b=some (a++b):=by
 unfold vU
 rw[if_pos (by omega)]
theorem jC(a b:ByteArray):(a++b).size=a.size+b.size:=ByteArray.size_append
theorem Mp{c:UInt8}: ∀{a:List (List UInt8)} {x:List UInt8},jn c (a++[x])=if a= []then x else jn c a++c::x
 | [],x=>rfl
 | [a],x=>rfl
 |a::b::r,x=>by
  have:=Mp (c:=c) (a:=b::r) (x:=x)
  rw[if_neg (by simp)]at this⊢
  rw[List.cons_append,vJ (by simp),vJ (by simp),this]
  simp
theorem aa_{c d:UInt8}(h:c≠d): ∀{a:List (List UInt8)},(∀x∈a,d∉x)→d∉jn c a
 | [],_=>by simp[jn]
 | [x],H=>H x (by simp)
 |x::y::r,H=>by
  have:=aa_ h (a:=y::r) fun z hz=>H z (by simp[hz])
  have hx:=H x (by simp)
  simp only[jn,List.mem_append,List.mem_cons,not_or]
  exact⟨hx,Ne.symm h,this⟩
theorem KU{c:UInt8}: ∀{a:List (List UInt8)},(∀x∈a,x.length≤100)→(jn c a).length≤101 * a.length
 | [],_=>by simp[jn]
 | [x],H=>by have:=H x (by simp);simp only[jn,List.length_singleton];omega
 |x::y::r,H=>by
  have:=KU (c:=c) (a:=y::r) fun z hz=>H z (by simp[hz])
  have hx:=H x (by simp)
  simp only[jn,List.length_append,List.length_cons]at this⊢
  omega
theorem adc{N:Nat}{r:ByteArray}{ps:List Pt}(hN:ps.length < N)(hp: ∀p∈ps,rD p)(hl:ps.length≤2000)(hr:r.size≤1000000):
  Wp (ec N r ps) fun o=>bs o=bs r++jn 32 (ps.map qn)++[10]:=by
 unfold ec
 refine .seq (P:=fun o=>bs o=bs r++jn 32 (ps.map qn)) (.iter ps.length (fun k s=>s.2=(k:Int)∧bs s.1=bs r++jn 32 ((ps.take k).map qn)) hN ⟨rfl,by simp[jn]⟩ ?_ ?_) fun o _ ho=>?_
 ·rintro k ⟨o,v⟩ hk ⟨hv,ho⟩
  simp only at hv ho
  subst hv
  simp only[pv]
  have htk:ps.take (k+1)=ps.take k++[ps[k]]:=by rw[List.take_add_one,List.getElem?_eq_getElem hk];rfl
  have hP:=hp _ (List.getElem_mem hk)
  have hj:=KU (c:=32) (a:=(ps.take k).map qn) fun x hx=>by
   obtain⟨p,hp',rfl⟩:=List.mem_map.1 hx
   exact KS (hp p (List.mem_of_mem_take hp'))
  have hos:o.size≤1202000:=by
   rw[nM,ho,List.length_append,←nM]
   rw[List.length_map,List.length_take]at hj
   omega
  refine .bg (decide_eq_true (by omega)) (.ix hk ?_)
  generalize ps[k]=p at hP htk⊢
  have ze:(⟨#[32]⟩:ByteArray).size=1:=rfl
  refine .seq (P:=fun o'=>o'.size≤1202001∧bs o'++qn p=bs r++jn 32 ((ps.take (k+1)).map qn)) (.cond (fun h=> .bD (p8 (by rw[ze];omega)) (.one ⟨by rw[jC,ze];omega,?_⟩)) (fun h=> .one ⟨by omega,?_⟩)) fun o' _ ho'=>?_
  ·have h:=of_decide_eq_true h
   rw[htk,List.map_append,List.map_singleton,Mp,if_neg (by intro h0;have:=congrArg List.length h0;rw[List.length_map,List.length_take,List.length_nil]at this;omega),wx,ho]
   simp[bs]
  ·have h:=of_decide_eq_false h
   obtain rfl:k=0:=by omega
   rw[htk,List.map_append,List.map_singleton,Mp,if_pos (by simp),ho]
   simp[jn]
  ·have hpl:=KS hP
   cases p with
   |s x=>
    refine .bg rfl (.bD (p8 (by have:=hP.2;simp only[S7];omega)) (.bK (by omega) (.one ⟨by simp,?_⟩)))
    rw[←ho'.2];exact wx _ _
   |i x=>
    refine .aL rfl (.bg rfl (.bD (Ru hP) (.bD (p8 (by rw[Tx.fV];simp only[qn]at hpl;simp only[JZ,J0];omega)) (.bK (by omega) (.one ⟨by simp,?_⟩)))))
    rw[←ho'.2];simp only[wx,kA,qn,JZ,J0]
   |e x=>
    refine .aL rfl (.aL rfl (.bg rfl (.bD (Ru hP) (.bD (p8 (by rw[Tx.fV];simp only[qn]at hpl;simp only[JZ,J0];omega)) (.bK (by omega) (.one ⟨by simp,?_⟩))))))
    rw[←ho'.2];simp only[wx,kA,qn,JZ,J0]
 ·rintro⟨o,v⟩ ⟨hv,ho⟩
  simp only at hv ho
  subst hv
  simp only[pv]
  exact .aL (decide_eq_false (by omega)) (.one (by rw[List.take_length]at ho;exact ho))
 ·have hj:=KU (c:=32) (a:=ps.map qn) fun x hx=>by
   obtain⟨p,hp',rfl⟩:=List.mem_map.1 hx
   exact KS (hp p hp')
  rw[List.length_map]at hj
  have s10:(⟨#[10]⟩:ByteArray).size=1:=rfl
  have hos:o.size≤1202000:=by
   rw[nM,ho,List.length_append,←nM];omega
  exact .bD (p8 (by rw[s10];omega)) (.one (by rw[wx,ho];rfl))
end Vd
namespace Vd
open Tx Hs Sr
abbrev wT:ByteArray:=⟨#[116,105,109,101]⟩
abbrev wP:ByteArray:=⟨#[112,101,111,112,108,101]⟩
abbrev wC:ByteArray:=⟨#[99,97,108,109]⟩
abbrev wB:ByteArray:=⟨#[98,97,100]⟩
abbrev wE:ByteArray:=⟨#[101,114,114,111,114]⟩
abbrev wN:ByteArray:=⟨#[110,111,110,101]⟩
abbrev wK:ByteArray:=⟨#[99,97,108,108,115]⟩
def ln(ps:List Pt):List UInt8:=jn 32 (ps.map qn)++[10]
def jq(L:List (List Pt)):List UInt8:=L.flatMap ln
def KV(L:List (List Pt)):Prop:=∀ps∈L,∀p∈ps,rD p
theorem xy{x:ByteArray}(h:((!(bs x).contains 10)&&decide (x.size≤100))=true):rD (.s x):=by
 simp only[Bool.and_eq_true,decide_eq_true_eq,Bool.not_eq_true',List.contains_eq_mem,decide_eq_false_iff_not]at h
 exact h
theorem af4{ps:List Pt}(hp: ∀p∈ps,rD p):(ln ps).length≤101 * ps.length+1:=by
 have:=KU (c:=32) (a:=ps.map qn) fun x hx=>by
  obtain⟨p,h,rfl⟩:=List.mem_map.1 hx
  exact KS (hp p h)
 unfold ln
 rw[List.length_append]
 rw[List.length_map]at this
 simp only[List.length_singleton]
 omega
theorem AC{N:Nat}(k:Nat){r:ByteArray}{ps:List Pt}(hN:5000 < N)(hp: ∀p∈ps,rD p)(hl:ps.length≤k)(hk:k≤2000)(hr:r.size≤1000000):
  Wp (ec N r ps) fun o=>bs o=bs r++ln ps∧o.size≤r.size+101 * k+1:=
 (adc (by omega) hp (by omega) hr).mono fun o ho=>by
  have h:bs o=bs r++ln ps:=by rw[ho,List.append_assoc];rfl
  refine⟨h,?_⟩
  have:=af4 hp
  rw[nM,h,List.length_append,←nM]
  omega
def yN(b:Bool):ByteArray:=cond b ⟨#[121]⟩ ⟨#[110]⟩
theorem Rx{N:Nat}{b:Bool}:uB N b=some (yN b):=by cases b<;>rfl
theorem yOk{b:Bool}:rD (.s (yN b)):=by cases b<;>exact xy rfl
def zf(w:List Step):List Pt:=w.flatMap fun s=>[.i s.call,.i s.res]
theorem Mq: ∀w:List Step,(zf w).length=2 * w.length
 | []=>rfl
 |s::w=>by
  have:=Mq w
  unfold zf at *
  simp only[List.flatMap_cons,List.length_append,List.length_cons,List.length_nil]
  omega
theorem ade(a b:List Step):zf (a++b)=zf a++zf b:=by unfold zf;rw[List.flatMap_append]
theorem aaa{N:Nat}{r:List Step×Bool×Int}{p0:List Pt}(hN:5000 < N)(hl:r.1.length≤1000)(h0:p0.length≤10):iter (jG N r) N (p0,0)=some (p0++zf r.1):=by
 refine Wp.eq (.iter r.1.length (fun k s=>s.2=(k:Int)∧s.1=p0++zf (r.1.take k)) (by omega) ⟨rfl,by simp[zf]⟩ ?_ ?_)
 ·rintro k ⟨p,v⟩ hk ⟨hv,hp⟩
  simp only at hv hp
  subst hv hp
  simp only[jG]
  have htk:r.1.take (k+1)=r.1.take k++[r.1[k]]:=by rw[List.take_add_one,List.getElem?_eq_getElem hk];rfl
  have hlen:(zf (r.1.take k)).length=2 * k:=by rw[Mq,List.length_take];omega
  refine .bg (decide_eq_true (by omega)) (.ix hk (.ck (eT ⟨?_,?_⟩) (.bK (by omega) (.one ⟨by simp,?_⟩))))
  ·simp only[List.length_append,hlen,List.length_cons,List.length_nil]
   exact Nat.le_trans (m:=10000) (by omega) (by decide)
  ·simp only[List.length_append,hlen,List.length_cons,List.length_nil]
   omega
  ·rw[htk,ade,←List.append_assoc];rfl
 ·rintro⟨p,v⟩ ⟨hv,hp⟩
  simp only at hv hp
  subst hv hp
  simp only[jG]
  exact .aL (decide_eq_false (by omega)) (.one (by rw[List.take_length]))
theorem XO{types:List Int}{c:List Call}{q:Nat→Nat→Bool}: ∀{t:List Step} {S:List (List Int)} {w:List Nat},Pl types c q S w t→∀s∈t,(∃i:Nat,s.call=(i:Int)∧i < c.length)∧ -1≤s.res∧s.res≤1000
 | [],_,_,_,s,h=>by cases h
 |a::t,S,w,⟨i,n,h1,h2,h3,h4,h5,h6,h7⟩,s,hs=>by
  rcases List.mem_cons.1 hs with rfl|hs
  ·exact⟨⟨i,h1,h2⟩,af3 h6⟩
  ·exact XO h7 s hs
theorem adf{types:List Int}{c:List Call}{q:Nat→Nat→Bool}{x:List Step}{b:Bool}(h:Kp types c q x b)(hc:c.length≤1000):x.length≤c.length∧∀s∈x,eJ s.call∧eJ s.res:=by
 rcases h with⟨_,⟨g,_⟩,_⟩|⟨_,rfl,_⟩
 ·refine⟨(aa9 g).len,fun s hs=>?_⟩
  obtain⟨⟨i,h1,h2⟩,h3⟩:=XO g s hs
  exact⟨by rw[h1];exact Da h2 hc,kg (by omega)⟩
 ·exact⟨Nat.zero_le _,by simp⟩
def Nw(b b2 b3:Bool)(w:List Step):List (List Pt):=[.s wT:: .s (yN b)::zf w,[.s wP,.s (yN b2)],[.s wC,.s (yN b3)]]
def Wit(N:Nat)(types:List Int)(l:List Event)(c:List Call)(W:List (List Pt)):Prop:=
 ∃w b x b2 y b3,ku N types l=some (w,b,0)∧Kp types c (fg c) w b∧Kp types c (Kr c) x b2∧Kp types c (Nk (t_ l l.length).1) y b3∧W=Nw b b2 b3 w
theorem af5{N:Nat}{types:List Int}{l:List Event}{c:List Call}(hN:5000 < N){r:ByteArray}(hr:r.size≤100000)(hc:gW N types l=some (c,0))(H:Hc N types l c):
  Wp (kE N r types l) fun o=>∃W,Wit N types l c W∧KV W∧W.length=3∧bs o=bs r++jq W∧o.size≤r.size+10000:=by
 have hf:=H.pW
 unfold kE
 refine .seq (AJ (by omega) hc) fun q hq ⟨h0,_,h1⟩=> .bD Rx ?_
 have F1:=h1 rfl H
 obtain⟨g1,g2⟩:=adf F1 (by omega)
 refine .bD (aaa hN (by omega) (by simp)) ?_
 have hp1: ∀p∈([Pt.s wT,Pt.s (yN q.2.1)]++zf q.1),rD p:=fun p hp=>by
  rcases List.mem_append.1 hp with hp|hp
  ·rcases List.mem_cons.1 hp with rfl|hp
   ·exact xy rfl
   ·rw[List.mem_singleton.1 hp];exact yOk
  ·obtain⟨s,hs,hp⟩:=List.mem_flatMap.1 hp
   rcases List.mem_cons.1 hp with rfl|hp
   ·exact(g2 s hs).1
   ·rw[List.mem_singleton.1 hp];exact(g2 s hs).2
 have hl1:([Pt.s wT,Pt.s (yN q.2.1)]++zf q.1).length≤20:=by
  rw[List.length_append,Mq];simp only[List.length_cons,List.length_nil];omega
 have hp2: ∀{x:ByteArray} {b:Bool},rD (.s x)→∀p∈ [Pt.s x,Pt.s (yN b)],rD p:=fun hx p hp=>by
  rcases List.mem_cons.1 hp with rfl|hp
  ·exact hx
  ·rw[List.mem_singleton.1 hp];exact yOk
 refine .seq (AC 20 hN hp1 hl1 (by decide) (by omega)) fun o1 _ ⟨e1,z1⟩=> .seq (Zb (by omega) hc) fun q2 _ ⟨_,_,h2⟩=> .bD Rx (.seq (AC 2 hN (hp2 (xy rfl)) (by simp) (by decide) (by omega)) fun o2 _ ⟨e2,z2⟩=> .seq (Zc (by omega) hc) fun q3 _ ⟨_,_,h3⟩=> .bD Rx (.seq (AC 2 hN (hp2 (xy rfl)) (by simp) (by decide) (by omega)) fun o3 _ ⟨e3,z3⟩=> .one ⟨Nw q.2.1 q2.2.1 q3.2.1 q.1,⟨q.1,q.2.1,q2.1,q2.2.1,q3.1,q3.2.1,?_,F1,h2 rfl H,h3 rfl H,rfl⟩,?_,rfl,?_,?_⟩))
 ·rw[hq]
  obtain⟨a,b,d⟩:=q
  have h0:d=0:=h0
  rw[h0]
 ·intro ps hps
  simp only[Nw,List.mem_cons,List.not_mem_nil,or_false]at hps
  rcases hps with rfl|rfl|rfl
  ·exact hp1
  ·exact hp2 (xy rfl)
  ·exact hp2 (xy rfl)
 ·rw[e3,e2,e1]
  simp only[jq,Nw,List.flatMap_cons,List.flatMap_nil,List.append_nil,List.append_assoc,List.cons_append,List.nil_append]
 ·omega
def Iv(ok:Bool)(b:dh)(e:Int):List Pt:=if e≠0 then [.s wB,.s wE,.e e]else if ok=true then [.s wB,.s wN]else [.s wB,.i b.kind,.i b.a,.i b.b]
theorem Ry{N:Nat}(hN:5000 < N){r:ByteArray}(hr:r.size≤200000){q:Bool×Int×Int×Int×Int}(h:Rs q):Wp (kf N r q.1 (dh.mk q.2.1 q.2.2.1 q.2.2.2.1) q.2.2.2.2) fun o=>bs o=bs r++jq [Iv q.1 ⟨q.2.1,q.2.2.1,q.2.2.2.1⟩ q.2.2.2.2]∧KV [Iv q.1 ⟨q.2.1,q.2.2.1,q.2.2.2.1⟩ q.2.2.2.2]∧o.size≤r.size+300000:=by
 obtain⟨h1,h2,h3,h4⟩:=h
 have l1: ∀ps:List Pt,jq [ps]=ln ps:=fun ps=>by simp[jq]
 have lk: ∀ps:List Pt,(∀p∈ps,rD p)→KV [ps]:=fun ps h x hx=>by rw[List.mem_singleton.1 hx];exact h
 unfold kf Iv
 refine .cond (fun he=>?_) (fun he=> .cond (fun hk=>?_) fun hk=>?_)
 ·have he:q.2.2.2.2≠0:=by simpa using he
  have hp: ∀p∈ [Pt.s wB,Pt.s wE,Pt.e q.2.2.2.2],rD p:=by
   intro p hp
   simp only[List.mem_cons,List.not_mem_nil,or_false]at hp
   rcases hp with rfl|rfl|rfl
   ·exact xy rfl
   ·exact xy rfl
   ·exact h4
  rw[if_pos he,l1]
  exact .seq (AC 4 hN hp (by simp) (by decide) (by omega)) fun o _ ho=> .one ⟨ho.1,lk _ hp,by have:=ho.2;omega⟩
 ·have he:q.2.2.2.2=0:=by simpa using he
  have hp: ∀p∈ [Pt.s wB,Pt.s wN],rD p:=by
   intro p hp
   simp only[List.mem_cons,List.not_mem_nil,or_false]at hp
   rcases hp with rfl|rfl
   ·exact xy rfl
   ·exact xy rfl
  rw[if_neg (by simp[he]),if_pos hk,l1]
  exact .seq (AC 4 hN hp (by simp) (by decide) (by omega)) fun o _ ho=> .one ⟨ho.1,lk _ hp,by have:=ho.2;omega⟩
 ·have he:q.2.2.2.2=0:=by simpa using he
  have hp: ∀p∈ [Pt.s wB,Pt.i q.2.1,Pt.i q.2.2.1,Pt.i q.2.2.2.1],rD p:=by
   intro p hp
   simp only[List.mem_cons,List.not_mem_nil,or_false]at hp
   rcases hp with rfl|rfl|rfl|rfl
   ·exact xy rfl
   ·exact h1
   ·exact h2
   ·exact h3
  rw[if_neg (by simp[he]),if_neg (by simp[hk]),l1]
  exact .seq (AC 4 hN hp (by simp) (by decide) (by omega)) fun o _ ho=> .one ⟨ho.1,lk _ hp,by have:=ho.2;omega⟩
def Rz(n:List Int)(e:Int):List Pt:=(if e≠0 then [.s wB,.s wE,.e e]else if n= []then [.s wB,.s wN]else [.s wB])++n.map .i
theorem adg{N:Nat}{r:List Int×Int}{p0:List Pt}(hN:5000 < N)(hl:r.1.length≤1001)(h0:p0.length≤10):iter (jQ N r) N (p0,0)=some (p0++r.1.map .i):=by
 refine Wp.eq (.iter r.1.length (fun k s=>s.2=(k:Int)∧s.1=p0++(r.1.take k).map .i) (by omega) ⟨rfl,by simp⟩ ?_ ?_)
 ·rintro k ⟨p,v⟩ hk ⟨hv,hp⟩
  simp only at hv hp
  subst hv hp
  simp only[jQ]
  have htk:r.1.take (k+1)=r.1.take k++[r.1[k]]:=by rw[List.take_add_one,List.getElem?_eq_getElem hk];rfl
  have hlen:(r.1.take k).length=k:=by rw[List.length_take];omega
  refine .bg (decide_eq_true (by omega)) (.ix hk (.ck (eT ⟨?_,?_⟩) (.bK (by omega) (.one ⟨by simp,?_⟩))))
  ·simp only[List.length_append,List.length_map,hlen,List.length_cons,List.length_nil]
   exact Nat.le_trans (m:=10000) (by omega) (by decide)
  ·simp only[List.length_append,List.length_map,hlen,List.length_cons,List.length_nil]
   omega
  ·rw[htk,List.map_append,←List.append_assoc];rfl
 ·rintro⟨p,v⟩ ⟨hv,hp⟩
  simp only at hv hp
  subst hv hp
  simp only[jQ]
  exact .aL (decide_eq_false (by omega)) (.one (by rw[List.take_length]))
theorem ahG{N:Nat}(hN:5000 < N){r:ByteArray}(hr:r.size≤200000){l:List Event}(hb:Wp (iW N l) Eb):Wp (lj N r l) fun o=>∃q,iW N l=some q∧bs o=bs r++jq [Rz q.1 q.2]∧KV [Rz q.1 q.2]∧o.size≤r.size+300000:=by
 unfold lj
 refine .seq hb fun q hq ⟨h1,h2,h3,h4⟩=> .seq (P:=fun p=>p=(if q.2≠0 then [.s wB,.s wE,.e q.2]else if q.1= []then [.s wB,.s wN]else [.s wB])) (.cond (fun he=> .ck (by rfl) (.one ?_)) fun he=> .cond (fun hn=> .ck (by rfl) (.one ?_)) fun hn=> .one ?_) fun p _ hp=>?_
 ·rw[if_pos (by simpa using he)];rfl
 ·rw[if_neg (by simpa using he),if_pos (List.eq_nil_of_length_eq_zero (by have:=of_decide_eq_true hn;omega))];rfl
 ·rw[if_neg (by simpa using he),if_neg (by rintro h;rw[h]at hn;simp at hn)]
 ·have hp0:p.length≤10∧∀x∈p,rD x:=by
   subst hp
   split
   ·refine⟨by simp,fun x hx=>?_⟩
    simp only[List.mem_cons,List.not_mem_nil,or_false]at hx
    rcases hx with rfl|rfl|rfl
    ·exact xy rfl
    ·exact xy rfl
    ·exact h1
   ·split
    ·refine⟨by simp,fun x hx=>?_⟩
     simp only[List.mem_cons,List.not_mem_nil,or_false]at hx
     rcases hx with rfl|rfl
     ·exact xy rfl
     ·exact xy rfl
    ·refine⟨by simp,fun x hx=>?_⟩
     rw[List.mem_singleton.1 hx];exact xy rfl
  have hall: ∀x∈p++q.1.map Pt.i,rD x:=fun x hx=>by
   rcases List.mem_append.1 hx with hx|hx
   ·exact hp0.2 x hx
   ·obtain⟨n,hn,rfl⟩:=List.mem_map.1 hx
    exact h4 n hn
  have he:Rz q.1 q.2=p++q.1.map Pt.i:=by rw[hp];rfl
  refine .bD (adg hN h3 hp0.1) (.seq (AC 1100 hN hall (by rw[List.length_append,List.length_map];omega) (by decide) (by omega)) fun o _ ho=> .one ⟨q,hq,?_,?_,?_⟩)
  ·rw[he,ho.1];simp[jq]
  ·rw[he];intro x hx;rw[List.mem_singleton.1 hx];exact hall
  ·have:=ho.2;omega
def Chk(N:Nat)(typ:Int)(l:List Event):Prop:=(typ=1→Wp (jL N l) Rs)∧(typ=2→Wp (iV N l) Rs)∧(typ=5→Wp (fR N l) Rs)∧(typ=4→Wp (iW N l) Eb)
def XP(N:Nat)(typ:Int)(l:List Event)(S:List (List Pt)):Prop:=
 (typ=1∧∃q,jL N l=some q∧S= [Iv q.1 ⟨q.2.1,q.2.2.1,q.2.2.2.1⟩ q.2.2.2.2])∨(typ=2∧∃q,iV N l=some q∧S= [Iv q.1 ⟨q.2.1,q.2.2.1,q.2.2.2.1⟩ q.2.2.2.2])∨
 (typ=5∧∃q,fR N l=some q∧S= [Iv q.1 ⟨q.2.1,q.2.2.1,q.2.2.2.1⟩ q.2.2.2.2])∨(typ=4∧∃q,iW N l=some q∧S= [Rz q.1 q.2])∨(typ≠1∧typ≠2∧typ≠4∧typ≠5∧S= [])
theorem af6{N:Nat}(hN:5000 < N){r:ByteArray}(hr:r.size≤200000){typ:Int}{l:List Event}(hk:Chk N typ l):Wp (mt N r typ l) fun o=>∃S,XP N typ l S∧KV S∧S.length≤1∧bs o=bs r++jq S∧o.size≤r.size+300000:=by
 unfold mt XP
 refine .cond (fun h=>?_) fun n1=> .cond (fun h=>?_) fun n2=> .cond (fun h=>?_) fun n5=> .cond (fun h=>?_) fun n4=> .one ?_
 ·exact .seq (hk.1 (of_decide_eq_true h)) fun q hq hR=> .seq (Ry hN hr hR) fun o _ ho=> .one ⟨_,.inl ⟨of_decide_eq_true h,q,hq,rfl⟩,ho.2.1,Nat.le_refl _,ho.1,ho.2.2⟩
 ·exact .seq (hk.2.1 (of_decide_eq_true h)) fun q hq hR=> .seq (Ry hN hr hR) fun o _ ho=> .one ⟨_,.inr (.inl ⟨of_decide_eq_true h,q,hq,rfl⟩),ho.2.1,Nat.le_refl _,ho.1,ho.2.2⟩
 ·exact .seq (hk.2.2.1 (of_decide_eq_true h)) fun q hq hR=> .seq (Ry hN hr hR) fun o _ ho=> .one ⟨_,.inr (.inr (.inl ⟨of_decide_eq_true h,q,hq,rfl⟩)),ho.2.1,Nat.le_refl _,ho.1,ho.2.2⟩
 ·exact .seq (ahG hN hr (hk.2.2.2 (of_decide_eq_true h))) fun o _ ⟨q,hq,h1,h2,h3⟩=> .one ⟨_,.inr (.inr (.inr (.inl ⟨of_decide_eq_true h,q,hq,rfl⟩))),h2,Nat.le_refl _,h1,h3⟩
 ·exact⟨[],.inr (.inr (.inr (.inr ⟨of_decide_eq_false n1,of_decide_eq_false n2,of_decide_eq_false n4,of_decide_eq_false n5,rfl⟩))),(fun x hx=>nomatch hx),Nat.zero_le _,by simp[jq],by omega⟩
def Shp(N:Nat)(s:ByteArray)(L:List (List Pt)):Prop:=(∃e a:Int,e≠0∧(∀t l,ox N s≠some (t,l,0,0))∧L= [[.s wE,.e e,.i a]])∨
 ∃types l c op W S,ox N s=some (types,l,0,0)∧co N types=some 0∧l.length≤200∧ex N types l l.length c op∧((c.length≤9∧Hc N types l c∧Wit N types l c W∧W.length=3)∨(9 < c.length∧W= []))∧
  ((types.length=1∧XP N (types.getD 0 0) l S∧S.length≤1)∨(types.length≠1∧S= []))∧L= [.s wK,.i c.length]::(W++S)
def Rep(N:Nat)(s o:ByteArray):Prop:=∃L,KV L∧bs o=jq L∧Shp N s L
theorem Ko{N:Nat}(hN:10000 < N)(s:ByteArray)(aab: ∀types l,ox N s=some (types,l,0,0)→types.length=1→Chk N (types.getD 0 0) l):Wp (rp N s) fun o=>Rep N s o∧o.size≤4000000:=by
 unfold rp
 have hsb: ∀{o:ByteArray} {x:List UInt8},bs o=x→x≠ []→FD N o=some o:=fun h hx=>by
  unfold FD
  rw[if_neg]
  rw[nM,h]
  exact fun h0=>hx (List.eq_nil_of_length_eq_zero h0)
 have lnn: ∀ps,ln ps≠ []:=fun ps h=>by have:=congrArg List.length h;simp[ln]at this
 have z0:(⟨#[]⟩:ByteArray).size=0:=rfl
 refine .seq (AL hN) fun r hr hw=> .cond (fun he0=>?_) fun he0=>?_
 ·have he:r.2.2.2≠0:=by simpa using he0
  have hk:eJ r.2.2.2∧eJ r.2.2.1:=by
   have hcl:(bs s).count 10≤(bs s).length:=List.count_le_length
   have DW:=LH 10 (bs s)
   have Cr:=nM s
   rcases hw with⟨_,rfl⟩|⟨hs,⟨k,rfl,hB⟩|⟨types,l,q,hL,hq,hh⟩⟩
   ·exact⟨kg (by decide),jO⟩
   ·have:=hB.1
    exact⟨kg (x:=7) (by decide),kg (x:=(k:Int)) (by omega)⟩
   ·rcases hh with⟨_,rfl⟩|⟨_,_,_,p0,p1,rfl⟩|⟨_,rfl⟩
    ·exact⟨kg (by decide),jO⟩
    ·have h3:=congrArg List.length hL.ls
     simp only[List.length_cons,List.length_append,List.length_map,List.length_nil]at h3
     exact⟨(DX _ hq).G4,kg (by simp only;omega)⟩
    ·exact absurd rfl he
  have hp: ∀p∈ [Pt.s wE,Pt.e r.2.2.2,Pt.i r.2.2.1],rD p:=by
   intro p hp
   simp only[List.mem_cons,List.not_mem_nil,or_false]at hp
   rcases hp with rfl|rfl|rfl
   ·exact xy rfl
   ·exact hk.1
   ·exact hk.2
  refine .seq (AC 3 (by omega) hp (by simp) (by decide) (by rw[z0];omega)) fun o _ ⟨ho,hz⟩=> .bD (hsb (x:=ln [Pt.s wE,Pt.e r.2.2.2,Pt.i r.2.2.1]) (by rw[ho];rfl) (lnn _)) (.one ⟨⟨[[Pt.s wE,Pt.e r.2.2.2,Pt.i r.2.2.1]],?_,?_,.inl ⟨_,_,he,fun t l h=>he (by rw[hr]at h;cases h;rfl),rfl⟩⟩,?_⟩)
  ·intro x hx;rw[List.mem_singleton.1 hx];exact hp
  ·rw[ho];simp[jq,bs]
  ·rw[z0]at hz;omega
 ·have he:r.2.2.2=0:=by simpa using he0
  obtain⟨hs,hL,ahH,h1,q,hq,hq0⟩:=HU hN hr he
  obtain⟨types,l,a,e⟩:=r
  clear he0
  simp only at h1 he hL ahH hq
  subst h1 he
  obtain⟨q',Ft,h2⟩:=sG (N:=N) (types:=types) (l:=l) (by omega)
  rw[hq]at Ft
  cases Ft
  obtain⟨ht,_,hl,_,op,R⟩:=h2 hq0
  have hc:=nN (by omega) ht hl R
  have hcl:=R.wf.len
  generalize q.1=c at R hc hcl
  refine .bD hc ?_
  have hp: ∀p∈ [Pt.s wK,Pt.i (c.length:Int)],rD p:=by
   intro p hp
   simp only[List.mem_cons,List.not_mem_nil,or_false]at hp
   rcases hp with rfl|rfl
   ·exact xy rfl
   ·exact kg (by omega)
  refine .seq (AC 3 (by omega) hp (by simp) (by decide) (by rw[z0];omega)) fun o1 _ ⟨ho1,hz1⟩=>?_
  rw[z0]at hz1
  have e0:bs o1=jq [[Pt.s wK,Pt.i (c.length:Int)]]:=by rw[ho1];simp[jq,bs]
  refine .seq (P:=fun o=>∃W,((c.length≤9∧Hc N types l c∧Wit N types l c W∧W.length=3)∨(9 < c.length∧W= []))∧KV W∧bs o=bs o1++jq W∧o.size≤20000) (.cond (fun h9=>?_) fun h9=> .one ⟨[],.inr ⟨by have h9: ¬(c.length:Int)≤9:=of_decide_eq_false h9;omega,rfl⟩,(fun x hx=>nomatch hx),by simp[jq],by omega⟩) fun o2 _ ⟨W,hW,kW,e2,z2⟩=>?_
  ·have h9:c.length≤9:=by have h9:(c.length:Int)≤9:=of_decide_eq_true h9;omega
   have h9c:=G0 hc h9
   have H:Hc N types l c:=VK (by omega) h9c
   exact .seq (af5 (by omega) (by omega) h9c H) fun o _ ⟨W,w1,w2,w3,w4,w5⟩=> .one ⟨W,.inl ⟨h9,H,w1,w3⟩,w2,w4,by omega⟩
  have hne: ∀{o:ByteArray} {S:List (List Pt)},bs o=bs o2++jq S→FD N o=some o:=fun h=>hsb h (by
   rw[e2,e0]
   intro h
   have:=congrArg List.length h
   simp[jq,ln]at this)
  have fin: ∀{o:ByteArray} {S:List (List Pt)},bs o=bs o2++jq S→bs o=jq ([Pt.s wK,Pt.i (c.length:Int)]::(W++S)):=fun h=>by
   rw[h,e2,e0];simp[jq]
  have af7: ∀{S:List (List Pt)},KV S→KV ([Pt.s wK,Pt.i (c.length:Int)]::(W++S)):=fun hS x hx=>by
   rcases List.mem_cons.1 hx with rfl|hx
   ·exact hp
   ·rcases List.mem_append.1 hx with hx|hx
    ·exact kW x hx
    ·exact hS x hx
  refine .cond (fun h1=>?_) fun h1=>?_
  ·have h1:types.length=1:=by have h1:(types.length:Int)=1:=of_decide_eq_true h1;omega
   refine .fL 0 (by omega) (by simp only;omega) (.seq (af6 (by omega) (by omega) (aab _ _ hr h1)) fun o3 _ ⟨S,hS,kS,s1,e3,z3⟩=> .bD (hne e3) (.one ⟨⟨_,af7 kS,fin e3,.inr ⟨types,l,c,op,W,S,hr,ht,hl,R,hW,.inl ⟨h1,hS,s1⟩,rfl⟩⟩,by omega⟩))
  ·have h1:types.length≠1:=by have h1: ¬(types.length:Int)=1:=of_decide_eq_false h1;omega
   exact .bD (hne (S:=[]) (by simp[jq])) (.one ⟨⟨_,af7 (S:=[]) (fun x hx=>nomatch hx),fin (S:=[]) (by simp[jq]),.inr ⟨types,l,c,op,W,[],hr,ht,hl,R,hW,.inr ⟨h1,rfl⟩,rfl⟩⟩,by omega⟩)
end Vd
namespace Vd
open Tx Hs Sr
theorem af8{c:UInt8}: ∀{a b u v:List UInt8},c∉a→c∉b→a++c::u=b++c::v→a=b∧u=v
 | [],[],u,v,_,_,h=>⟨rfl,by simpa using h⟩
 | [],y::b,u,v,_,hb,h=>by
  simp only[List.nil_append,List.cons_append,List.cons.injEq]at h
  exact absurd (by rw[h.1];simp) hb
 |x::a,[],u,v,ha,_,h=>by
  simp only[List.nil_append,List.cons_append,List.cons.injEq]at h
  exact absurd (by rw[←h.1];simp) ha
 |x::a,y::b,u,v,ha,hb,h=>by
  simp only[List.cons_append,List.cons.injEq]at h
  have:=af8 (fun hh=>ha (by simp[hh])) (fun hh=>hb (by simp[hh])) h.2
  exact⟨by rw[h.1,this.1],this.2⟩
theorem adi{h:ByteArray}{p:Pt}{r:List Pt}{R:List (List Pt)}:(bs h++[32]).isPrefixOf (jq ((.s h::p::r)::R))=true:=by
 refine List.isPrefixOf_iff_prefix.2 ⟨jn 32 ((p::r).map qn)++[10]++jq R,?_⟩
 have e:jn 32 ((.s h::p::r:List Pt).map qn)=bs h++32::jn 32 ((p::r).map qn):=vJ (r:=(p::r).map qn) (by simp)
 unfold jq ln
 rw[List.flatMap_cons,e]
 simp only[List.append_assoc,List.cons_append,List.nil_append]
end Vd
namespace Vd
open Tx Hs Sr
inductive Nx(b:Bool):List Pt→Prop
 |er (r:List Pt):Nx b (.s wB:: .s wE::r)
 |no (h:b=true):Nx b [.s wB,.s wN]
 |ns (r:List Pt) (h:b=false) (hr: ∀p∈r,∃k,p=Pt.i k):Nx b (.s wB::r)
theorem DY{b ok:Bool}{x:dh}{e:Int}(h:e=0→b=ok):Nx b (Iv ok x e):=by
 unfold Iv
 split
 ·exact .er _
 ·rename_i he
  have he:e=0:=Classical.not_not.1 he
  split
  ·rename_i hk
   exact .no (by rw[h he,hk])
  ·rename_i hk
   refine .ns [.i x.kind,.i x.a,.i x.b] (by rw[h he];exact Bool.eq_false_iff.2 hk) fun p hp=>?_
   simp only[List.mem_cons,List.not_mem_nil,or_false]at hp
   rcases hp with rfl|rfl|rfl<;>exact⟨_,rfl⟩
end Vd
namespace Tx
open Hs
def KW(types:List Int)(l:List Event):List UInt8:=rO types++10::l.flatMap fun e=>om e++[10]
theorem adj{types:List Int}{l:List Event}(ht:qz types)(hl: ∀e∈l,ry e):jv 10 (KW types l)=rO types::(l.map om++[[]]):=by
 have e:KW types l=(rO types::l.map om).flatMap (· ++[10])++[]:=by
  simp[KW,List.flatMap_map]
 rw[e,Nb]
 ·rfl
 ·intro x hx
  rcases List.mem_cons.1 hx with rfl|hx
  ·exact aeC ht
  ·obtain⟨v,hv,rfl⟩:=List.mem_map.1 hx
   exact aeB (hl v hv)
theorem adk{x:List UInt8}(h:x∈sE):x.length≤6:=by
 have: ∀x∈sE,x.length≤6:=by decide
 exact this x h
theorem Uf{x:List UInt8}(h:x∈oz):x.length≤6:=by
 have: ∀x∈oz,x.length≤6:=by decide
 exact this x h
theorem Mr{N:Nat}{n:Int}(h: -1000000≤n∧n≤1000000):qq N n=some (jS (it n)):=by
 unfold qq
 rw[if_pos (by omega)];rfl
theorem AO{a b:ByteArray}(h:a.size+b.size≤1000000):Et a b=true:=by
 unfold Et
 exact decide_eq_true (by omega)
theorem p8{N:Nat}{a b:ByteArray}(h:a.size+b.size≤1000000):vU N a b=some (a++b):=by
 unfold vU
 rw[if_pos (by omega)]
theorem Ug{xs:List (List UInt8)}{i:Int}(h0:0≤i)(h:i.toNat < xs.length):ix (xs.map jS) i=some (jS (xs.getD i.toNat [])):=by
 rw[wk h0 (by rw[List.length_map];omega),List.getElem_map,aW h]
theorem aac{types:List Int}{k:Nat}(hk:k < types.length):wy (types.take (k+1))=wy (types.take k)++[oz.getD types[k].toNat []]:=by
 rw[List.take_add_one,List.getElem?_eq_getElem hk]
 simp only[wy,List.map_append,Option.toList_some,List.map_cons,List.map_nil]
theorem jC(a b:ByteArray):(a++b).size=a.size+b.size:=ByteArray.size_append
theorem aad{N:Nat}{types:List Int}{l:List Event}(hN:10000 < N):Wp (Ay N types l) fun r=>∃q,cB N types l=some q∧(q.2.2≠0→r=(⟨#[]⟩,q.2.2))∧(q.2.2=0→qz types∧(∀e∈l,ry e)∧r.2=0∧bs r.1=KW types l):=by
 obtain⟨q,hq,hq1,TZ⟩:=AB (types:=types) (l:=l) (show 300 < N by omega)
 unfold Ay
 refine .bD hq (.cond (fun he=> .one ⟨q,hq,fun _=>rfl,fun h=>by rw[h]at he;simp at he⟩) (fun he=>?_))
 have he:q.2.2=0:=by simpa using he
 obtain⟨ht,hl,hle⟩:=hq1 he
 have htl:=ht.len
 have s6:(⟨#[116,104,105,110,103,115]⟩:ByteArray).size=6:=rfl
 have s1:(⟨#[10]⟩:ByteArray).size=1:=rfl
 have ze:(⟨#[32]⟩:ByteArray).size=1:=rfl
 have s0:(⟨#[]⟩:ByteArray).size=0:=rfl
 have PE:bs (⟨#[32]⟩:ByteArray)= [32]:=rfl
 have qW:bs (⟨#[10]⟩:ByteArray)= [10]:=rfl
 refine .bD (p8 (by rw[s0,s6];decide)) ?_
 refine .seq (P:=fun out=>bs out=rO types) (.iter types.length (fun k s=>s.2=(k:Int)∧bs s.1=yb++(wy (types.take k)).flatMap (32:: ·)∧s.1.size≤10+10 * k) (by omega) ⟨rfl,rfl,by rw[jC,s0,s6];omega⟩ ?_ ?_) fun out _ hout=>?_
 ·rintro k ⟨out,v⟩ hk ⟨hv,ho,hsz⟩
  simp only at hv ho hsz
  subst hv
  simp only[zN]
  have hb:=ht.all _ (List.getElem_mem hk)
  have hm:oz.getD types[k].toNat []∈oz:=jX (by simp[oz];omega)
  have hw:=Uf hm
  have hix:ix (oz.map jS) types[k]=some (jS (oz.getD types[k].toNat [])):=Ug (by omega) (by simp[oz];omega)
  refine .bg (decide_eq_true (by omega)) (.ix hk (.bD rfl (.bD (a:=jS (oz.getD types[k].toNat [])) hix (.ck (AO (by rw[ze,fV];omega)) (.bD (p8 (by rw[jC,ze,fV];omega)) (.bK (by omega) (.one ⟨by simp,?_,?_⟩)))))))
  ·simp only[wx,ho,PE,kA]
   rw[aac hk,List.flatMap_append]
   simp
  ·simp only[jC,ze,fV];omega
 ·rintro⟨out,v⟩ ⟨hv,ho,hsz⟩
  simp only at hv ho hsz
  subst hv
  simp only[zN]
  exact .aL (decide_eq_false (by omega)) (.one (by show bs out=_;rw[ho,List.take_length];rfl))
 have hsz:out.size≤60:=by
  rw[nM,hout]
  unfold rO
  have: ∀(t:List Int),(∀x∈t,1≤x∧x≤5)→((wy t).flatMap (32:: ·)).length≤7 * t.length:=by
   intro t
   induction t with
   |nil=>intro _;simp[wy]
   |cons a t ih=>
    intro h
    have h1:=ih fun x hx=>h x (by simp[hx])
    have ha:=h a (by simp)
    have:=Uf (jX (l:=oz) (i:=a.toNat) (d:=[]) (by simp[oz];omega))
    simp only[wy,List.map_cons,List.flatMap_cons,List.length_append,List.length_cons]at h1⊢
    omega
  have:=this types ht.all
  rw[List.length_append,show yb.length=6 from rfl]
  omega
 refine .bD (p8 (by rw[s1];omega)) ?_
 refine .seq (P:=fun o2=>bs o2=KW types l) (.iter l.length (fun k s=>s.2=(k:Int)∧bs s.1=rO types++10::(l.take k).flatMap (fun e=>om e++[10])∧s.1.size≤100+100 * k) (by omega) ⟨rfl,by simp only[wx,hout,qW];rfl,by simp only[jC,s1];omega⟩ ?_ ?_) fun o2 _ ho2=>?_
 ·rintro k ⟨out,v⟩ hk ⟨hv,ho,hsz⟩
  simp only at hv ho hsz
  subst hv
  simp only[zO]
  refine .bg (decide_eq_true (by omega)) (.ix hk ?_)
  have htk:l.take (k+1)=l.take k++[l[k]]:=by rw[List.take_add_one,List.getElem?_eq_getElem hk];rfl
  have hE:=hl _ (List.getElem_mem hk)
  generalize l[k]=e at hE htk⊢
  have rN:=hE.kind
  have hm:sE.getD e.kind.toNat []∈sE:=jX (by simp[sE];omega)
  have hw:=adk hm
  have l1:=J' hE.who
  have l2:=J' hE.aj
  have hix:ix (sE.map jS) e.kind=some (jS (sE.getD e.kind.toNat [])):=Ug (by omega) (by simp[sE];omega)
  refine .bD (Mr hE.who) (.ck (AO (by rw[ze,fV];omega)) (.bD (Mr hE.aj) (.ck (AO (by rw[jC,ze,fV,fV];omega)) (.ck (AO (by rw[jC,jC,ze,fV,fV];omega)) (.bD rfl (.bD (a:=jS (sE.getD e.kind.toNat [])) hix (.ck (AO (by simp only[jC,ze,fV];omega)) (.bD (p8 (by simp only[jC,ze,fV];omega)) (.bD rfl (.cond (fun hb=>?_) (fun hb=>?_)))))))))))
  ·have hbk: ¬s9 e.kind=true:=by
    intro h
    unfold s9 at h
    rw[h]at hb
    simp at hb
   have hv:=hE.value
   rw[if_neg hbk]at hv
   have l3:=J' hv
   refine .bD (Mr hv) (.ck (AO (by rw[ze,fV];omega)) (.bD (p8 (by simp only[jC,ze,fV];omega)) (.bD (p8 (by simp only[jC,ze,s1,fV];omega)) (.bK (by omega) (.one ⟨by simp,?_,?_⟩)))))
   ·simp only[wx,ho,PE,qW,kA]
    rw[htk,List.flatMap_append]
    simp[om,Gk,hbk]
   ·simp only[jC,ze,s1,fV];omega
  ·have hbk:s9 e.kind=true:=by rw[Bool.not_eq_false']at hb;exact hb
   refine .bD (p8 (by simp only[jC,ze,s1,fV];omega)) (.bK (by omega) (.one ⟨by simp,?_,?_⟩))
   ·simp only[wx,ho,PE,qW,kA]
    rw[htk,List.flatMap_append]
    simp[om,Gk,hbk]
   ·simp only[jC,ze,s1,fV];omega
 ·rintro⟨out,v⟩ ⟨hv,ho,hsz⟩
  simp only at hv ho hsz
  subst hv
  simp only[zO]
  exact .aL (decide_eq_false (by omega)) (.one (by show bs out=_;rw[ho,List.take_length];rfl))
 have hne:o2.size≠0:=by rw[nM,ho2];simp[KW]
 exact .bD (a:=o2) (by unfold FD;rw[if_neg hne]) (.one ⟨q,hq,fun h=>absurd he h,fun _=>⟨ht,hl,rfl,ho2⟩⟩)
theorem VT{N:Nat}(hN:10000 < N){types:List Int}{l:List Event}{p:ByteArray}{q:List Call×Int×Int}(hq:cB N types l=some q)(h0:q.2.2=0)(hp:bs p=KW types l)(hs:p.size≤8192):ox N p=some (types,l,0,0):=by
 obtain⟨q',Ft,hq1,_⟩:=AB (types:=types) (l:=l) (show 300 < N by omega)
 rw[hq]at Ft
 cases Ft
 obtain⟨ht,hl,hle⟩:=hq1 h0
 have hsp:=adj ht hl
 rw[←hp]at hsp
 have hn:=congrArg List.length hsp
 simp only[List.length_cons,List.length_append,List.length_map,List.length_nil]at hn
 refine Wp.eq ((AL (s:=p) hN).mono fun r hw=>?_)
 rcases hw with⟨h8,_⟩|⟨_,⟨k,rfl,hB⟩|⟨types',l',q',hL,Ft,hh⟩⟩
 ·omega
 ·exfalso
  have hb:=hB.2.2
  have hk:=hB.1
  split at hb
  ·rename_i iU
   refine hb ⟨?_,by omega⟩
   rw[hsp,←List.cons_append,List.getElem?_append_right (by simp;omega),show k - (rO types::l.map om).length=0 by simp;omega]
   rfl
  ·have hkx:(jv 10 (bs p))[k]? =some (jv 10 (bs p))[k]:=List.getElem?_eq_getElem hk
   exact hb _ hkx (KO (r:=[[]]) ht hl hsp (by omega) hkx)
 ·have he:=hL.ls.symm.trans hsp
  have hlen: ∀x∈jv 10 (bs p),x.length≤8192:=fun x hx=>by
   have:=PI hx
   rw[nM]at hs;omega
  simp only[List.cons.injEq]at he
  have e1:types'=types:=abA hL.ty ht (hlen _ (by rw[hL.ls];simp)) he.1
  have e2:l'.map om=l.map om:=List.append_cancel_right he.2
  have e3:l'=l:=by
   have hl3:l'.length=l.length:=by have:=congrArg List.length e2;simpa using this
   refine List.ext_getElem hl3 fun i h1 h2=>?_
   have e4:(l'.map om)[i]? =(l.map om)[i]? :=by rw[e2]
   rw[List.getElem?_map,List.getElem?_map,List.getElem?_eq_getElem h1,List.getElem?_eq_getElem h2]at e4
   exact aby (hL.ev _ (List.getElem_mem h1)) (hl _ (List.getElem_mem h2)) (hlen _ (by rw[hL.ls];simp;exact .inr (.inl ⟨_,List.getElem_mem h1,rfl⟩))) (Option.some.inj e4)
  subst e1 e3
  rw[hq]at Ft
  cases Ft
  rcases hh with⟨h2,_⟩|⟨_,h2,_⟩|⟨_,rfl⟩
  ·omega
  ·exact absurd h0 h2
  ·rfl
end Tx
namespace Sr
open Rl Hs
theorem DZ{types:List Int}{c:List Call}{q:Nat→Nat→Bool}(X: ∀m,m < c.length→0≤(c.getD m Call.z).aj∧(c.getD m Call.z).aj < types.length): ∀{t:List Step} {S:List (List Int)} {w:List Nat},S.length=types.length→(Pl types c q S w t↔Ac c q w t∧∀x,x < types.length→∃s',Ob.run (types.getD x 0) (S.getD x []) (e7 c x t)=some s')
 | [],S,w,hl=>by
  refine⟨fun _=>⟨trivial,fun x _=>⟨_,rfl⟩⟩,fun _=>trivial⟩
 |s::t,S,w,hl=>by
  have ih:=fun(i:Nat) (x:Nat) (n:List Int)=>DZ (q:=q) X (t:=t) (S:=S.set x n) (w:=w++[i]) (by rw[List.length_set];exact hl)
  constructor
  ·rintro⟨i,n,h1,h2,h3,h4,h5,h6,h7⟩
   obtain⟨g1,g2⟩:=(ih i _ n).1 h7
   obtain⟨t0,t1⟩:=X i h2
   refine⟨⟨i,h1,h2,h3,h4,h5,g1⟩,fun x hx=>?_⟩
   obtain⟨s',hs'⟩:=g2 x hx
   rw[nR (by omega)]at hs'
   simp only[e7,h1,Int.toNat_natCast]
   by_cases e:(c.getD i Call.z).aj.toNat=x
   ·subst e
    rw[if_pos rfl]at hs'⊢
    refine⟨s',?_⟩
    simp only[Ob.run,h6,if_pos]
    exact hs'
   ·rw[if_neg e]
    rw[if_neg (fun h=>e h.symm)]at hs'
    exact⟨s',hs'⟩
  ·rintro⟨⟨i,h1,h2,h3,h4,h5,h6⟩,g⟩
   obtain⟨t0,t1⟩:=X i h2
   obtain⟨s1,hs1⟩:=g _ (show(c.getD i Call.z).aj.toNat < types.length by omega)
   simp only[e7,h1,Int.toNat_natCast,if_pos]at hs1
   simp only[Ob.run]at hs1
   cases hn:Ob.nx (types.getD (c.getD i Call.z).aj.toNat 0) (S.getD (c.getD i Call.z).aj.toNat []) (c.getD i Call.z).kind (c.getD i Call.z).arg with
   |none=>rw[hn]at hs1;cases hs1
   |some p=>
    obtain⟨n,res⟩:=p
    rw[hn]at hs1
    simp only at hs1
    split at hs1
    ·rename_i hres
     refine⟨i,n,h1,h2,h3,h4,h5,by rw[hn,hres],(ih i _ n).2 ⟨h6,fun x hx=>?_⟩⟩
     rw[nR (by omega)]
     by_cases e:x=(c.getD i Call.z).aj.toNat
     ·subst e
      rw[if_pos rfl]
      exact⟨s1,hs1⟩
     ·rw[if_neg e]
      obtain⟨s2,hs2⟩:=g x hx
      simp only[e7,h1,Int.toNat_natCast]at hs2
      rw[if_neg (fun h=>e h.symm)]at hs2
      exact⟨s2,hs2⟩
    ·cases hs1
end Sr
namespace Vd
open Tx Hs Sr
theorem Ms{s sub:List UInt8}:Lib.contains s sub=true↔∃a b,s=a++sub++b:=by
 unfold Lib.contains
 rw[decide_eq_true_eq]
 rcases Lib.index_spec s sub with⟨h,hn⟩|⟨i,h,hi,ho,_⟩
 ·rw[h]
  refine⟨fun h=>absurd h (by decide),fun⟨a,b,e⟩=>?_⟩
  have h1:=hn a.length (by rw[e];simp only[List.length_append];omega)
  have h2:Lib.occAt s sub a.length=true:=by
   unfold Lib.occAt
   rw[e,List.append_assoc,List.drop_left]
   exact List.isPrefixOf_iff_prefix.2 ⟨b,rfl⟩
  rw[h1]at h2;cases h2
 ·rw[h]
  refine⟨fun _=>?_,fun _=>by omega⟩
  obtain⟨z,hz⟩:=List.isPrefixOf_iff_prefix.1 ho
  exact⟨s.take i,z,by rw[List.append_assoc,hz,List.take_append_drop]⟩
theorem KX{N:Nat}{o sub:ByteArray}(h:o.size≤4000000):Eu N o sub=some (Lib.contains (bs o) (bs sub)):=by
 unfold Eu
 rw[if_pos (by omega)];rfl
theorem XQ{s sub:List UInt8}{d:UInt8}(h:d∉s)(hs:d∈sub):Lib.contains s sub=false:=by
 cases hb:Lib.contains s sub with
 |false=>rfl
 |true=>
  obtain⟨a,b,e⟩:=Ms.1 hb
  exact absurd (by rw[e];simp[hs]) h
theorem XR{d:UInt8}(hd:97≤d.toNat)(k:Int):d∉it k:=fun h=>by
 rcases WT k d h with h|h<;>omega
theorem VU{d:UInt8}(hd:97≤d.toNat){ps:List Pt}(h: ∀p∈ps,∀x,p= .s x→d∉bs x):d∉ln ps:=by
 have h1:d≠32:=fun e=>by subst e;exact absurd hd (by decide)
 have h2:d≠10:=fun e=>by subst e;exact absurd hd (by decide)
 unfold ln
 rw[List.mem_append,not_or]
 refine⟨aa_ h1.symm fun x hx=>?_,by simpa using h2⟩
 obtain⟨p,hp,rfl⟩:=List.mem_map.1 hx
 cases p with
 |s x=>exact h _ hp x rfl
 |i k=>exact XR hd k
 |e k=>exact XR hd k
theorem RA{d:UInt8}(hd:97≤d.toNat){L:List (List Pt)}(h: ∀ps∈L,∀p∈ps,∀x,p= .s x→d∉bs x):d∉jq L:=fun hm=>by
 obtain⟨ps,hp,hm⟩:=List.mem_flatMap.1 hm
 exact VU hd (h ps hp) hm
theorem ajU{c:UInt8}{a b u v:List UInt8}(h1:c∉a)(h2:c∉u)(e:a++c::u=b++c::v):a=b∧u=v:=by
 refine af8 h1 (fun hb=>?_) e
 have h:=congrArg (List.count c) e
 simp only[List.count_append,List.count_cons_self]at h
 rw[List.count_eq_zero.2 h1,List.count_eq_zero.2 h2]at h
 have:=List.count_pos_iff.2 hb
 omega
theorem Fa(ps:List Pt)(L:List (List Pt)):jq (ps::L)=ln ps++jq L:=by unfold jq;rw[List.flatMap_cons]
theorem Mt(A L:List (List Pt)):jq (A++L)=jq A++jq L:=by unfold jq;rw[List.flatMap_append]
theorem KY{h:ByteArray}{p:Pt}{r:List Pt}:ln (.s h::p::r)=bs h++32::ln (p::r):=by
 have e:jn 32 ((.s h::p::r:List Pt).map qn)=bs h++32::jn 32 ((p::r).map qn):=vJ (r:=(p::r).map qn) (by simp)
 unfold ln
 rw[e]
 simp only[List.append_assoc,List.cons_append]
theorem aa'{p:Pt}{r:List Pt}: ∃z,ln (p::r)=qn p++z:=by
 unfold ln
 rw[List.map_cons,Ka,List.append_assoc]
 exact⟨_,rfl⟩
theorem Mu{N:Nat}(hN:10000 < N){types:List Int}{l:List Event}{c:List Call}{op:List Int}(ht:co N types=some 0)(hl:l.length≤200)(R:ex N types l l.length c op)(hg:c.length≤9→∃t,Sr.Gd types c (fg c) (S0 types) [] t)
  (aab:types.length=1→Chk N (types.getD 0 0) l)(hs: ∀S,types.length=1→XP N (types.getD 0 0) l S→S= []∨∃ps,S= [ps]∧Nx true ps):jN N types l=some true:=by
 have hc:=nN (by omega:300 < N) ht hl R
 refine Wp.eq ?_
 unfold jN
 refine .seq (aad (types:=types) (l:=l) hN) fun r _ ⟨q,hq,_,hp⟩=>?_
 rw[hc]at hq
 cases hq
 obtain⟨_,_,h0,G5⟩:=hp rfl
 rw[h0]
 refine .cond (fun _=> .one rfl) fun h8=>?_
 have h8:r.1.size≤8192:=by
  by_cases h:(8192:Int) < (r.1.size:Int)
  ·rw[decide_eq_true h]at h8
   simp at h8
  ·omega
 have hrd:=VT hN hc rfl G5 h8
 refine .seq (Ko hN r.1 fun types' l' h h1=>?_) fun o _ ⟨⟨L,hL,ho,hS⟩,hz⟩=>?_
 ·rw[hrd]at h;cases h;exact aab h1
 rcases hS with⟨e,a,_,hno,_⟩|⟨types',l',c',op',W,S,h,_,_,R',hW,hT,rfl⟩
 ·exact absurd hrd (hno _ _)
 rw[hrd]at h
 cases h
 have e':=nN (by omega:300 < N) ht hl R'
 rw[hc]at e'
 obtain rfl:c=c':=(Prod.mk.inj (Option.some.inj e')).1
 have hpc:Pm N o (⟨#[99,97,108,108,115,32]⟩:ByteArray)=some true:=by
  unfold Pm
  refine congrArg some (show(bs wK++[32]).isPrefixOf (bs o)=true from ?_)
  rw[ho];exact adi
 have hSl:S= []∨∃ps,S= [ps]∧Nx true ps:=by
  rcases hT with⟨h1,h2,_⟩|⟨_,rfl⟩
  ·exact hs S h1 h2
  ·exact .inl rfl
 have nS: ∀ps∈S,∀p∈ps,∀x,p= .s x→x=wB∨x=wE∨x=wN:=by
  intro ps hps p hp x hx
  rcases hT with⟨_,h2,_⟩|⟨_,rfl⟩
  ·have key: ∀ok b e,∀p∈Iv ok b e,∀x,p= .s x→x=wB∨x=wE∨x=wN:=by
    intro ok b e p hp x hx
    subst hx
    unfold Iv at hp
    split at hp
    ·simp at hp;rcases hp with h|h<;>simp[h]
    ·split at hp
     ·simp at hp;rcases hp with h|h<;>simp[h]
     ·simp at hp;simp[hp]
   rcases h2 with⟨_,q,_,rfl⟩|⟨_,q,_,rfl⟩|⟨_,q,_,rfl⟩|⟨_,q,_,rfl⟩|⟨_,_,_,_,rfl⟩
   ·rw[List.mem_singleton.1 hps]at hp;exact key _ _ _ p hp x hx
   ·rw[List.mem_singleton.1 hps]at hp;exact key _ _ _ p hp x hx
   ·rw[List.mem_singleton.1 hps]at hp;exact key _ _ _ p hp x hx
   ·rw[List.mem_singleton.1 hps]at hp
    subst hx
    unfold Rz at hp
    rcases List.mem_append.1 hp with hp|hp
    ·split at hp
     ·simp at hp;rcases hp with h|h<;>simp[h]
     ·split at hp
      ·simp at hp;rcases hp with h|h<;>simp[h]
      ·simp at hp;simp[hp]
    ·obtain⟨k,_,e⟩:=List.mem_map.1 hp
     cases e
   ·cases hps
  ·cases hps
 have nK: ∀{d:UInt8},97≤d.toNat→d∉bs wK→d∉ln [.s wK,.i (c.length:Int)]:=fun hd h=>VU hd fun p hp x hx=>by
  subst hx
  simp at hp
  rw[hp];exact h
 have noS: ∀{d:UInt8},97≤d.toNat→(d∉bs wB∧d∉bs wE∧d∉bs wN)→d∉jq S:=fun hd h=>RA hd fun ps hps p hp x hx=>by
  rcases nS ps hps p hp x hx with rfl|rfl|rfl
  ·exact h.1
  ·exact h.2.1
  ·exact h.2.2
 have nst: ∀{d:UInt8},97≤d.toNat→∀w:List Step,∀p∈zf w,∀x,p= .s x→d∉bs x:=fun hd w p hp x hx=>by
  obtain⟨s,_,h⟩:=List.mem_flatMap.1 hp
  subst hx
  simp at h
 have htn:Lib.contains (bs o) [116,105,109,101,32,110]=false:=by
  rw[ho,Fa,Mt]
  rcases hW with⟨_,H,⟨w,b,x,b2,y,b3,_,F1,_,_,rfl⟩,_⟩|⟨_,rfl⟩
  ·have hb:b=true:=F1.iff.2 (hg H.pW)
   subst hb
   cases Vh:Lib.contains (ln [.s wK,.i (c.length:Int)]++(jq (Nw true b2 b3 w)++jq S)) [116,105,109,101,32,110]with
   |false=>rfl
   |true=>
    exfalso
    obtain⟨a,z,e⟩:=Ms.1 Vh
    have e1:jq (Nw true b2 b3 w)=116::([105,109,101]++32::ln (.s (yN true)::zf w)++jq [[.s wP,.s (yN b2)],[.s wC,.s (yN b3)]]):=by
     unfold Nw
     rw[Fa,KY]
     rfl
    rw[e1,List.append_assoc a,List.cons_append]at e
    have hy2: ∀{d:UInt8} (b:Bool),d≠121→d≠110→d∉bs (yN b):=fun b h1 h2=>by
     cases b
     ·simpa[yN,bs]using h2
     ·simpa[yN,bs]using h1
    have hn:(116:UInt8)∉ [105,109,101]++32::ln (.s (yN true)::zf w)++jq [[.s wP,.s (yN b2)],[.s wC,.s (yN b3)]]++jq S:=by
     simp only[List.mem_append,List.mem_cons,not_or]
     refine⟨⟨⟨by decide,by decide,VU (by decide) fun p hp x hx=>?_⟩,RA (by decide) fun ps hps p hp x hx=>?_⟩,noS (by decide) (by decide)⟩
     ·rcases List.mem_cons.1 hp with rfl|hp
      ·cases hx;exact hy2 _ (by decide) (by decide)
      ·exact nst (by decide) w p hp x hx
     ·subst hx
      simp only[List.mem_cons,List.not_mem_nil,or_false]at hps
      rcases hps with rfl|rfl
      ·simp at hp
       rcases hp with rfl|rfl
       ·decide
       ·exact hy2 _ (by decide) (by decide)
      ·simp at hp
       rcases hp with rfl|rfl
       ·decide
       ·exact hy2 _ (by decide) (by decide)
    have e2:=(ajU (v:=[105,109,101,32,110]++z) (nK (by decide) (by decide)) hn e).2
    obtain⟨z1,hz1⟩:=aa' (p:= .s (yN true)) (r:=zf w)
    rw[hz1]at e2
    have e3:qn (.s (yN true))= [121]:=rfl
    rw[e3]at e2
    simp at e2
  ·refine XQ (d:=116) ?_ (by decide)
   simp only[List.mem_append,not_or]
   exact⟨nK (by decide) (by decide),by simp[jq],noS (by decide) (by decide)⟩
 refine .bD hpc (.bD (a:=false) (by rw[KX hz];exact congrArg some htn) (.aL rfl ?_))
 rw[KX hz,KX hz,KX hz]
 rcases hSl with rfl|⟨ps,rfl,hp⟩
 ·have hb:Lib.contains (bs o) (bs (⟨#[98,97,100,32]⟩:ByteArray))=false:=by
   refine XQ (d:=98) ?_ (by decide)
   rw[ho,Fa,Mt]
   simp only[List.mem_append,not_or]
   refine⟨nK (by decide) (by decide),?_,by simp[jq]⟩
   rcases hW with⟨_,_,⟨w,b,x,b2,y,b3,_,_,_,_,rfl⟩,_⟩|⟨_,rfl⟩
   ·refine RA (by decide) fun ps hps p hp x hx=>?_
    have hy2: ∀b:Bool,(98:UInt8)∉bs (yN b):=fun b=>by cases b<;>decide
    unfold Nw at hps
    simp only[List.mem_cons,List.not_mem_nil,or_false]at hps
    subst hx
    rcases hps with rfl|rfl|rfl
    ·rcases List.mem_cons.1 hp with h|hp
     ·cases h;decide
     rcases List.mem_cons.1 hp with h|hp
     ·cases h;exact hy2 _
     ·exact nst (by decide) w _ hp _ rfl
    ·simp at hp
     rcases hp with rfl|rfl
     ·decide
     ·exact hy2 _
    ·simp at hp
     rcases hp with rfl|rfl
     ·decide
     ·exact hy2 _
   ·simp[jq]
  rw[hb]
  exact .bD rfl (.bD (a:=false) rfl (.bD (a:=false) rfl (.one rfl)))
 ·have pre: ∀{sub:List UInt8},(∃z,ln ps=sub++z)→Lib.contains (bs o) sub=true:=fun⟨z,hz⟩=>by
   refine Ms.2 ⟨ln [.s wK,.i (c.length:Int)]++jq W,z,?_⟩
   rw[ho,Fa,Mt]
   have:jq [ps]=ln ps:=by simp[jq]
   rw[this,hz]
   simp only[List.append_assoc]
  have hb: ∀{x:ByteArray} {r:List Pt},ps= .s wB:: .s x::r→Lib.contains (bs o) (bs wB++32::bs x)=true:=fun {x r} e=>pre (by
   rw[e,KY]
   obtain⟨z,hz⟩:=aa' (p:= .s x) (r:=r)
   rw[hz]
   exact⟨z,by simp[qn]⟩)
  have hb0:Lib.contains (bs o) (bs (⟨#[98,97,100,32]⟩:ByteArray))=true:=by
   refine pre ?_
   cases hp with
   |er r=>rw[KY];exact⟨_,(List.append_assoc (bs wB) [32] _).symm⟩
   |no h=>rw[KY];exact⟨_,(List.append_assoc (bs wB) [32] _).symm⟩
   |ns r h=>cases h
  rw[hb0]
  refine .bD rfl ?_
  cases hp with
  |er r=>
   have h2:Lib.contains (bs o) (bs (⟨#[98,97,100,32,101,114,114,111,114]⟩:ByteArray))=true:=hb rfl
   rw[h2]
   generalize Lib.contains (bs o) (bs (⟨#[98,97,100,32,110,111,110,101]⟩:ByteArray))=b1
   cases b1
   ·exact .bD (a:=false) rfl (.bD (a:=true) rfl (.one rfl))
   ·exact .bD (a:=true) rfl (.bD (a:=false) rfl (.one rfl))
  |no h=>
   have h2:Lib.contains (bs o) (bs (⟨#[98,97,100,32,110,111,110,101]⟩:ByteArray))=true:=hb rfl
   rw[h2]
   exact .bD (a:=true) rfl (.bD (a:=false) rfl (.one rfl))
  |ns r h=>cases h
end Vd
end Go.Proofs.YtjdkkabcenohcaaGreatDoor
