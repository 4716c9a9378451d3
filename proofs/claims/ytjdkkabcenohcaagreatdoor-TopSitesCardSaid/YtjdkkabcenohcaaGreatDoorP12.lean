import Derived.Test.YtjdkkabcenohcaaGreatDoorP11
import Derived.Test.YtjdkkabcenohcaaGreatDoorP3
import Derived.Test.YtjdkkabcenohcaaGreatDoorP8
set_option linter.unusedVariables false
set_option linter.unusedSimpArgs false
set_option linter.unusedSectionVars false
set_option maxRecDepth 100000
namespace Go.Proofs.YtjdkkabcenohcaaGreatDoor
open Go.RowKit
namespace Vd
def eJ(x:Int):Prop:= -9223372036854775808≤x∧x≤9223372036854775807
def Pc{α:Type}(m:Option α)(Q:α→Prop):Prop:=∀r,m=some r→Q r
theorem Pc.one{α:Type}{a:α}{Q:α→Prop}(h:Q a):Pc (some a) Q:=by rintro r ⟨⟩;exact h
theorem Pc.none{α:Type}{Q:α→Prop}:Pc (none:Option α) Q:=by rintro r ⟨⟩
theorem Pc.bI{α β:Type}{m:Option α}{f:α→Option β}{Q:β→Prop}(P:α→Prop)(h:Pc m P)(k: ∀a,P a→Pc (f a) Q):Pc (bd m f) Q:=fun r hr=>by
 obtain⟨a,h1,h2⟩:=al hr
 exact k a (h a h1) r h2
theorem Pc.any{α β:Type}{m:Option α}{f:α→Option β}{Q:β→Prop}(k: ∀a,Pc (f a) Q):Pc (bd m f) Q:=Pc.bI (fun _=>True) (fun _ _=>trivial) fun a _=>k a
theorem Pc.cI{α:Type}{b:Bool}{x y:Option α}{Q:α→Prop}(h:b=true→Pc x Q)(k:b=false→Pc y Q):Pc (cond b x y) Q:=by
 cases b with
 |true=>exact h rfl
 |false=>exact k rfl
theorem Pc.kI{α:Type}{b:Bool}{x:Option α}{Q:α→Prop}(h:b=true→Pc x Q):Pc (ck b x) Q:=by
 cases b with
 |true=>exact h rfl
 |false=>exact Pc.none
theorem Pc.xI{α β:Type}{l:List α}{i:Int}{f:α→Option β}{Q:β→Prop}(k: ∀a,a∈l→0≤i∧i < l.length→Pc (f a) Q):Pc (bd (ix l i) f) Q:=fun r hr=>by
 obtain⟨a,h1,h2⟩:=al hr
 unfold Go.Proofs.YtjdkkabcenohcaaGreatDoor.ix at h1
 split at h1
 ·obtain⟨h3,h4⟩:=List.getElem?_eq_some_iff.1 h1
  exact k a (h4▸List.getElem_mem h3) (by omega) r h2
 ·cases h1
theorem Pc.it{σ ρ:Type}{body:σ→Option (σ ⊕ ρ)}{P:ρ→Prop}(h: ∀s,Pc (body s) fun t=>match t with| .inl _=>True| .inr r=>P r): ∀n s,Pc (iter body n s) P
 |0,s=>by rintro r ⟨⟩
 |n+1,s=>fun r hr=>by
  unfold iter at hr
  have h1:=h s
  cases hb:body s with
  |none=>rw[hb]at hr;cases hr
  |some t=>
   rw[hb]at hr
   have h2:=h1 t hb
   cases t with
   |inl s'=>exact Pc.it h n s' r hr
   |inr r'=>cases hr;exact h2
end Vd
namespace Vd
theorem Pc.sI{α β γ:Type}{m:Option (α ⊕ β)}{f:α→Option γ}{g:β→Option γ}{Q:γ→Prop}(P:β→Prop)(h:Pc m fun t=>match t with| .inl _=>True| .inr y=>P y)(hl: ∀a,Pc (f a) Q)(hr: ∀b,P b→Pc (g b) Q):Pc (bd m (Sum.elim f g)) Q:=
 .bI (fun t=>match t with| .inl _=>True| .inr y=>P y) h fun t ht=>by
  cases t with
  |inl a=>exact hl a
  |inr b=>exact hr b ht
def sm(x:Int):Prop:=decide (-1000000≤x∧x≤1000000)=true
theorem sm.G4{x:Int}(h:sm x):eJ x:=by
 have:=of_decide_eq_true h
 unfold Vd.eJ;omega
theorem Z7{N:Nat}{t:List Int}:Pc (co N t) sm:=by
 unfold co
 repeat' with_reducible first|apply Pc.one|apply Pc.none|(apply Pc.cI<;>intro _)|(apply Pc.kI;intro _)|(apply Pc.xI;intro _ _ _)|(apply Pc.any;intro _)
 all_goals exact rfl
theorem Z8{N:Nat}{t:List Int}{o:List Call}{p:List Int}{i:Int}{v:Event}:Pc (ep N t o p i v) fun r=>sm r.2.2:=by
 unfold ep
 repeat' with_reducible first|apply Pc.one|apply Pc.none|(apply Pc.cI<;>intro _)|(apply Pc.kI;intro _)|(apply Pc.xI;intro _ _ _)|(apply Pc.any;intro _)
 all_goals exact rfl
theorem DX{N:Nat}{t:List Int}{l:List Event}:Pc (cB N t l) fun r=>sm r.2.2:=by
 unfold cB
 refine .bI _ Z7 fun a ha=> .cI (fun _=> .one ha) fun _=> .cI (fun _=> .one rfl) fun _=> .sI (fun r=>sm r.2.2) (.it (fun s=>?_) _ _) (fun a=> .one rfl) fun b hb=> .one hb
 obtain⟨o,p,v⟩:=s
 simp only[gB]
 refine .cI (fun _=> .xI fun a _ _=> .bI _ Z8 fun r hr=> .cI (fun _=> .one hr) fun _=> .kI fun _=> .one trivial) fun _=> .one trivial
def Eb(r:List Int×Int):Prop:=eJ r.2∧(r.2≠0→r.1= [])∧r.1.length≤1001∧∀n∈r.1,eJ n
def Rs(r:Bool×Int×Int×Int×Int):Prop:=eJ r.2.1∧eJ r.2.2.1∧eJ r.2.2.2.1∧eJ r.2.2.2.2
theorem Z9{N:Nat}{l:List Event}:Pc (re N l) fun r=>sm r.2:=by
 unfold re
 refine .bI _ DX fun a ha=> .cI (fun _=> .one ha) fun _=> .sI (fun r=>sm r.2) (.it (fun s=>?_) _ _) (fun a=> .one rfl) fun b hb=> .one hb
 obtain⟨o,v⟩:=s
 simp only[ta]
 repeat' with_reducible first|apply Pc.one|apply Pc.none|(apply Pc.cI<;>intro _)|(apply Pc.kI;intro _)|(apply Pc.xI;intro _ _ _)|(apply Pc.any;intro _)
 all_goals first|trivial|exact rfl
theorem ac7{N:Nat}{l:List Event}:Pc (ni N l) fun r=>sm r.2.2.2:=by
 unfold ni
 refine .bI _ DX fun a ha=> .cI (fun _=> .one ha) fun _=> .sI (fun r=>sm r.2.2.2) (.it (fun s=>?_) _ _) (fun a=>?_) fun b hb=> .one hb
 ·obtain⟨o,v⟩:=s
  simp only[pX]
  repeat' with_reducible first|apply Pc.one|apply Pc.none|(apply Pc.cI<;>intro _)|(apply Pc.kI;intro _)|(apply Pc.xI;intro _ _ _)|(apply Pc.any;intro _)
  all_goals first|trivial|exact rfl
 ·repeat' with_reducible first|apply Pc.one|apply Pc.none|(apply Pc.cI<;>intro _)|(apply Pc.kI;intro _)|(apply Pc.xI;intro _ _ _)|(apply Pc.any;intro _)
  all_goals exact rfl
theorem Z_{N:Nat}{l:List Event}:Pc (jM N l) fun r=>sm r.2.2.2.2:=by
 unfold jM
 refine .bI _ DX fun a ha=> .cI (fun _=> .one ha) fun _=> .any fun p=>?_
 obtain⟨p,m,h⟩:=p
 repeat' with_reducible first|apply Pc.one|apply Pc.none|(apply Pc.cI<;>intro _)|(apply Pc.kI;intro _)|(apply Pc.xI;intro _ _ _)|(apply Pc.any;intro _)
 all_goals exact rfl
end Vd
namespace Vd
open Hs
theorem kg{x:Int}(h: -1000000≤x∧x≤1000000):eJ x:=by unfold eJ;omega
theorem Da{i n:Nat}(h:i < n)(hn:n≤1000):eJ (i:Int):=by unfold eJ;omega
theorem jO:eJ 0:=kg (by decide)
theorem KQ{N:Nat}{types:List Int}{l:List Event}{k:Nat}{c:List Call}{op:List Int}(R:ex N types l k c op){m:Nat}(hm:m < c.length):0≤(c.getD m Call.z).arg∧(c.getD m Call.z).arg≤1000:=by
 have h:=Tx.Ua (Sr.w_ R m hm).1
 split at h<;>omega
theorem Z'{N:Nat}{l:List Event}:Pc (jL N l) fun r=>sm r.2.2.2.2:=by
 unfold jL
 refine .bI _ Z9 fun a ha=> .cI (fun _=> .one ha) fun _=>?_
 refine .any fun _=> .any fun _=> .any fun p=>?_
 obtain⟨k,x,y⟩:=p
 exact .one rfl
theorem ac8{N:Nat}{l:List Event}:Pc (iV N l) fun r=>sm r.2.2.2.2:=by
 unfold iV
 refine .bI _ ac7 fun a ha=> .cI (fun _=> .one ha) fun _=> .sI (fun r=>sm r.2.2.2.2) (.kI fun _=> .it (fun s=>?_) _ _) (fun _=> .one rfl) fun b hb=> .one hb
 simp only[qY]
 refine .cI (fun _=> .kI fun _=> .any fun p=>?_) fun _=> .one trivial
 obtain⟨k,x,y⟩:=p
 exact .cI (fun _=> .one rfl) fun _=> .kI fun _=> .one trivial
theorem VS{N:Nat}{l:List Event}:Pc (fR N l) fun r=>sm r.2.2.2.2:=by
 unfold fR
 exact .bI _ Z_ fun a ha=> .cI (fun _=> .one ha) fun _=> .kI fun _=> .any fun _=> .one rfl
theorem ac9{N:Nat}{l:List Event}:Pc (iW N l) fun r=>sm r.2:=by
 unfold iW
 refine .any fun _=> .bI _ DX fun a ha=> .cI (fun _=> .one ha) fun _=> .sI (fun r=>sm r.2) (.it (fun s=>?_) _ _) (fun a=> .any fun _=> .one rfl) fun b hb=> .one hb
 obtain⟨k,x⟩:=s
 simp only[uM]
 exact .cI (fun _=> .xI fun _ _ _=> .kI fun _=> .cI (fun _=> .one rfl) fun _=> .kI fun _=> .one trivial) fun _=> .one trivial
theorem Rq{N:Nat}(hN:300 < N)(l:List Event):Wp (jL N l) Rs:=by
 obtain⟨⟨b,k,x,y,e⟩,hr,h⟩:=Zo.vV hN l
 refine⟨_,hr,?_⟩
 have he:eJ e:=(Z' _ hr).G4
 rcases h with⟨_,_,h2,h3,h4⟩|⟨_,ht,hl,c,op,R,D,_,K⟩
 ·simp only at h2 h3 h4
  subst h2 h3 h4
  exact⟨jO,jO,jO,he⟩
 ·have hc:=R.wf.len
  have hv: ∀v,Zo.Af c v→eJ v:=fun v hv=>by
   rcases hv with rfl|⟨i,hi,_,rfl⟩
   ·exact jO
   ·exact kg (by have:=KQ R hi;omega)
  rcases K with⟨hk,i,hi,hxy⟩|⟨_,⟨hk,i,j,hi,hxy⟩|⟨_,⟨hk,ht,_⟩|⟨_,⟨hk,ht,_⟩|⟨_,hk⟩⟩⟩⟩
  ·have hk:k=1:=hk
   cases hxy
   exact⟨by rw[hk];exact kg (x:=1) (by decide),Da hi.1 (by omega),jO,he⟩
  ·have hk:k=3:=hk
   cases hxy
   exact⟨by rw[hk];exact kg (x:=3) (by decide),Da hi.1 (by omega),Da hi.2.1 (by omega),he⟩
  ·have hk:k=4:=hk
   exact⟨by rw[hk];exact kg (x:=4) (by decide),hv _ ht.2.1,hv _ ht.2.2.1,he⟩
  ·have hk:k=5:=hk
   exact⟨by rw[hk];exact kg (x:=5) (by decide),hv _ ht.2.1,hv _ ht.2.2.1,he⟩
  ·cases hk
   exact⟨jO,jO,jO,he⟩
def Vr(v:aq):Prop:=eJ v.n∧eJ v.oJ∧eJ v.lG
theorem ac_{N:Nat}{c:List Call}{V:List aq}(hV: ∀v∈V,Vr v):Pc (nu N c V) fun r=>eJ r.2.2:=by
 unfold nu
 refine .sI (fun r=>eJ r.2.2) (.it (fun s=>?_) _ _) (fun _=> .one jO) fun b hb=> .one hb
 simp only[oP]
 refine .cI (fun _=> .sI (fun r=>eJ r.2.2) (.xI fun a ha _=> .it (fun s=>?_) _ _) (fun _=> .kI fun _=> .one trivial) fun b hb=> .one hb) fun _=> .one trivial
 simp only[oO]
 exact .cI (fun _=> .xI fun b hb _=> .any fun _=> .cI (fun _=> .one (hV b hb).1) fun _=> .kI fun _=> .one trivial) fun _=> .one trivial
theorem ac'{N:Nat}{c:List Call}{V:List aq}(hV: ∀v∈V,Vr v):Pc (nq N c V) fun r=>eJ r.2.2:=by
 unfold nq rT
 refine .bI (fun r=>eJ r.2.2) (.sI (fun r=>eJ r.2.2) (.it (fun s=>?_) _ _) (fun _=> .one jO) fun b hb=> .one hb) fun r hr=> .one hr
 simp only[oL]
 refine .cI (fun _=> .xI fun _ _ _=> .cI (fun _=> .bI (fun r=>eJ r.2.2) ?_ fun r hr=> .cI (fun _=> .one hr) fun _=> .kI fun _=> .one trivial) fun _=> .kI fun _=> .one trivial) fun _=> .one trivial
 unfold qM
 exact .any fun _=> .xI fun _ _ _=> .cI (fun _=> .xI fun a ha _=> .one (hV a ha).2.2) fun _=> .one jO
theorem ada{N:Nat}{c:List Call}{V:List aq}(hV: ∀v∈V,Vr v):Pc (nr N c V) fun r=>eJ r.2.2:=by
 unfold nr rU
 refine .bI (fun r=>eJ r.2.2) (.sI (fun r=>eJ r.2.2) (.it (fun s=>?_) _ _) (fun _=> .one jO) fun b hb=> .one hb) fun r hr=> .one hr
 simp only[oM]
 refine .cI (fun _=> .xI fun _ _ _=> .cI (fun _=> .bI (fun r=>eJ r.2.2) ?_ fun r hr=> .cI (fun _=> .one hr) fun _=> .kI fun _=> .one trivial) fun _=> .kI fun _=> .one trivial) fun _=> .one trivial
 unfold qN
 exact .any fun _=> .xI fun _ _ _=> .xI fun _ _ _=> .cI (fun _=> .xI fun a ha _=> .one (hV a ha).2.1) fun _=> .one jO
theorem af2{N:Nat}{l:List Event}(h: ∀r,ni N l=some r→∀v∈r.2.2.1,Vr v):Pc (iV N l) fun r=>eJ r.2.2.2.1:=by
 unfold iV
 refine .bI (fun r=>∀v∈r.2.2.1,Vr v) h fun a ha=> .cI (fun _=> .one jO) fun _=> .sI (fun r=>eJ r.2.2.2.1) (.kI fun _=> .it (fun s=>?_) _ _) (fun _=> .one jO) fun b hb=> .one hb
 simp only[qY]
 refine .cI (fun _=> .kI fun _=> .bI (fun r=>eJ r.2.2) ?_ fun p hp=>?_) fun _=> .one trivial
 ·exact .cI (fun _=> .any fun _=> .one jO) fun _=> .cI (fun _=> .bI _ (ac' ha) fun r hr=> .one hr) fun _=> .cI (fun _=> .bI _ (ada ha) fun r hr=> .one hr) fun _=> .cI (fun _=> .bI _ (ac_ ha) fun r hr=> .one hr) fun _=> .cI (fun _=> .any fun _=> .one jO) fun _=> .none
 ·obtain⟨k,x,y⟩:=p
  exact .cI (fun _=> .one hp) fun _=> .kI fun _=> .one trivial
theorem ahF{N:Nat}{c:List Call}{p m:List Int}(hc:c.length≤200)(hm: ∀n∈m,eJ n):Pc (kQ N c p m) fun r=>eJ r.1∧eJ r.2.1∧eJ r.2.2:=by
 have hk: ∀k:Int,0≤k∧k≤200→eJ k:=fun k h=>kg (by omega)
 unfold kQ
 refine .sI _ (.it (fun s=>?_) _ _) (fun _=> .sI _ (.it (fun s=>?_) _ _) (fun _=> .sI _ (.it (fun s=>?_) _ _) (fun _=> .one ⟨jO,jO,jO⟩) fun b hb=> .one hb) fun b hb=> .one hb) fun b hb=> .one hb
 ·simp only[ml]
  refine .cI (fun _=> .sI _ (.xI fun a _ ha=> .kI fun _=> .it (fun t=>?_) _ _) (fun _=> .kI fun _=> .one trivial) fun b hb=> .one hb) fun _=> .one trivial
  simp only[mj]
  refine .cI (fun _=> .xI fun b _ hb=> .cI (fun _=> .one ⟨hk 2 (by decide),hk s (by omega),hk t ?_⟩) fun _=> .kI fun _=> .one trivial) fun _=> .one trivial
  rw[List.length_take]at hb
  omega
 ·simp only[mq]
  refine .cI (fun _=> .sI _ (.xI fun a _ ha=> .it (fun t=>?_) _ _) (fun _=> .kI fun _=> .one trivial) fun b hb=> .one hb) fun _=> .one trivial
  simp only[mn]
  exact .cI (fun _=> .xI fun b _ hb=> .cI (fun _=> .one ⟨hk 6 (by decide),hk s (by omega),hk t (by omega)⟩) fun _=> .kI fun _=> .one trivial) fun _=> .one trivial
 ·simp only[mr]
  exact .cI (fun _=> .xI fun a ha _=> .any fun _=> .cI (fun _=> .one ⟨hk 8 (by decide),hm a ha,jO⟩) fun _=> .kI fun _=> .one trivial) fun _=> .one trivial
theorem Ue: ∀{K:List Int} {a:Int},K.Pairwise (· < ·)→(∀n∈K,a≤n∧n≤1000)→K.length≤(1001 - a).toNat
 | [],_,_,_=>Nat.zero_le _
 |x::K,a,hp,h=>by
  have hx:=h x (by simp)
  have:=Ue (a:=x+1) (List.pairwise_cons.1 hp).2 fun n hn=>⟨by have:=(List.pairwise_cons.1 hp).1 n hn;omega,(h n (by simp[hn])).2⟩
  simp only[List.length_cons]
  omega
theorem af3{typ:Int}{s:List Int}{kind arg:Int}{n:List Int}{res:Int}(h:Ob.nx typ s kind arg=some (n,res)): -1≤res∧res≤1000:=by
 obtain⟨hO,hA,hs,_⟩:=Ob.HI h
 have hm: ∀k,-1≤s.getD k 0∧s.getD k 0≤1000:=fun k=>by
  by_cases hk:k < s.length
  ·rw[aW hk]
   have hx:=List.getElem_mem hk
   rcases hO with⟨_,v,e,h1,h2⟩|⟨_,_,h1⟩|⟨_,_,h1,_⟩
   ·have h3: ∀y∈s,y=v:=by rw[e];exact fun y hy=>List.mem_singleton.1 hy
    have:=h3 _ hx
    omega
   ·have:=h1 _ hx;unfold Ob.gH at this;omega
   ·have:=h1 _ hx;unfold Ob.gH at this;omega
  ·rw[List.getD_eq_getElem?_getD,List.getElem?_eq_none (by omega)];decide
 have h0:=hm 0
 have h1:=hm (s.length - 1)
 unfold Ob.oA at hs
 repeat' split at hs
 all_goals first
  |(cases hs;done)
  |(have e:=(Prod.mk.inj (Option.some.inj hs)).2;omega)
  |(have e:=(Prod.mk.inj (Option.some.inj hs)).2;split at e<;>omega)
end Vd
end Go.Proofs.YtjdkkabcenohcaaGreatDoor
