/- What the checks tell, within bounds. -/
import Derived.Test.YtjdkkabcenohcaaGreatDoorP11
import Derived.Test.YtjdkkabcenohcaaGreatDoorP3
import Derived.Test.YtjdkkabcenohcaaGreatDoorP8
set_option linter.unusedVariables false
set_option linter.unusedSimpArgs false
set_option linter.unusedSectionVars false
set_option maxRecDepth 100000
namespace Go.Proofs.YtjdkkabcenohcaaGreatDoor
open Go.RowKit
namespace Vd
def bR(x:Int):Prop:= -9223372036854775808≤x∧x≤9223372036854775807
def Pc{α:Type}(m:Option α)(Q:α→Prop):Prop:=∀r,m=some r→Q r
theorem Pc.one{α:Type}{a:α}{Q:α→Prop}(h:Q a):Pc (some a) Q:=by rintro r ⟨⟩;exact h
theorem Pc.none{α:Type}{Q:α→Prop}:Pc (none:Option α) Q:=by rintro r ⟨⟩
theorem Pc.bI{α β:Type}{m:Option α}{f:α→Option β}{Q:β→Prop}(P:α→Prop)(h:Pc m P)(k: ∀a,P a→Pc (f a) Q):Pc (bd m f) Q:=fun r hr=>by
 obtain⟨a,h1,h2⟩:=aj hr
 exact k a (h a h1) r h2
theorem Pc.any{α β:Type}{m:Option α}{f:α→Option β}{Q:β→Prop}(k: ∀a,Pc (f a) Q):Pc (bd m f) Q:=Pc.bI (fun _=>True) (fun _ _=>trivial) fun a _=>k a
theorem Pc.cI{α:Type}{b:Bool}{x y:Option α}{Q:α→Prop}(h:b=true→Pc x Q)(k:b=false→Pc y Q):Pc (cond b x y) Q:=by
 cases b with
 |true=>exact h rfl
 |false=>exact k rfl
theorem Pc.kI{α:Type}{b:Bool}{x:Option α}{Q:α→Prop}(h:b=true→Pc x Q):Pc (ck b x) Q:=by
 cases b with
 |true=>exact h rfl
 |false=>exact Pc.none
theorem Pc.xI{α β:Type}{l:List α}{i:Int}{f:α→Option β}{Q:β→Prop}(k: ∀a,a∈l→0≤i∧i < l.length→Pc (f a) Q):Pc (bd (ix l i) f) Q:=fun r hr=>by
 obtain⟨a,h1,h2⟩:=aj hr
 unfold Go.Proofs.YtjdkkabcenohcaaGreatDoor.ix at h1
 split at h1
 ·obtain⟨h3,h4⟩:=List.getElem?_eq_some_iff.1 h1
  exact k a (h4▸List.getElem_mem h3) (by omega) r h2
 ·cases h1
theorem Pc.it{σ ρ:Type}{body:σ→Option (σ ⊕ ρ)}{P:ρ→Prop}(h: ∀s,Pc (body s) fun t=>match t with| .inl _=>True| .inr r=>P r): ∀n s,Pc (iter body n s) P
 |0,s=>by rintro r ⟨⟩
 |n+1,s=>fun r hr=>by
  unfold iter at hr
  have h1:=h s
  cases hb:body s with
  |none=>rw[hb]at hr;cases hr
  |some t=>
   rw[hb]at hr
   have h2:=h1 t hb
   cases t with
   |inl s'=>exact Pc.it h n s' r hr
   |inr r'=>cases hr;exact h2
end Vd
namespace Vd
theorem Pc.sI{α β γ:Type}{m:Option (α ⊕ β)}{f:α→Option γ}{g:β→Option γ}{Q:γ→Prop}(P:β→Prop)(h:Pc m fun t=>match t with| .inl _=>True| .inr y=>P y)(hl: ∀a,Pc (f a) Q)(hr: ∀b,P b→Pc (g b) Q):Pc (bd m (Sum.elim f g)) Q:=
 .bI (fun t=>match t with| .inl _=>True| .inr y=>P y) h fun t ht=>by
  cases t with
  |inl a=>exact hl a
  |inr b=>exact hr b ht
def sm(x:Int):Prop:=decide (-1000000≤x∧x≤1000000)=true
theorem sm.xU{x:Int}(h:sm x):bR x:=by
 have:=of_decide_eq_true h
 unfold Vd.bR;omega
theorem N3{N:Nat}{t:List Int}:Pc (bo N t) sm:=by
 unfold bo
 repeat' with_reducible first|apply Pc.one|apply Pc.none|(apply Pc.cI<;>intro _)|(apply Pc.kI;intro _)|(apply Pc.xI;intro _ _ _)|(apply Pc.any;intro _)
 all_goals exact rfl
theorem N4{N:Nat}{t:List Int}{o:List Call}{p:List Int}{i:Int}{v:Event}:Pc (bO N t o p i v) fun r=>sm r.2.2:=by
 unfold bO
 repeat' with_reducible first|apply Pc.one|apply Pc.none|(apply Pc.cI<;>intro _)|(apply Pc.kI;intro _)|(apply Pc.xI;intro _ _ _)|(apply Pc.any;intro _)
 all_goals exact rfl
theorem uO{N:Nat}{t:List Int}{l:List Event}:Pc (bk N t l) fun r=>sm r.2.2:=by
 unfold bk
 refine .bI _ N3 fun a ha=> .cI (fun _=> .one ha) fun _=> .cI (fun _=> .one rfl) fun _=> .sI (fun r=>sm r.2.2) (.it (fun s=>?_) _ _) (fun a=> .one rfl) fun b hb=> .one hb
 obtain⟨o,p,v⟩:=s
 simp only[cZ]
 refine .cI (fun _=> .xI fun a _ _=> .bI _ N4 fun r hr=> .cI (fun _=> .one hr) fun _=> .kI fun _=> .one trivial) fun _=> .one trivial
def Eb(r:List Int×Int):Prop:=bR r.2∧(r.2≠0→r.1= [])∧r.1.length≤1001∧∀n∈r.1,bR n
def Rs(r:Bool×Int×Int×Int×Int):Prop:=bR r.2.1∧bR r.2.2.1∧bR r.2.2.2.1∧bR r.2.2.2.2
theorem N5{N:Nat}{l:List Event}:Pc (lf N l) fun r=>sm r.2:=by
 unfold lf
 refine .bI _ uO fun a ha=> .cI (fun _=> .one ha) fun _=> .sI (fun r=>sm r.2) (.it (fun s=>?_) _ _) (fun a=> .one rfl) fun b hb=> .one hb
 obtain⟨o,v⟩:=s
 simp only[mf]
 repeat' with_reducible first|apply Pc.one|apply Pc.none|(apply Pc.cI<;>intro _)|(apply Pc.kI;intro _)|(apply Pc.xI;intro _ _ _)|(apply Pc.any;intro _)
 all_goals first|trivial|exact rfl
theorem RR{N:Nat}{l:List Event}:Pc (iq N l) fun r=>sm r.2.2.2:=by
 unfold iq
 refine .bI _ uO fun a ha=> .cI (fun _=> .one ha) fun _=> .sI (fun r=>sm r.2.2.2) (.it (fun s=>?_) _ _) (fun a=>?_) fun b hb=> .one hb
 ·obtain⟨o,v⟩:=s
  simp only[j7]
  repeat' with_reducible first|apply Pc.one|apply Pc.none|(apply Pc.cI<;>intro _)|(apply Pc.kI;intro _)|(apply Pc.xI;intro _ _ _)|(apply Pc.any;intro _)
  all_goals first|trivial|exact rfl
 ·repeat' with_reducible first|apply Pc.one|apply Pc.none|(apply Pc.cI<;>intro _)|(apply Pc.kI;intro _)|(apply Pc.xI;intro _ _ _)|(apply Pc.any;intro _)
  all_goals exact rfl
theorem N6{N:Nat}{l:List Event}:Pc (eQ N l) fun r=>sm r.2.2.2.2:=by
 unfold eQ
 refine .bI _ uO fun a ha=> .cI (fun _=> .one ha) fun _=> .any fun p=>?_
 obtain⟨p,m,h⟩:=p
 repeat' with_reducible first|apply Pc.one|apply Pc.none|(apply Pc.cI<;>intro _)|(apply Pc.kI;intro _)|(apply Pc.xI;intro _ _ _)|(apply Pc.any;intro _)
 all_goals exact rfl
end Vd
namespace Vd
open Hs
theorem fd{x:Int}(h: -1000000≤x∧x≤1000000):bR x:=by unfold bR;omega
theorem ua{i n:Nat}(h:i < n)(hn:n≤1000):bR (i:Int):=by unfold bR;omega
theorem eR:bR 0:=fd (by decide)
theorem B4{N:Nat}{types:List Int}{l:List Event}{k:Nat}{c:List Call}{op:List Int}(R:cn N types l k c op){m:Nat}(hm:m < c.length):0≤(c.getD m Call.z).arg∧(c.getD m Call.z).arg≤1000:=by
 have h:=Tx.Iu (Sr.pY R m hm).1
 split at h<;>omega
theorem N7{N:Nat}{l:List Event}:Pc (fk N l) fun r=>sm r.2.2.2.2:=by
 unfold fk
 refine .bI _ N5 fun a ha=> .cI (fun _=> .one ha) fun _=>?_
 refine .any fun _=> .any fun _=> .any fun p=>?_
 obtain⟨k,x,y⟩:=p
 exact .one rfl
theorem RS{N:Nat}{l:List Event}:Pc (dU N l) fun r=>sm r.2.2.2.2:=by
 unfold dU
 refine .bI _ RR fun a ha=> .cI (fun _=> .one ha) fun _=> .sI (fun r=>sm r.2.2.2.2) (.kI fun _=> .it (fun s=>?_) _ _) (fun _=> .one rfl) fun b hb=> .one hb
 simp only[k_]
 refine .cI (fun _=> .kI fun _=> .any fun p=>?_) fun _=> .one trivial
 obtain⟨k,x,y⟩:=p
 exact .cI (fun _=> .one rfl) fun _=> .kI fun _=> .one trivial
theorem JW{N:Nat}{l:List Event}:Pc (ch N l) fun r=>sm r.2.2.2.2:=by
 unfold ch
 exact .bI _ N6 fun a ha=> .cI (fun _=> .one ha) fun _=> .kI fun _=> .any fun _=> .one rfl
theorem RT{N:Nat}{l:List Event}:Pc (dV N l) fun r=>sm r.2:=by
 unfold dV
 refine .any fun _=> .bI _ uO fun a ha=> .cI (fun _=> .one ha) fun _=> .sI (fun r=>sm r.2) (.it (fun s=>?_) _ _) (fun a=> .any fun _=> .one rfl) fun b hb=> .one hb
 obtain⟨k,x⟩:=s
 simp only[mX]
 exact .cI (fun _=> .xI fun _ _ _=> .kI fun _=> .cI (fun _=> .one rfl) fun _=> .kI fun _=> .one trivial) fun _=> .one trivial
theorem N8{N:Nat}(hN:300 < N)(l:List Event):Wp (fk N l) Rs:=by
 obtain⟨⟨b,k,x,y,e⟩,hr,h⟩:=Zo.nN hN l
 refine⟨_,hr,?_⟩
 have he:bR e:=(N7 _ hr).xU
 rcases h with⟨_,_,h2,h3,h4⟩|⟨_,ht,hl,c,op,R,D,_,K⟩
 ·simp only at h2 h3 h4
  subst h2 h3 h4
  exact⟨eR,eR,eR,he⟩
 ·have hc:=R.wf.len
  have hv: ∀v,Zo.mO c v→bR v:=fun v hv=>by
   rcases hv with rfl|⟨i,hi,_,rfl⟩
   ·exact eR
   ·exact fd (by have:=B4 R hi;omega)
  rcases K with⟨hk,i,hi,hxy⟩|⟨_,⟨hk,i,j,hi,hxy⟩|⟨_,⟨hk,ht,_⟩|⟨_,⟨hk,ht,_⟩|⟨_,hk⟩⟩⟩⟩
  ·have hk:k=1:=hk
   cases hxy
   exact⟨by rw[hk];exact fd (x:=1) (by decide),ua hi.1 (by omega),eR,he⟩
  ·have hk:k=3:=hk
   cases hxy
   exact⟨by rw[hk];exact fd (x:=3) (by decide),ua hi.1 (by omega),ua hi.2.1 (by omega),he⟩
  ·have hk:k=4:=hk
   exact⟨by rw[hk];exact fd (x:=4) (by decide),hv _ ht.2.1,hv _ ht.2.2.1,he⟩
  ·have hk:k=5:=hk
   exact⟨by rw[hk];exact fd (x:=5) (by decide),hv _ ht.2.1,hv _ ht.2.2.1,he⟩
  ·cases hk
   exact⟨eR,eR,eR,he⟩
def Vr(v:ab):Prop:=bR v.n∧bR v.jq∧bR v.f_
theorem RU{N:Nat}{c:List Call}{V:List ab}(hV: ∀v∈V,Vr v):Pc (iw N c V) fun r=>bR r.2.2:=by
 unfold iw
 refine .sI (fun r=>bR r.2.2) (.it (fun s=>?_) _ _) (fun _=> .one eR) fun b hb=> .one hb
 simp only[ju]
 refine .cI (fun _=> .sI (fun r=>bR r.2.2) (.xI fun a ha _=> .it (fun s=>?_) _ _) (fun _=> .kI fun _=> .one trivial) fun b hb=> .one hb) fun _=> .one trivial
 simp only[jt]
 exact .cI (fun _=> .xI fun b hb _=> .any fun _=> .cI (fun _=> .one (hV b hb).1) fun _=> .kI fun _=> .one trivial) fun _=> .one trivial
theorem RV{N:Nat}{c:List Call}{V:List ab}(hV: ∀v∈V,Vr v):Pc (iu N c V) fun r=>bR r.2.2:=by
 unfold iu lx
 refine .bI (fun r=>bR r.2.2) (.sI (fun r=>bR r.2.2) (.it (fun s=>?_) _ _) (fun _=> .one eR) fun b hb=> .one hb) fun r hr=> .one hr
 simp only[jr]
 refine .cI (fun _=> .xI fun _ _ _=> .cI (fun _=> .bI (fun r=>bR r.2.2) ?_ fun r hr=> .cI (fun _=> .one hr) fun _=> .kI fun _=> .one trivial) fun _=> .kI fun _=> .one trivial) fun _=> .one trivial
 unfold kO
 exact .any fun _=> .xI fun _ _ _=> .cI (fun _=> .xI fun a ha _=> .one (hV a ha).2.2) fun _=> .one eR
theorem RX{N:Nat}{c:List Call}{V:List ab}(hV: ∀v∈V,Vr v):Pc (iv N c V) fun r=>bR r.2.2:=by
 unfold iv ly
 refine .bI (fun r=>bR r.2.2) (.sI (fun r=>bR r.2.2) (.it (fun s=>?_) _ _) (fun _=> .one eR) fun b hb=> .one hb) fun r hr=> .one hr
 simp only[js]
 refine .cI (fun _=> .xI fun _ _ _=> .cI (fun _=> .bI (fun r=>bR r.2.2) ?_ fun r hr=> .cI (fun _=> .one hr) fun _=> .kI fun _=> .one trivial) fun _=> .kI fun _=> .one trivial) fun _=> .one trivial
 unfold kQ
 exact .any fun _=> .xI fun _ _ _=> .xI fun _ _ _=> .cI (fun _=> .xI fun a ha _=> .one (hV a ha).2.1) fun _=> .one eR
theorem Vx{N:Nat}{l:List Event}(h: ∀r,iq N l=some r→∀v∈r.2.2.1,Vr v):Pc (dU N l) fun r=>bR r.2.2.2.1:=by
 unfold dU
 refine .bI (fun r=>∀v∈r.2.2.1,Vr v) h fun a ha=> .cI (fun _=> .one eR) fun _=> .sI (fun r=>bR r.2.2.2.1) (.kI fun _=> .it (fun s=>?_) _ _) (fun _=> .one eR) fun b hb=> .one hb
 simp only[k_]
 refine .cI (fun _=> .kI fun _=> .bI (fun r=>bR r.2.2) ?_ fun p hp=>?_) fun _=> .one trivial
 ·exact .cI (fun _=> .any fun _=> .one eR) fun _=> .cI (fun _=> .bI _ (RV ha) fun r hr=> .one hr) fun _=> .cI (fun _=> .bI _ (RX ha) fun r hr=> .one hr) fun _=> .cI (fun _=> .bI _ (RU ha) fun r hr=> .one hr) fun _=> .cI (fun _=> .any fun _=> .one eR) fun _=> .none
 ·obtain⟨k,x,y⟩:=p
  exact .cI (fun _=> .one hp) fun _=> .kI fun _=> .one trivial
theorem RY{N:Nat}(hN:300 < N)(l:List Event):Wp (dU N l) Rs:=by
 obtain⟨⟨b,k,x,y,e⟩,hr,h⟩:=Rw.rH hN l
 refine⟨_,hr,?_⟩
 have he:bR e:=(RS _ hr).xU
 rcases h with⟨_,h⟩|⟨_,ht,hl,c,op,R,C,h⟩
 ·cases h
  exact⟨eR,eR,eR,he⟩
 ·have hc:=R.wf.len
  have hb:bR y:=by
   refine Vx (fun r hr2 v hv=>?_) _ hr
   obtain⟨r',hr',h'⟩:=Rw.uN hN ht hl R
   rw[hr2]at hr'
   cases hr'
   rcases h' with⟨_,rfl⟩|⟨_,_,_,_,hV⟩
   ·cases hv
   ·obtain⟨i,h1,h2,_,h3,h4⟩:=hV.mem v hv
    refine⟨?_,?_,?_⟩
    ·rw[←h3];exact fd (by have:=B4 R h2;omega)
    ·rw[h1];exact ua h2 (by omega)
    ·rcases h4 with⟨h4,_⟩|⟨d,h4,h5⟩
     ·rw[h4];exact fd (by decide)
     ·rw[h4];exact ua h5.1 (by omega)
  have hk: ∀k:Int,0≤k∧k≤9→bR k:=fun k h=>fd (by omega)
  rcases h with⟨h,_⟩|⟨i,b',h,hi⟩|⟨i,b',h,hi,_⟩|⟨i,b',h,hi,_⟩|⟨i,j,h,hi,_⟩|⟨i,b',h,hi,_⟩
  ·cases h;exact⟨eR,eR,eR,he⟩
  ·cases h;exact⟨hk 1 (by decide),ua hi.lt (by omega),hb,he⟩
  ·cases h;exact⟨hk 2 (by decide),ua hi.lt (by omega),hb,he⟩
  ·cases h;exact⟨hk 3 (by decide),ua hi.lt (by omega),hb,he⟩
  ·cases h;exact⟨hk 6 (by decide),fd (x:=(c.getD i Call.z).arg) (by have:=B4 R hi.la;omega),hb,he⟩
  ·cases h;exact⟨hk 7 (by decide),ua hi.lt (by omega),hb,he⟩
theorem W0{N:Nat}{c:List Call}{p m:List Int}(hc:c.length≤200)(hm: ∀n∈m,bR n):Pc (fI N c p m) fun r=>bR r.1∧bR r.2.1∧bR r.2.2:=by
 have hk: ∀k:Int,0≤k∧k≤200→bR k:=fun k h=>fd (by omega)
 unfold fI
 refine .sI _ (.it (fun s=>?_) _ _) (fun _=> .sI _ (.it (fun s=>?_) _ _) (fun _=> .sI _ (.it (fun s=>?_) _ _) (fun _=> .one ⟨eR,eR,eR⟩) fun b hb=> .one hb) fun b hb=> .one hb) fun b hb=> .one hb
 ·simp only[gU]
  refine .cI (fun _=> .sI _ (.xI fun a _ ha=> .kI fun _=> .it (fun t=>?_) _ _) (fun _=> .kI fun _=> .one trivial) fun b hb=> .one hb) fun _=> .one trivial
  simp only[gQ]
  refine .cI (fun _=> .xI fun b _ hb=> .cI (fun _=> .one ⟨hk 2 (by decide),hk s (by omega),hk t ?_⟩) fun _=> .kI fun _=> .one trivial) fun _=> .one trivial
  rw[List.length_take]at hb
  omega
 ·simp only[gW]
  refine .cI (fun _=> .sI _ (.xI fun a _ ha=> .it (fun t=>?_) _ _) (fun _=> .kI fun _=> .one trivial) fun b hb=> .one hb) fun _=> .one trivial
  simp only[gV]
  exact .cI (fun _=> .xI fun b _ hb=> .cI (fun _=> .one ⟨hk 6 (by decide),hk s (by omega),hk t (by omega)⟩) fun _=> .kI fun _=> .one trivial) fun _=> .one trivial
 ·simp only[gX]
  exact .cI (fun _=> .xI fun a ha _=> .any fun _=> .cI (fun _=> .one ⟨hk 8 (by decide),hm a ha,eR⟩) fun _=> .kI fun _=> .one trivial) fun _=> .one trivial
theorem JX{N:Nat}(hN:5000 < N)(l:List Event):Wp (ch N l) Rs:=by
 obtain⟨⟨b,k,x,y,e⟩,hr,h⟩:=Tk.nN hN l
 refine⟨_,hr,?_⟩
 have he:bR e:=(JW _ hr).xU
 suffices h:bR k∧bR x∧bR y from⟨h.1,h.2.1,h.2.2,he⟩
 obtain⟨⟨c,a,er⟩,h1,h2⟩:=lR (N:=N) (types:=[5]) (l:=l) (by omega)
 have:Pc (ch N l) fun r=>bR r.2.1∧bR r.2.2.1∧bR r.2.2.2.1:=by
  unfold ch
  refine .bI (fun r=>r.2.2.2.2=0→r.2.1.length≤200∧∀n∈r.2.2.2.1,bR n) (fun r hr=>?_) fun a ha=> .cI (fun _=> .one ⟨eR,eR,eR⟩) fun h0=> .kI fun _=>?_
  ·by_cases h0:er=0
   ·subst h0
    obtain⟨ht,_,hl,_,op,R⟩:=h2 rfl
    have R:cn N [5] l l.length c op:=R
    have hlen:=R.wf.len
    have hrs:=(Tk.Vo R).res
    have:=Tk.yV hN h1 (by omega) fun i hi=>(hrs i hi).2
    rw[hr]at this
    cases this
    refine fun _=>⟨show c.length≤200 by omega,fun n hn=>?_⟩
    obtain⟨m,hm,rfl,_⟩:=Tk.xM.1 hn
    have:=Tk.El (fun i hi=>(hrs i hi).2) c.length (Nat.le_refl _)
    exact fd (by omega)
   ·intro h3
    have:eQ N l=some (false,[],[],[],er):=by
     unfold eQ
     exact Wp.eq (.aZ h1 (.aF (by simpa using h0) (.one rfl)))
    rw[hr]at this
    cases this
    exact absurd h3 h0
  ·obtain⟨hc,hm⟩:=ha (by simpa using h0)
   exact .bI _ (W0 hc hm) fun r h=> .one h
 exact this _ hr
theorem Iw: ∀{K:List Int} {a:Int},K.Pairwise (· < ·)→(∀n∈K,a≤n∧n≤1000)→K.length≤(1001 - a).toNat
 | [],_,_,_=>Nat.zero_le _
 |x::K,a,hp,h=>by
  have hx:=h x (by simp)
  have:=Iw (a:=x+1) (List.pairwise_cons.1 hp).2 fun n hn=>⟨by have:=(List.pairwise_cons.1 hp).1 n hn;omega,(h n (by simp[hn])).2⟩
  simp only[List.length_cons]
  omega
theorem RZ{N:Nat}(hN:300 < N)(l:List Event):Wp (dV N l) Eb:=by
 obtain⟨⟨n,e⟩,hr,h⟩:=Bg.nN hN l
 refine⟨_,hr,(RT _ hr).xU,?_⟩
 rcases h with⟨h0,h⟩|⟨h0,_,_,c,op,R,_,K,hp,hm,h⟩
 ·have h:n= []:=h
  subst h
  exact⟨fun _=>rfl,by simp,by simp⟩
 ·have hK: ∀n∈K,0≤n∧n≤1000:=fun n hn=>by
   obtain⟨i,hi,rfl⟩:=(hm n).1 hn
   exact B4 R hi
  have hl:=Iw hp hK
  have h:n=K.filter fun n=>!Bg.okF N l n:=h
  subst h
  refine⟨fun h=>absurd h0 h,Nat.le_trans (List.length_filter_le _ _) (by omega),fun x hx=>?_⟩
  have:=hK x (List.mem_filter.1 hx).1
  exact fd (by omega)
theorem Vy{typ:Int}{s:List Int}{kind arg:Int}{n:List Int}{res:Int}(h:Ob.nx typ s kind arg=some (n,res)): -1≤res∧res≤1000:=by
 obtain⟨hO,hA,hs,_⟩:=Ob.Jn h
 have hm: ∀k,-1≤s.getD k 0∧s.getD k 0≤1000:=fun k=>by
  by_cases hk:k < s.length
  ·rw[aG hk]
   have hx:=List.getElem_mem hk
   rcases hO with⟨_,v,e,h1,h2⟩|⟨_,_,h1⟩|⟨_,_,h1,_⟩
   ·have h3: ∀y∈s,y=v:=by rw[e];exact fun y hy=>List.mem_singleton.1 hy
    have:=h3 _ hx
    omega
   ·have:=h1 _ hx;unfold Ob.gq at this;omega
   ·have:=h1 _ hx;unfold Ob.gq at this;omega
  ·rw[List.getD_eq_getElem?_getD,List.getElem?_eq_none (by omega)];decide
 have h0:=hm 0
 have h1:=hm (s.length - 1)
 unfold Ob.iH at hs
 repeat' split at hs
 all_goals first
  |(cases hs;done)
  |(have e:=(Prod.mk.inj (Option.some.inj hs)).2;omega)
  |(have e:=(Prod.mk.inj (Option.some.inj hs)).2;split at e<;>omega)
end Vd
end Go.Proofs.YtjdkkabcenohcaaGreatDoor
