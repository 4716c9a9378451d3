/- Answers, plainly. -/
import Derived.Test.YtjdkkabcenohcaaGreatDoorP14
set_option linter.unusedVariables false
set_option linter.unusedSimpArgs false
set_option linter.unusedSectionVars false
set_option maxRecDepth 100000
namespace Go.Proofs.YtjdkkabcenohcaaGreatDoor
open Go.RowKit
namespace Vd
open Tx Hs Sr
theorem VV{c:UInt8}: ∀{a b u v:List UInt8},c∉a→c∉b→a++c::u=b++c::v→a=b∧u=v
 | [],[],u,v,_,_,h=>⟨rfl,by simpa using h⟩
 | [],y::b,u,v,_,hb,h=>by
  simp only[List.nil_append,List.cons_append,List.cons.injEq]at h
  exact absurd (by rw[h.1];simp) hb
 |x::a,[],u,v,ha,_,h=>by
  simp only[List.nil_append,List.cons_append,List.cons.injEq]at h
  exact absurd (by rw[←h.1];simp) ha
 |x::a,y::b,u,v,ha,hb,h=>by
  simp only[List.cons_append,List.cons.injEq]at h
  have:=VV (fun hh=>ha (by simp[hh])) (fun hh=>hb (by simp[hh])) h.2
  exact⟨by rw[h.1,this.1],this.2⟩
def Sh(L:List (List Pt)):Prop:=∀ps∈L,∃h p r,ps= .s h::p::r∧(32:UInt8)∉bs h
def cX(x:ByteArray):List (List Pt)→Option (List UInt8)
 | []=>none
 |(.s h::r)::L=>if h=x then some (jn 32 (r.map eM))else cX x L
 |_::L=>cX x L
theorem uU{x:ByteArray}{r:List Pt}{L:List (List Pt)}:cX x ((.s x::r)::L)=some (jn 32 (r.map eM)):=by
 unfold cX;rw[if_pos rfl]
theorem l'{x h:ByteArray}{r:List Pt}{L:List (List Pt)}(hn:h≠x):cX x ((.s h::r)::L)=cX x L:=by
 conv=>lhs;unfold cX
 rw[if_neg hn]
theorem GS{x:ByteArray}: ∀{L:List (List Pt)},(∀ps∈L,∃h p r,ps= .s h::p::r∧h≠x)→cX x L=none
 | [],_=>rfl
 |ps::L,h=>by
  obtain⟨y,p,r,rfl,hn⟩:=h ps (by simp)
  rw[l' hn]
  exact GS fun q hq=>h q (by simp[hq])
theorem Oc{h x:ByteArray}{p:Pt}{r:List Pt}(h1:(32:UInt8)∉bs h)(h2:(32:UInt8)∉bs x):Lib.hasPrefix (jn 32 ((.s h::p::r:List Pt).map eM)) (bs x++[32])=decide (h=x):=by
 have e:jn 32 ((.s h::p::r:List Pt).map eM)=bs h++32::jn 32 ((p::r).map eM):=pj (r:=(p::r).map eM) (by simp)
 rw[e]
 unfold Lib.hasPrefix
 by_cases e:h=x
 ·subst e
  rw[decide_eq_true rfl]
  exact List.isPrefixOf_iff_prefix.2 ⟨jn 32 ((p::r).map eM),by simp only[List.append_assoc,List.cons_append,List.nil_append]⟩
 ·rw[decide_eq_false e]
  cases hb:(bs x++[32]).isPrefixOf (bs h++32::jn 32 ((p::r).map eM))with
  |false=>rfl
  |true=>
   obtain⟨z,hz⟩:=List.isPrefixOf_iff_prefix.1 hb
   rw[List.append_assoc,List.singleton_append]at hz
   exact absurd (KR (VV h2 h1 hz).1.symm) e
def xY:Option (List UInt8)→ByteArray×Bool
 |some t=>(Tx.fj t,true)
 |none=>(⟨#[]⟩,false)
theorem LR{N:Nat}{o x:ByteArray}{L:List (List Pt)}(hN:5000 < N)(ho:bs o=lc L)(hk:zD L)(hs:Sh L)(hx:(32:UInt8)∉bs x)(hxs:x.size≤100)(hl:L.length≤10)(hz:o.size≤4000000):
  eL N o x=some (xY (cX x L)):=by
 have hsp:eX 10 (bs o)=L.map (fun ps=>jn 32 (ps.map eM))++[[]]:=by
  have e:lc L=(L.map fun ps=>jn 32 (ps.map eM)).flatMap (· ++[10])++[]:=by
   simp only[lc,List.append_nil,List.flatMap_map];rfl
  rw[ho,e,Du [] fun y hy=>?_]
  ·rfl
  ·obtain⟨ps,hps,rfl⟩:=List.mem_map.1 hy
   exact Se (hk ps hps)
 unfold eL
 refine Wp.eq (.elim (P:=fun t=>match t with| .inl _=>cX x L=none| .inr r=>∃t,cX x L=some t∧r=(Tx.fj t,true)) (.aZ (vr 10 (by omega)) ?_) (fun _ _ h=> .one (by rw[h];rfl)) (fun r _ ⟨t,h,hr⟩=> .one (by rw[h,hr];rfl)))
 rw[hsp]
 have hlen:((L.map (fun ps:List Pt=>jn 32 (ps.map eM))++[[]]).map Tx.fj).length=L.length+1:=by simp
 have Yo:(x++(⟨#[32]⟩:ByteArray)).data.toList=bs x++[32]:=uz _ _
 refine .iter (L.length+1) (fun k v=>v=(k:Int)∧cX x L=cX x (L.drop k)) (by omega) ⟨rfl,rfl⟩ ?_ ?_
 ·rintro k v hk2 ⟨rfl,ha⟩
  simp only[l_]
  refine .aF (decide_eq_true (by rw[hlen];omega)) ?_
  by_cases h:k < L.length
  ·have hm:=List.getElem_mem h
   obtain⟨y,p,r,e,h32⟩:=hs _ hm
   have hd:=List.drop_eq_getElem_cons h
   rw[e]at hd
   refine .aZ (a:=Tx.fj (jn 32 ((.s y::p::r:List Pt).map eM))) (by rw[AZ,List.getElem?_map,List.getElem?_append_left (by simpa using h),List.getElem?_map,List.getElem?_eq_getElem h,e];rfl) (.ck (by unfold I';exact decide_eq_true (by have:(⟨#[32]⟩:ByteArray).size=1:=rfl;omega)) (.aZ rfl ?_))
   have hp:=Oc (p:=p) (r:=r) h32 hx
   have hb2:(Tx.fj (jn 32 ((.s y::p::r:List Pt).map eM))).data.toList=jn 32 ((.s y::p::r:List Pt).map eM):=gf _
   simp only[Yo,hb2]
   refine .cond (fun hc=> .one ⟨jn 32 ((p::r).map eM),?_,?_⟩) fun hc=> .aV (by omega) (.one ⟨by simp,?_⟩)
   ·rw[hp]at hc
    have:=of_decide_eq_true hc
    subst this
    rw[ha,hd,uU]
   ·unfold Lib.trimPrefix
    rw[if_pos hc]
    rw[hp]at hc
    have:=of_decide_eq_true hc
    subst this
    congr 1
    have e:jn 32 ((.s y::p::r:List Pt).map eM)=bs y++[32]++jn 32 ((p::r).map eM):=by rw[List.append_assoc];exact pj (r:=(p::r).map eM) (by simp)
    rw[e,List.drop_left]
    rfl
   ·rw[hp]at hc
    rw[ha,hd,l' (of_decide_eq_false hc)]
  ·have LS:k=L.length:=by omega
   subst LS
   refine .aZ (a:=Tx.fj []) (by rw[AZ,List.getElem?_map,List.getElem?_append_right (by simp)];simp) (.ck (by unfold I';exact decide_eq_true (by have:(⟨#[32]⟩:ByteArray).size=1:=rfl;omega)) (.aZ rfl ?_))
   have hf:Lib.hasPrefix (Tx.fj []).data.toList (x++(⟨#[32]⟩:ByteArray)).data.toList=false:=by
    rw[Yo]
    show(bs x++[32]).isPrefixOf []=false
    cases bs x<;>rfl
   exact .aw hf (.aV (by omega) (.one ⟨by simp,by rw[ha,List.drop_of_length_le (Nat.le_refl _),List.drop_of_length_le (by omega)]⟩))
 ·rintro v ⟨rfl,ha⟩
  simp only[l_]
  exact .aw (decide_eq_false (by rw[hlen];omega)) (.one (by rw[ha,List.drop_of_length_le (by omega)];rfl))
theorem LT{N:Nat}{typ:Int}{l:List Event}{S:List (List Pt)}(h:LQ N typ l S): ∀ps∈S,∃p r,ps= .s wB::p::r:=by
 have hb: ∀ok b e,∃p r,zF ok b e= .s wB::p::r:=fun ok b e=>by
  unfold zF
  split
  ·exact⟨_,_,rfl⟩
  ·split<;>exact⟨_,_,rfl⟩
 intro ps hps
 rcases h with⟨_,q,_,rfl⟩|⟨_,q,_,rfl⟩|⟨_,q,_,rfl⟩|⟨_,q,_,rfl⟩|⟨_,_,_,_,rfl⟩
 ·rw[List.mem_singleton.1 hps];exact hb ..
 ·rw[List.mem_singleton.1 hps];exact hb ..
 ·rw[List.mem_singleton.1 hps];exact hb ..
 ·rw[List.mem_singleton.1 hps]
  unfold GR
  split
  ·exact⟨_,_,rfl⟩
  ·split
   ·exact⟨_,_,rfl⟩
   ·rename_i hn
    cases hq:q.1 with
    |nil=>exact absurd hq hn
    |cons a r=>exact⟨_,_,rfl⟩
 ·cases hps
theorem VW{N:Nat}{s:ByteArray}{L:List (List Pt)}(hS:Ym N s L):Sh L∧L.length≤10:=by
 rcases hS with⟨e,a,_,_,rfl⟩|⟨types,l,c,op,W,S,_,_,_,_,hW,hT,rfl⟩
 ·refine⟨fun ps hps=>?_,by simp⟩
  rw[List.mem_singleton.1 hps]
  exact⟨_,_,_,rfl,by decide⟩
 ·constructor
  ·intro ps hps
   rcases List.mem_cons.1 hps with rfl|hps
   ·exact⟨_,_,_,rfl,by decide⟩
   rcases List.mem_append.1 hps with hps|hps
   ·rcases hW with⟨_,_,⟨w,b,x,b2,y,b3,_,_,_,_,rfl⟩,_⟩|⟨_,rfl⟩
    ·simp only[GP,List.mem_cons,List.not_mem_nil,or_false]at hps
     rcases hps with rfl|rfl|rfl
     ·exact⟨_,_,_,rfl,by decide⟩
     ·exact⟨_,_,_,rfl,by decide⟩
     ·exact⟨_,_,_,rfl,by decide⟩
    ·cases hps
   ·rcases hT with⟨_,h,_⟩|⟨_,rfl⟩
    ·obtain⟨p,r,rfl⟩:=LT h ps hps
     exact⟨_,_,_,rfl,by decide⟩
    ·cases hps
  ·rw[List.length_cons,List.length_append]
   have:W.length≤3:=by
    rcases hW with⟨_,_,_,h⟩|⟨_,rfl⟩
    ·omega
    ·simp
   have:S.length≤1:=by
    rcases hT with⟨_,_,h⟩|⟨_,rfl⟩
    ·exact h
    ·simp
   omega
theorem PE{b:Bool}{r:List Pt}{N:Nat}:nY N (Tx.fj (jn 32 ((.s (yN b)::r:List Pt).map eM))) (⟨#[121]⟩:ByteArray)=some b:=by
 unfold nY
 refine congrArg some (show Lib.hasPrefix (bs (Tx.fj _)) [121]=b from ?_)
 rw[gf,List.map_cons,yG]
 cases b<;>rfl
end Vd
end Go.Proofs.YtjdkkabcenohcaaGreatDoor
