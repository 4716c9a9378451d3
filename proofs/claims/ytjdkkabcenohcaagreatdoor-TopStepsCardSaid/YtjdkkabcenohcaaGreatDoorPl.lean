import Derived.Test.YtjdkkabcenohcaaGreatDoorNest
set_option linter.unusedVariables false
set_option linter.unusedSimpArgs false
namespace Go.Proofs.YtjdkkabcenohcaaGreatDoor
section
variable {α β σ ρ:Type}
theorem bZ(a:α)(f:α→Option β):bd (some a) f=f a:=rfl
theorem jr{b:Bool}{x:Option α}(h:b=true):ck b x=x:=by subst h;rfl
theorem ahc{m:Option α}{a:α}{f:α→Option β}(h:m=some a):bd m f=f a:=by subst h;rfl
theorem et{b:Bool}{x y:α}(h:b=true):cond b x y=x:=by subst h;rfl
theorem eH{b:Bool}{x y:α}(h:b=false):cond b x y=y:=by subst h;rfl
theorem SY{z:Int}(h: -9223372036854775808≤z∧z≤9223372036854775807):bB z=true:=by simpa[bB]using h
theorem bK{z:Int}{x:Option α}(h: -9223372036854775808≤z∧z≤9223372036854775807):ck (bB z) x=x:=jr (SY h)
theorem eT{b n:Nat}(h:n≤maxLen∧n * b≤140737488355328):eY b n=true:=by simpa[eY]using h
theorem O0{b n:Nat}{x:Option α}(h:n * b≤140737488355328)(h1:n≤140737488355328):ck (eY b n) x=x:=jr (eT ⟨Nat.le_trans h1 (by unfold maxLen;decide),h⟩)
theorem aed{b:Nat}{k:Int}(h0:0≤k)(h:b * k.toNat≤140737488355328)(h1:k.toNat≤140737488355328):jS b k=true:=by simp only[jS,decide_eq_true_eq];exact⟨h0,Nat.le_trans h1 (by unfold maxLen;decide),h⟩
theorem O3(l:List α)(k:Nat):ix l (k:Int)=l[k]? :=by unfold ix;rw[if_pos (by omega)];simp
theorem El{l:List α}{k:Nat}(h:k < l.length):ix l (k:Int)=some l[k]:=by rw[O3,List.getElem?_eq_getElem h]
theorem wk{l:List α}{i:Int}(h0:0≤i)(h:i < l.length):ix l i=some (l[i.toNat]'(by omega)):=by
 unfold ix;rw[if_pos h0,List.getElem?_eq_getElem]
theorem abp{n:Nat}{d:α}{a:List α}{k:Nat}(h:k < n):ax n d a (k:Int)=some (a.getD k d):=by unfold ax;rw[if_pos (by omega)];simp
theorem Ws{n:Nat}{d:α}{a:List α}{i:Int}(h0:0≤i)(h:i < n):ax n d a i=some (a.getD i.toNat d):=by unfold ax;rw[if_pos ⟨h0,h⟩]
theorem SZ{body:σ→Option (σ ⊕ ρ)}(f:Nat→σ)(r:ρ): ∀(n:Nat) (s:σ),s=f 0→(∀k,k < n→body (f k)=some (.inl (f (k+1))))→body (f n)=some (.inr r)→∀N,n < N→iter body N s=some r
 |0,s,hs,_,he,N,hN=>by
  obtain⟨M,rfl⟩: ∃M,N=M+1:=⟨N - 1,by omega⟩
  subst hs
  simp only[iter,he]
 |n+1,s,hs,h,he,N,hN=>by
  obtain⟨M,rfl⟩: ∃M,N=M+1:=⟨N - 1,by omega⟩
  subst hs
  simp only[iter,h 0 (by omega)]
  exact SZ (fun k=>f (k+1)) r n (f 1) rfl (fun k hk=>h (k+1) (by omega)) he M (by omega)
theorem S1{body:σ→Option (σ ⊕ ρ)}(I:σ→Prop)(Post:ρ→Prop)(m:σ→Nat)(h: ∀s,I s→(∃s',body s=some (.inl s')∧I s'∧m s' < m s)∨(∃r,body s=some (.inr r)∧Post r)): ∀(N:Nat) (s:σ),I s→m s < N→∃r,iter body N s=some r∧Post r
 |0,_,_,hN=>absurd hN (Nat.not_lt_zero _)
 |N+1,s,hI,hN=>by
  rcases h s hI with⟨s',h1,h2,h3⟩|⟨r,h1,h2⟩
  ·simp only[iter,h1]
   exact S1 I Post m h N s' h2 (by omega)
  ·exact⟨r,by simp only[iter,h1],h2⟩
def Wp(m:Option α)(Q:α→Prop):Prop:=∃r,m=some r∧Q r
theorem Wp.one{a:α}{Q:α→Prop}(h:Q a):Wp (some a) Q:=⟨a,rfl,h⟩
theorem Wp.of{m:Option α}{a:α}{Q:α→Prop}(h:m=some a)(hq:Q a):Wp m Q:=⟨a,h,hq⟩
theorem Wp.bd{m:Option α}{f:α→Option β}{Q:β→Prop}(h:Wp m fun a=>Wp (f a) Q):Wp (bd m f) Q:=by
 obtain⟨a,h1,b,h2,h3⟩:=h
 exact⟨b,by rw[h1];exact h2,h3⟩
theorem Wp.seq{m:Option α}{f:α→Option β}{P:α→Prop}{Q:β→Prop}(h:Wp m P)(h2: ∀a,m=some a→P a→Wp (f a) Q):Wp (Proofs.YtjdkkabcenohcaaGreatDoor.bd m f) Q:=by
 obtain⟨a,h1,hp⟩:=h
 obtain⟨b,hb,hq⟩:=h2 a h1 hp
 exact⟨b,by rw[h1];exact hb,hq⟩
theorem Wp.bD{m:Option α}{a:α}{f:α→Option β}{Q:β→Prop}(h:m=some a)(h2:Wp (f a) Q):Wp (Proofs.YtjdkkabcenohcaaGreatDoor.bd m f) Q:=by subst h;exact h2
theorem Wp.ck{b:Bool}{x:Option α}{Q:α→Prop}(h:b=true)(h2:Wp x Q):Wp (ck b x) Q:=by subst h;exact h2
theorem Wp.bK{z:Int}{x:Option α}{Q:α→Prop}(h: -9223372036854775808≤z∧z≤9223372036854775807)(h2:Wp x Q):Wp (Proofs.YtjdkkabcenohcaaGreatDoor.ck (bB z) x) Q:= .ck (SY h) h2
theorem Wp.cond{b:Bool}{x y:Option α}{Q:α→Prop}(h:b=true→Wp x Q)(h2:b=false→Wp y Q):Wp (_root_.cond b x y) Q:=by
 cases b with
 |true=>exact h rfl
 |false=>exact h2 rfl
theorem Wp.bg{b:Bool}{x y:Option α}{Q:α→Prop}(hb:b=true)(h:Wp x Q):Wp (_root_.cond b x y) Q:=by subst hb;exact h
theorem Wp.aL{b:Bool}{x y:Option α}{Q:α→Prop}(hb:b=false)(h:Wp y Q):Wp (_root_.cond b x y) Q:=by subst hb;exact h
theorem Wp.ix{l:List α}{k:Nat}{f:α→Option β}{Q:β→Prop}(h:k < l.length)(h2:Wp (f l[k]) Q):Wp (Proofs.YtjdkkabcenohcaaGreatDoor.bd (Proofs.YtjdkkabcenohcaaGreatDoor.ix l (k:Int)) f) Q:= .bD (El h) h2
theorem aW{l:List α}{k:Nat}{d:α}(h:k < l.length):l.getD k d=l[k]:=by rw[List.getD_eq_getElem?_getD,List.getElem?_eq_getElem h];rfl
theorem Wp.fL(d:α){l:List α}{i:Int}{f:α→Option β}{Q:β→Prop}(h0:0≤i)(h:i < l.length)(h2:Wp (f (l.getD i.toNat d)) Q):Wp (Proofs.YtjdkkabcenohcaaGreatDoor.bd (Proofs.YtjdkkabcenohcaaGreatDoor.ix l i) f) Q:= .bD (by rw[wk h0 h,aW]) h2
theorem Wp.ax{n:Nat}{d:α}{a:List α}{i:Int}{f:α→Option β}{Q:β→Prop}(h0:0≤i)(h:i < n)(h2:Wp (f (a.getD i.toNat d)) Q):Wp (Proofs.YtjdkkabcenohcaaGreatDoor.bd (Proofs.YtjdkkabcenohcaaGreatDoor.ax n d a i) f) Q:= .bD (Ws h0 h) h2
theorem Wp.S3{n:Nat}{d:α}{a:List α}{k:Nat}{f:α→Option β}{Q:β→Prop}(h:k < n)(h2:Wp (f (a.getD k d)) Q):Wp (Proofs.YtjdkkabcenohcaaGreatDoor.bd (Proofs.YtjdkkabcenohcaaGreatDoor.ax n d a (k:Int)) f) Q:= .bD (abp h) h2
theorem Wp.ixV{l:List α}{k:Nat}{Q:α→Prop}(h:k < l.length)(h2:Q l[k]):Wp (Proofs.YtjdkkabcenohcaaGreatDoor.ix l (k:Int)) Q:=⟨_,El h,h2⟩
theorem Wp.mono{m:Option α}{P Q:α→Prop}(h:Wp m P)(h2: ∀a,P a→Q a):Wp m Q:=by
 obtain⟨a,h1,hp⟩:=h
 exact⟨a,h1,h2 a hp⟩
theorem Wp.eq{m:Option α}{a:α}(h:Wp m (· =a)):m=some a:=by
 obtain⟨b,h1,rfl⟩:=h
 exact h1
theorem Wp.gd{b:Bool}{m:Option α}{d:α}{f:α→Option β}{Q:β→Prop}(a:α)(h:b=true→m=some a)(h2: ∀x,(b=true→x=a)→Wp (f x) Q):Wp (Proofs.YtjdkkabcenohcaaGreatDoor.bd (_root_.cond b m (some d)) f) Q:=by
 cases b with
 |true=>exact .bD (a:=a) (h rfl) (h2 a fun _=>rfl)
 |false=>exact h2 d fun h=>by cases h
theorem Wp.MU(e:α){b:Bool}{l:List α}{i:Int}{d:α}{f:α→Option β}{Q:β→Prop}(h:b=true→0≤i∧i < l.length)(h2: ∀x,(b=true→x=l.getD i.toNat e)→Wp (f x) Q):Wp (Proofs.YtjdkkabcenohcaaGreatDoor.bd (_root_.cond b (Proofs.YtjdkkabcenohcaaGreatDoor.ix l i) (some d)) f) Q:= .gd _ (fun hb=>by rw[wk (h hb).1 (h hb).2,aW]) h2
theorem Wp.gax{b:Bool}{n:Nat}{e:α}{l:List α}{i:Int}{d:α}{f:α→Option β}{Q:β→Prop}(h:b=true→0≤i∧i < n)(h2: ∀x,(b=true→x=l.getD i.toNat e)→Wp (f x) Q):Wp (Proofs.YtjdkkabcenohcaaGreatDoor.bd (_root_.cond b (Proofs.YtjdkkabcenohcaaGreatDoor.ax n e l i) (some d)) f) Q:= .gd _ (fun hb=>Ws (h hb).1 (h hb).2) h2
theorem Wp.iter{body:σ→Option (σ ⊕ ρ)}(n:Nat)(I:Nat→σ→Prop){Q:ρ→Prop}{s:σ}{N:Nat}(hN:n < N)(h0:I 0 s)
  (h: ∀k s,k < n→I k s→Wp (body s) fun t=>match t with| .inl s'=>I (k+1) s'| .inr r=>Q r)
  (he: ∀s,I n s→Wp (body s) fun t=>match t with| .inl _=>False| .inr r=>Q r):Wp (iter body N s) Q:=by
 have key: ∀(m:Nat) (k:Nat) (s:σ) (N:Nat),k+m=n→I k s→m < N→Wp (Proofs.YtjdkkabcenohcaaGreatDoor.iter body N s) Q:=by
  intro m
  induction m with
  |zero=>
   intro k s N hk hI hN
   obtain⟨M,rfl⟩: ∃M,N=M+1:=⟨N - 1,by omega⟩
   obtain rfl:k=n:=by omega
   obtain⟨t,h1,h2⟩:=he s hI
   cases t with
   |inl s'=>exact h2.elim
   |inr r=>exact⟨r,by simp only[Proofs.YtjdkkabcenohcaaGreatDoor.iter,h1],h2⟩
  |succ m ih=>
   intro k s N hk hI hN
   obtain⟨M,rfl⟩: ∃M,N=M+1:=⟨N - 1,by omega⟩
   obtain⟨t,h1,h2⟩:=h k s (by omega) hI
   cases t with
   |inl s'=>
    obtain⟨r,h3,h4⟩:=ih (k+1) s' M (by omega) h2 (by omega)
    exact⟨r,by simp only[Proofs.YtjdkkabcenohcaaGreatDoor.iter,h1];exact h3,h4⟩
   |inr r=>exact⟨r,by simp only[Proofs.YtjdkkabcenohcaaGreatDoor.iter,h1],h2⟩
 exact key n 0 s N (by omega) h0 hN
theorem Wp.loop{body:σ→Option (σ ⊕ ρ)}(I:σ→Prop)(m:σ→Nat){Q:ρ→Prop}{s:σ}{N:Nat}(hN:m s < N)(h0:I s)
  (h: ∀s,I s→Wp (body s) fun t=>match t with| .inl s'=>I s'∧m s' < m s| .inr r=>Q r):Wp (Proofs.YtjdkkabcenohcaaGreatDoor.iter body N s) Q:=by
 refine S1 I Q m (fun s hs=>?_) N s h0 hN
 obtain⟨t,h1,h2⟩:=h s hs
 cases t with
 |inl s'=>exact .inl ⟨s',h1,h2.1,h2.2⟩
 |inr r=>exact .inr ⟨r,h1,h2⟩
theorem Wp.elim{τ:Type}{m:Option (σ ⊕ ρ)}{f:σ→Option τ}{g:ρ→Option τ}{P:σ ⊕ ρ→Prop}{Q:τ→Prop}(h:Wp m P)(h1: ∀a,m=some (.inl a)→P (.inl a)→Wp (f a) Q)(h2: ∀a,m=some (.inr a)→P (.inr a)→Wp (g a) Q):Wp (Proofs.YtjdkkabcenohcaaGreatDoor.bd m (Sum.elim f g)) Q:=by
 refine .seq h fun a ha hp=>?_
 cases a with
 |inl a=>exact h1 a ha hp
 |inr a=>exact h2 a ha hp
end
theorem sa.sl{w:World}{v:Value}{xs:List Int}(h:sa w v xs):bi (eI .i64) 1 w v xs:=by
 obtain⟨a,cap,hv,hl,hc⟩:=h
 refine⟨a,cap,hv,hl,fun i hi=>⟨(hc i hi).1,fun j u hj=>?_⟩⟩
 cases j with
 |zero=>cases hj;rw[Nat.mul_one];exact(hc i hi).2
 |succ j=>simp[eI]at hj
theorem Dr{z:Int}(h0:0≤z)(h:z < 18446744073709551616):IntKind.u64.wrap z=z:=by
 unfold IntKind.wrap
 simp only[IntKind.bits,IntKind.signed,Bool.false_and,Bool.false_eq_true,if_false]
 exact Int.emod_eq_of_lt h0 (by show z < 2 ^ 64;omega)
end Go.Proofs.YtjdkkabcenohcaaGreatDoor
