import Derived.Test.YtjdkkabcenohcaaGreatDoorPl
set_option linter.unusedVariables false
set_option linter.unusedSimpArgs false
namespace Go.Proofs.YtjdkkabcenohcaaGreatDoor
theorem HA{n:Nat}(h:n < 65536):IntKind.u16.wrap (n:Int)=n:=by
 unfold IntKind.wrap
 simp only[IntKind.bits,IntKind.signed,Bool.false_and,Bool.false_eq_true,if_false]
 exact Int.emod_eq_of_lt (Int.natCast_nonneg _) (by show(n:Int) < 2 ^ 16;omega)
theorem Ok{n:Nat}(h:n < 65536):(BitVec.ofInt 16 (n:Int)).toNat=n:=by
 rw[BitVec.toNat_ofInt]
 show((n:Int) % 65536).toNat=n
 omega
theorem PJ{a b:Nat}(ha:a < 65536)(hb:b < 65536):uI .u16 (a:Int) (b:Int)=((a &&& b:Nat):Int):=by
 unfold uI
 have e:(BitVec.ofInt IntKind.u16.bits (a:Int) &&& BitVec.ofInt IntKind.u16.bits (b:Int)).toNat=a &&& b:=by
  rw[BitVec.toNat_and]
  show(BitVec.ofInt 16 (a:Int)).toNat &&&(BitVec.ofInt 16 (b:Int)).toNat=_
  rw[Ok ha,Ok hb]
 rw[e]
 exact HA (Nat.lt_of_le_of_lt Nat.and_le_left ha)
theorem ahi{a b:Nat}(ha:a < 65536)(hb:b < 65536):pa .u16 (a:Int) (b:Int)=((a ||| b:Nat):Int):=by
 unfold pa
 have e:(BitVec.ofInt IntKind.u16.bits (a:Int) ||| BitVec.ofInt IntKind.u16.bits (b:Int)).toNat=a ||| b:=by
  rw[BitVec.toNat_or]
  show(BitVec.ofInt 16 (a:Int)).toNat |||(BitVec.ofInt 16 (b:Int)).toNat=_
  rw[Ok ha,Ok hb]
 rw[e]
 exact HA (Nat.or_lt_two_pow (n:=16) ha hb)
theorem U6{a j:Nat}(h:a < 65536):kx .u16 (a:Int) (j:Int)=((a >>> j:Nat):Int):=by
 unfold kx
 simp only[Int.toNat_natCast]
 show(a:Int).fdiv (2 ^ (min j 16))=_
 have h2:a >>> j=a >>>(min j 16):=by
  rcases Nat.le_total j 16 with h1|h1
  ·rw[Nat.min_eq_left h1]
  ·rw[Nat.min_eq_right h1,Nat.shiftRight_eq_div_pow,Nat.shiftRight_eq_div_pow,Nat.div_eq_of_lt h,Nat.div_eq_of_lt]
   exact Nat.lt_of_lt_of_le h (Nat.pow_le_pow_right (n:=2) (by decide) (i:=16) h1)
 rw[h2,Nat.shiftRight_eq_div_pow,Int.fdiv_eq_ediv_of_nonneg _ (Int.le_of_lt (Int.pow_pos (by decide)))]
 simp
theorem ahj{j:Nat}(h:j < 16):mz .u16 1 (j:Int)=((2 ^ j:Nat):Int):=by
 unfold mz
 simp only[Int.toNat_natCast,Int.one_mul]
 show IntKind.u16.wrap ((2:Int) ^ (min j 16))=_
 rw[Nat.min_eq_left (Nat.le_of_lt h),←HA (n:=2 ^ j) (Nat.pow_lt_pow_right (n:=16) (a:=2) (by decide) h)]
 simp
def Row(x:Int)(p:Nat→Bool):Prop:=∃a:Nat,x=a∧a < 65536∧∀j,a.testBit j=p j
theorem Row.zero:Row 0 fun _=>false:=⟨0,rfl,by decide,fun j=>Nat.zero_testBit j⟩
theorem Row.is{x:Int}(h0:0≤x)(h:x < 65536):Row x fun j=>x.toNat.testBit j:=⟨x.toNat,by omega,by omega,fun _=>rfl⟩
theorem Row.dZ{x:Int}{p q:Nat→Bool}(h:Row x p)(e: ∀j,p j=q j):Row x q:=by
 obtain⟨a,h1,h2,h3⟩:=h
 exact⟨a,h1,h2,fun j=>(h3 j).trans (e j)⟩
theorem Row.eq{x y:Int}{p:Nat→Bool}(h:Row x p)(h2:Row y p):x=y:=by
 obtain⟨a,rfl,_,ha⟩:=h
 obtain⟨b,rfl,_,hb⟩:=h2
 rw[Nat.eq_of_testBit_eq fun j=>(ha j).trans (hb j).symm]
theorem Row.uniq{x:Int}{p q:Nat→Bool}(h:Row x p)(h2:Row x q)(j:Nat):p j=q j:=by
 obtain⟨a,h1,_,ha⟩:=h
 obtain⟨b,h2,_,hb⟩:=h2
 obtain rfl:a=b:=by omega
 rw[←ha,←hb]
theorem Row.eJ{x:Int}{p:Nat→Bool}(h:Row x p):0≤x∧x < 65536:=by
 obtain⟨a,rfl,h2,_⟩:=h
 omega
theorem Row.test{x:Int}{p:Nat→Bool}(h:Row x p)(j:Nat):decide (uI .u16 (kx .u16 x (j:Int)) 1=1)=p j:=by
 obtain⟨a,rfl,h2,ha⟩:=h
 rw[U6 h2,show(1:Int)=((1:Nat):Int)from rfl,PJ (Nat.lt_of_le_of_lt (by rw[Nat.shiftRight_eq_div_pow];exact Nat.div_le_self _ _) h2) (by decide),←ha]
 rw[Nat.testBit]
 simp only[Nat.and_comm 1]
 have hx:(a >>> j) &&& 1=(a >>> j) % 2:=Nat.and_one_is_mod _
 rw[hx]
 rcases Nat.mod_two_eq_zero_or_one (a >>> j)with h|h<;>rw[h]<;>rfl
theorem Row.or{x y:Int}{p q:Nat→Bool}(h:Row x p)(h2:Row y q):Row (pa .u16 x y) fun j=>p j||q j:=by
 obtain⟨a,rfl,h1,ha⟩:=h
 obtain⟨b,rfl,h2,hb⟩:=h2
 exact⟨a ||| b,ahi h1 h2,Nat.or_lt_two_pow (n:=16) h1 h2,fun j=>by rw[Nat.testBit_or,ha,hb]⟩
theorem Row.and{x y:Int}{p q:Nat→Bool}(h:Row x p)(h2:Row y q):Row (uI .u16 x y) fun j=>p j&&q j:=by
 obtain⟨a,rfl,h1,ha⟩:=h
 obtain⟨b,rfl,h2,hb⟩:=h2
 exact⟨a &&& b,PJ h1 h2,Nat.lt_of_le_of_lt Nat.and_le_left h1,fun j=>by rw[Nat.testBit_and,ha,hb]⟩
theorem Row.one{j:Nat}(h:j < 16):Row (mz .u16 1 (j:Int)) fun i=>decide (j=i):=
 ⟨2 ^ j,ahj h,Nat.pow_lt_pow_right (n:=16) (a:=2) (by decide) h,fun i=>Nat.testBit_two_pow⟩
theorem Row.set{x:Int}{p:Nat→Bool}(h:Row x p){j:Nat}(hj:j < 16):Row (pa .u16 x (mz .u16 1 (IntKind.u64.wrap (j:Int)))) fun i=>p i||decide (j=i):=by
 rw[Dr (by omega) (by omega)]
 exact h.or (.one hj)
theorem Row.empty{x:Int}{p:Nat→Bool}(h:Row x p):x=0↔∀j,p j=false:=by
 constructor
 ·rintro rfl j
  exact(h.uniq Row.zero j)
 ·intro hp
  exact h.eq (Row.zero.dZ fun j=>(hp j).symm)
theorem Row.shr{x:Int}{p:Nat→Bool}(h:Row x p)(n:Nat):Row (kx .u16 x (n:Int)) fun j=>p (n+j):=by
 obtain⟨a,rfl,h1,ha⟩:=h
 exact⟨a >>> n,U6 h1,Nat.lt_of_le_of_lt (by rw[Nat.shiftRight_eq_div_pow];exact Nat.div_le_self _ _) h1,fun j=>by rw[Nat.testBit_shiftRight,ha]⟩
theorem PK{N n k:Nat}{bf:Nat→Nat→Bool}{body:(List Int×Int)→Option ((List Int×Int) ⊕ List Int)}{A:List Int}(hN:n < N)(hn:n≤12)(hk:k < 12)
  (hA: ∀i,i < 12→Row (A.getD i 0) fun j=>decide (i < k)&&bf i j)(hb: ∀j,bf k j=true→j < n)
  (h: ∀(B:List Int) (j:Nat),j < n→body (B,(j:Int))=some (.inl (cond (bf k j) (fb 12 0 B (k:Int) (pa .u16 (B.getD k 0) (mz .u16 1 (IntKind.u64.wrap (j:Int))))) B,(j:Int)+1)))
  (he: ∀B:List Int,body (B,(n:Int))=some (.inr B)):Wp (iter body N (A,0)) fun A'=>∀i,i < 12→Row (A'.getD i 0) fun j=>decide (i < k+1)&&bf i j:=by
 refine .iter n (fun q st=>st.2=(q:Int)∧∀i,i < 12→Row (st.1.getD i 0) fun j=>(decide (i < k)&&bf i j)||(decide (i=k)&&decide (j < q)&&bf i j)) hN ⟨rfl,fun i hi=>(hA i hi).dZ fun j=>by simp⟩ ?_ ?_
 ·rintro q ⟨B,v⟩ hq ⟨hv,hB⟩
  simp only at hv hB
  subst hv
  refine .of (h B q hq) ⟨by simp,fun i hi=>?_⟩
  have other: ∀(i j:Nat),¬(i=k∧j=q∧bf k q=true)→((decide (i < k)&&bf i j)||(decide (i=k)&&decide (j < q)&&bf i j))=((decide (i < k)&&bf i j)||(decide (i=k)&&decide (j < q+1)&&bf i j)):=by
   intro i j h
   congr 1
   by_cases hi:i=k
   ·subst hi
    by_cases hj:j=q
    ·subst hj
     have:bf i j=false:=by cases hb:bf i j with
      |false=>rfl
      |true=>exact absurd ⟨rfl,rfl,hb⟩ h
     simp[this]
    ·congr 1
     congr 1
     exact decide_eq_decide.2 (by omega)
   ·simp[hi]
  cases hbq:bf k q with
  |false=>exact(hB i hi).dZ fun j=>other i j fun h=>by rw[hbq]at h;simp at h
  |true=>
   simp only[cond_true]
   rw[gy hi]
   simp only[Int.toNat_natCast]
   by_cases h:i=k
   ·subst h
    rw[if_pos rfl]
    refine((hB i hi).set (j:=q) (by omega)).dZ fun j=>?_
    by_cases hj:j=q
    ·subst hj;simp[hbq]
    ·rw[←other i j (fun h=>hj h.2.1),show decide (q=j)=false from decide_eq_false (fun e=>hj e.symm),Bool.or_false]
   ·rw[if_neg h]
    exact(hB i hi).dZ fun j=>other i j fun hh=>h hh.1
 ·rintro⟨B,v⟩ ⟨hv,hB⟩
  simp only at hv hB
  subst hv
  refine .of (he B) fun i hi=>(hB i hi).dZ fun j=>?_
  by_cases h:i=k
  ·subst h
   by_cases hj:j < n
   ·simp[hj]
   ·have:bf i j=false:=by
     cases hb':bf i j with
     |false=>rfl
     |true=>exact absurd (hb j hb') hj
    simp[this]
  ·rw[decide_eq_false h,Bool.false_and,Bool.false_and,Bool.or_false]
   congr 1
   exact decide_eq_decide.2 (by omega)
end Go.Proofs.YtjdkkabcenohcaaGreatDoor
