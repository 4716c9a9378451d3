/- The stack and the ticket: what a step does to them. -/
import Derived.Test.YtkmmagekepoapaaP5
set_option linter.unusedVariables false
set_option linter.unusedSimpArgs false
set_option linter.unusedSectionVars false
set_option maxRecDepth 100000
namespace Go.Proofs.Ytkmmagekepoapaa
open Go.RowKit
namespace Sp
open Ob
/-- The nodes from a pointer on. -/
def Ch (m : M) : Int → List Nat → Prop
  | t, [] => t = -1
  | t, c :: cs => t = (c : Int) ∧ c < m.nodes.length ∧ Ch m (m.nd (c : Int)).next cs
theorem Ch.cong {m m' : M} (hl : m.nodes.length ≤ m'.nodes.length) : ∀ {cs : List Nat} {t : Int}, (∀ c ∈ cs, (m'.nd (c : Int)).next = (m.nd (c : Int)).next) → Ch m t cs → Ch m' t cs
  | [], _, _, h => h
  | c :: cs, t, hc, ⟨h1, h2, h3⟩ => ⟨h1, by omega, by rw [hc c (.head _)]; exact Ch.cong hl (fun d hd => hc d (.tail _ hd)) h3⟩
theorem Ch.lt {m : M} : ∀ {cs : List Nat} {t : Int}, Ch m t cs → ∀ c ∈ cs, c < m.nodes.length
  | [], _, _, c, hc => by cases hc
  | d :: cs, t, ⟨_, h2, h3⟩, c, hc => by
    rcases List.mem_cons.1 hc with rfl | hc
    · exact h2
    · exact Ch.lt h3 c hc
def PuOk (m : M) (cs : List Nat) (p : P) : Prop := 0 ≤ p.own ∧ p.own.toNat < m.nodes.length ∧ p.own.toNat ∉ cs ∧ (m.nd p.own).value = argP p ∧ (p.item = 1 ∨ (p.item = 2 ∧ (m.nd p.own).next = p.x))
def PoOk (m : M) (p : P) : Prop := p.item = 1 ∨ (p.item = 2 ∧ 0 ≤ p.x ∧ p.x.toNat < m.nodes.length ∧ (m.nd p.x).next = p.y ∧ Num (m.nd p.x).value)
structure S (m : M) (cs : List Nat) : Prop where
  ch : Ch m m.top cs
  nd : cs.Nodup
  va : ∀ c ∈ cs, Num (m.nd (c : Int)).value
  pu : ∀ w, w < m.people.length → m.act w → m.kind w = 5 → PuOk m cs (m.who w)
  po : ∀ w, w < m.people.length → m.act w → m.kind w = 6 → PoOk m (m.who w)
  dj : ∀ w v, w < m.people.length → v < m.people.length → w ≠ v → m.act w → m.act v → m.kind w = 5 → m.kind v = 5 → (m.who w).own ≠ (m.who v).own
  dx : ∀ w v, w < m.people.length → v < m.people.length → m.act w → m.act v → m.kind w = 5 → m.kind v = 6 → (m.who v).item ≠ 1 → (m.who w).own ≠ (m.who v).x
section
variable {algo : Int} {m m' : M} {cs cs' : List Nat} {w : Nat}
theorem S.gen (H : S m cs) (hw : w < m.people.length) {q : P} (hp : m'.people = m.people.set w q) (hch : Ch m' m'.top cs') (hnd : cs'.Nodup) (hva : ∀ c ∈ cs', Num (m'.nd (c : Int)).value)
    (hpu : ActP q → kindP q = 5 → PuOk m' cs' q) (hpo : ActP q → kindP q = 6 → PoOk m' q) (hpu' : ∀ v, v < m.people.length → v ≠ w → m.act v → m.kind v = 5 → PuOk m cs (m.who v) → PuOk m' cs' (m.who v)) (hpo' : ∀ v, v < m.people.length → v ≠ w → m.act v → m.kind v = 6 → PoOk m (m.who v) → PoOk m' (m.who v))
    (hdj : ActP q → kindP q = 5 → ∀ v, v < m.people.length → v ≠ w → m.act v → m.kind v = 5 → q.own ≠ (m.who v).own) (hdx1 : ActP q → kindP q = 5 → ∀ v, v < m.people.length → v ≠ w → m.act v → m.kind v = 6 → (m.who v).item ≠ 1 → q.own ≠ (m.who v).x) (hdx2 : ActP q → kindP q = 6 → q.item ≠ 1 → ∀ v, v < m.people.length → v ≠ w → m.act v → m.kind v = 5 → (m.who v).own ≠ q.x) : S m' cs' := by
  have hwho := who_of (m := m) (m' := m') hw hp
  have hl : m'.people.length = m.people.length := by rw [hp, List.length_set]
  refine ⟨hch, hnd, hva, fun v hv ha hk => ?_, fun v hv ha hk => ?_, fun u v hu hv huv ha1 ha2 hk1 hk2 => ?_, fun u v hu hv ha1 ha2 hk1 hk2 hi => ?_⟩
  · rw [hl] at hv
    rw [M.act, hwho] at ha
    rw [kind_who, hwho] at hk
    rw [hwho]
    by_cases e : v = w
    · subst e
      rw [if_pos rfl] at ha hk ⊢
      exact hpu ha hk
    · rw [if_neg e] at ha hk ⊢
      exact hpu' v hv e ha hk (H.pu v hv ha hk)
  · rw [hl] at hv
    rw [M.act, hwho] at ha
    rw [kind_who, hwho] at hk
    rw [hwho]
    by_cases e : v = w
    · subst e
      rw [if_pos rfl] at ha hk ⊢
      exact hpo ha hk
    · rw [if_neg e] at ha hk ⊢
      exact hpo' v hv e ha hk (H.po v hv ha hk)
  · rw [hl] at hu hv
    rw [M.act, hwho] at ha1 ha2
    rw [kind_who, hwho] at hk1 hk2
    rw [hwho, hwho]
    by_cases e : u = w
    · subst e
      rw [if_pos rfl] at ha1 hk1 ⊢
      rw [if_neg (fun e => huv e.symm)] at ha2 hk2 ⊢
      exact hdj ha1 hk1 v hv (fun e => huv e.symm) ha2 hk2
    · rw [if_neg e] at ha1 hk1 ⊢
      by_cases e2 : v = w
      · subst e2
        rw [if_pos rfl] at ha2 hk2 ⊢
        exact fun e3 => hdj ha2 hk2 u hu e ha1 hk1 e3.symm
      · rw [if_neg e2] at ha2 hk2 ⊢
        exact H.dj u v hu hv huv ha1 ha2 hk1 hk2
  · rw [hl] at hu hv
    rw [M.act, hwho] at ha1 ha2
    rw [kind_who, hwho] at hk1 hk2
    rw [hwho] at hi
    rw [hwho, hwho]
    by_cases e : u = w
    · subst e
      rw [if_pos rfl] at ha1 hk1 ⊢
      by_cases e2 : v = u
      · subst e2
        rw [if_pos rfl] at hk2; omega
      · rw [if_neg e2] at ha2 hk2 hi ⊢
        exact hdx1 ha1 hk1 v hv e2 ha2 hk2 hi
    · rw [if_neg e] at ha1 hk1 ⊢
      by_cases e2 : v = w
      · subst e2
        rw [if_pos rfl] at ha2 hk2 hi ⊢
        exact hdx2 ha2 hk2 hi u hu e ha1 hk1
      · rw [if_neg e2] at ha2 hk2 hi ⊢
        exact H.dx u v hu hv ha1 ha2 hk1 hk2 hi
/-- One turns, the rest stays. -/
theorem S.put (H : S m cs) (hw : w < m.people.length) {q : P} (hn : m'.nodes = m.nodes) (ht : m'.top = m.top) (hp : m'.people = m.people.set w q)
    (hpu : ActP q → kindP q = 5 → PuOk m cs q ∧ m.act w ∧ m.kind w = 5 ∧ q.own = (m.who w).own) (hpo : ActP q → kindP q = 6 → PoOk m q ∧ (q.item ≠ 1 → q.x.toNat ∈ cs)) : S m' cs := by
  have hnd : ∀ k, m'.nd k = m.nd k := fun k => by unfold M.nd; rw [hn]
  have e1 : ∀ p, PuOk m cs p → PuOk m' cs p := fun p hf => by unfold PuOk at hf ⊢; rw [hn, hnd]; exact hf
  have e2 : ∀ p, PoOk m p → PoOk m' p := fun p hf => by unfold PoOk at hf ⊢; rw [hn, hnd]; exact hf
  refine H.gen hw hp (by rw [ht]; exact Ch.cong (by rw [hn]; exact Nat.le_refl _) (fun c _ => by rw [hnd]) H.ch) H.nd (fun c hc => by rw [hnd]; exact H.va c hc) (fun a b => e1 _ (hpu a b).1) (fun a b => e2 _ (hpo a b).1) (fun v _ _ _ _ h => e1 _ h) (fun v _ _ _ _ h => e2 _ h) (fun a b v hv hne av kv => ?_) (fun a b v hv hne av kv iv => ?_) (fun a b c v hv hne av kv => ?_)
  · obtain ⟨_, g1, g2, g3⟩ := hpu a b
    rw [g3]; exact H.dj w v hw hv (fun e => hne e.symm) g1 av g2 kv
  · obtain ⟨_, g1, g2, g3⟩ := hpu a b
    rw [g3]; exact H.dx w v hw hv g1 av g2 kv iv
  · intro e
    exact (H.pu v hv av kv).2.2.1 (by rw [e]; exact (hpo a b).2 c)
theorem S.putF (H : S m cs) (hw : w < m.people.length) (r : Int) : S (m.setp w (fin (m.who w) r)) cs :=
  H.put hw rfl rfl rfl (fun e => (by cases e.2)) (fun e => (by cases e.2))
theorem S.putR (H : S m cs) (hw : w < m.people.length) (ha : m.act w) : S (m.again w) cs :=
  H.put hw rfl rfl rfl (fun _ hk => by
    have hk : m.kind w = 5 := hk
    have := H.pu w hw ha hk
    exact ⟨⟨this.1, this.2.1, this.2.2.1, this.2.2.2.1, .inl rfl⟩, ha, hk, rfl⟩) (fun _ _ => ⟨.inl rfl, fun h => (h rfl).elim⟩)
inductive N3 (m m' : M) (w : Nat) (cs : List Nat) : List Nat → Prop
  | quiet (q : P) (hp : m'.people = m.people.set w q) (hq : q.program = (m.who w).program ∧ q.pending = true ∧ q.complete = false) : N3 m m' w cs cs
  | push (hk : m.kind w = 5) (hv : (m'.nd (m.who w).own).value = argP (m.who w)) (hp : m'.people = m.people.set w (fin (m.who w) 0)) : N3 m m' w cs ((m.who w).own.toNat :: cs)
  | pop (c : Nat) (cs' : List Nat) (hcs : cs = c :: cs') (hk : m.kind w = 6) (hp : m'.people = m.people.set w (fin (m.who w) (m.nd (c : Int)).value)) : N3 m m' w cs cs'
  | empty (hcs : cs = []) (hk : m.kind w = 6) (hp : m'.people = m.people.set w (fin (m.who w) (-1))) : N3 m m' w cs cs
theorem stack_step (H : S m cs) (hw : w < m.people.length) (ha : m.act w) (hk : (m.kind w = 5 ∧ Num (argP (m.who w))) ∨ m.kind w = 6) : ∃ cs', N3 m (stepS algo m w) w cs cs' ∧ S (stepS algo m w) cs' ∧ ∀ k : Int, 0 ≤ k → ((stepS algo m w).nd k).value = (m.nd k).value := by
  unfold stepS
  rw [if_neg (by omega)]
  have again : ∃ cs', N3 m (m.again w) w cs cs' ∧ S (m.again w) cs' ∧ ∀ k : Int, 0 ≤ k → ((m.again w).nd k).value = (m.nd k).value :=
    ⟨cs, .quiet (at1 (m.who w)) rfl ⟨rfl, ha.1, ha.2⟩, H.putR hw ha, fun _ _ => rfl⟩
  rcases hk with ⟨hk, hnum⟩ | hk
  · rw [if_pos hk]
    obtain ⟨o1, o2, o3, o4, o5⟩ := H.pu w hw ha hk
    unfold pushS
    rcases o5 with h1 | ⟨h1, h2⟩
    · rw [if_pos h1]
      generalize hm' : (m.setp w (at2 (m.who w) (m.who w).n m.top (m.who w).y (m.who w).z_)).link (m.who w).own m.top = m'
      have hnd : ∀ k, 0 ≤ k → m'.nd k = if k = (m.who w).own then ⟨(m.nd (m.who w).own).value, m.top⟩ else m.nd k := fun k hk => by rw [← hm']; exact nd_link (m := m.setp w (at2 (m.who w) (m.who w).n m.top (m.who w).y (m.who w).z_)) hk o1 o2
      have hp : m'.people = m.people.set w (at2 (m.who w) (m.who w).n m.top (m.who w).y (m.who w).z_) := by rw [← hm']; rfl
      have htop : m'.top = m.top := by rw [← hm']; rfl
      have hnl : m'.nodes.length = m.nodes.length := by rw [← hm']; simp [M.link, M.setp]
      have hval : ∀ k, 0 ≤ k → (m'.nd k).value = (m.nd k).value := fun k hk => by
        rw [hnd k hk]; split
        · rename_i e; rw [e]
        · rfl
      have hc : ∀ c ∈ cs, m'.nd (c : Int) = m.nd (c : Int) := fun c hc => by
        rw [hnd _ (Int.natCast_nonneg c), if_neg]
        intro e
        exact o3 (by rw [← e, Int.toNat_natCast]; exact hc)
      refine ⟨cs, .quiet _ hp ⟨rfl, ha.1, ha.2⟩, ?_, hval⟩
      refine H.gen hw hp (by rw [htop]; exact Ch.cong (by omega) (fun c h => by rw [hc c h]) H.ch) H.nd (fun c h => by rw [hc c h]; exact H.va c h) (fun _ _ => ?_) (fun _ hk6 => ?_) (fun v hv hne av kv g => ?_) (fun v hv hne av kv g => ?_) (fun _ _ v hv hne av kv => H.dj w v hw hv (fun e => hne e.symm) ha av hk kv) (fun _ _ v hv hne av kv iv => H.dx w v hw hv ha av hk kv iv) (fun _ hk6 => ?_)
      · refine ⟨o1, by rw [hnl]; exact o2, o3, by rw [hval]; exact o4; exact o1, .inr ⟨rfl, ?_⟩⟩
        show (m'.nd (m.who w).own).next = m.top
        rw [hnd _ o1, if_pos rfl]
      · have hk6 : m.kind w = 6 := hk6
        omega
      · have hne2 := H.dj w v hw hv (fun e => hne e.symm) ha av hk kv
        obtain ⟨g1, g2, g3, g4, g5⟩ := g
        have e : m'.nd (m.who v).own = m.nd (m.who v).own := by rw [hnd _ g1, if_neg (fun e => hne2 e.symm)]
        exact ⟨g1, by rw [hnl]; exact g2, g3, by rw [e]; exact g4, by rw [e]; exact g5⟩
      · rcases g with g | ⟨g1, g2, g3, g4, g5⟩
        · exact .inl g
        · have hne2 := H.dx w v hw hv ha av hk kv (by omega)
          have e : m'.nd (m.who v).x = m.nd (m.who v).x := by rw [hnd _ g2, if_neg (fun e => hne2 e.symm)]
          exact .inr ⟨g1, g2, by rw [hnl]; exact g3, by rw [e]; exact g4, by rw [e]; exact g5⟩
      · have hk6 : m.kind w = 6 := hk6
        omega
    · rw [if_neg (by omega)]
      by_cases e1 : m.top = (m.who w).x
      · rw [if_pos e1]
        have K := H.putF hw 0
        refine ⟨(m.who w).own.toNat :: cs, .push hk o4 rfl, ⟨⟨?_, o2, ?_⟩, ?_, ?_, fun v hv av kv => ?_, K.po, K.dj, K.dx⟩, fun _ _ => rfl⟩
        · show (m.who w).own = _; omega
        · show Ch _ (m.nd (((m.who w).own.toNat : Nat) : Int)).next cs
          rw [show (((m.who w).own.toNat : Nat) : Int) = (m.who w).own by omega, h2, ← e1]
          exact Ch.cong (m := m) (m' := (m.setp w (fin (m.who w) 0)).setTop (m.who w).own) (Nat.le_refl m.nodes.length) (fun _ _ => rfl) H.ch
        · exact List.nodup_cons.2 ⟨o3, H.nd⟩
        · intro c hc
          rcases List.mem_cons.1 hc with rfl | hc
          · show Num (m.nd (((m.who w).own.toNat : Nat) : Int)).value
            rw [show (((m.who w).own.toNat : Nat) : Int) = (m.who w).own by omega, o4]; exact hnum
          · exact H.va c hc
        · have hwho := who_of (m := m) (m' := (m.setp w (fin (m.who w) 0)).setTop (m.who w).own) hw rfl v
          have hl : v < m.people.length := by
            have : ((m.setp w (fin (m.who w) 0)).setTop (m.who w).own).people.length = m.people.length := by show (m.people.set w _).length = _; rw [List.length_set]
            omega
          rw [M.act, hwho] at av
          rw [kind_who, hwho] at kv
          rw [hwho]
          by_cases e : v = w
          · rw [if_pos e] at av
            cases av.2
          · rw [if_neg e] at av kv ⊢
            obtain ⟨g1, g2, g3, g4, g5⟩ := H.pu v hl av kv
            refine ⟨g1, g2, fun hm => ?_, g4, g5⟩
            rcases List.mem_cons.1 hm with hm | hm
            · exact H.dj v w hl hw e av ha kv hk (by omega)
            · exact g3 hm
      · rw [if_neg e1]
        exact again
  · rw [if_neg (by omega), if_pos hk]
    have k5 : m.kind w = 5 → False := fun e => by omega
    unfold popS
    rcases H.po w hw ha hk with h1 | ⟨h1, x1, x2, x3, x4⟩
    · cases cs with
      | nil =>
        have ht : m.top = -1 := H.ch
        rw [if_pos ⟨h1, by omega⟩]
        exact ⟨[], .empty rfl hk rfl, H.putF hw (-1), fun _ _ => rfl⟩
      | cons c cs' =>
        obtain ⟨t1, t2, t3⟩ := H.ch
        rw [if_neg (fun e => by omega), if_pos h1]
        refine ⟨c :: cs', .quiet _ rfl ⟨rfl, ha.1, ha.2⟩, H.put hw rfl rfl rfl (fun _ hk5 => (k5 hk5).elim) (fun _ _ => ⟨.inr ⟨rfl, ?_, ?_, rfl, ?_⟩, fun _ => ?_⟩), fun _ _ => rfl⟩
        · show 0 ≤ m.top; omega
        · show m.top.toNat < _; omega
        · show Num (m.nd m.top).value
          rw [t1]; exact H.va c (.head _)
        · show m.top.toNat ∈ c :: cs'
          rw [t1, Int.toNat_natCast]; exact .head _
    · rw [if_neg (fun e => by omega), if_neg (by omega)]
      by_cases e1 : m.top = (m.who w).x
      · rw [if_pos e1]
        cases cs with
        | nil =>
          have ht : m.top = -1 := H.ch
          omega
        | cons c cs' =>
          obtain ⟨t1, t2, t3⟩ := H.ch
          have hxc : (m.who w).x = (c : Int) := by omega
          have K := H.putF hw (m.nd (m.who w).x).value
          refine ⟨cs', .pop c cs' rfl hk (by rw [hxc]; rfl), ⟨?_, (List.nodup_cons.1 H.nd).2, fun d hd => H.va d (.tail _ hd), fun v hv av kv => ?_, K.po, K.dj, K.dx⟩, fun _ _ => rfl⟩
          · show Ch _ (m.who w).y cs'
            rw [← x3, hxc]
            exact Ch.cong (m := m) (m' := (m.setp w (fin (m.who w) (m.nd (c : Int)).value)).setTop (m.nd (c : Int)).next) (Nat.le_refl m.nodes.length) (fun _ _ => rfl) t3
          · obtain ⟨g1, g2, g3, g4, g5⟩ := K.pu v hv av kv
            exact ⟨g1, g2, fun hm => g3 (.tail _ hm), g4, g5⟩
      · rw [if_neg e1]
        exact again
theorem S.D (H : S m cs) (hw : w < m.people.length) (hk : m.act w → m.kind w = 5 ∨ m.kind w = 6) : D m w := by
  intro hp hc hi
  refine ⟨fun h6 => ?_, fun _ h5 h6 _ _ => ?_⟩
  · rcases h6 with h6 | h6
    · rcases H.po w hw ⟨hp, hc⟩ h6 with g | g
      · exact (hi g).elim
      · exact g.2.1
    · have := hk ⟨hp, hc⟩; omega
  · have := hk ⟨hp, hc⟩; omega
theorem S.beg (H : S m cs) (hw : w < m.people.length) {np k : Nat} (hB : B np k m) : S (begS m w) cs := by
  have hpl := hB.pl
  have hnd : ∀ k : Int, k.toNat < m.nodes.length → (begS m w).nd k = m.nd k := fun k hk => by
    unfold M.nd begS
    simp only [List.getD_eq_getElem?_getD]
    rw [List.getElem?_append_left hk]
  have hnew : (begS m w).nd (m.nodes.length : Int) = ⟨((m.who w).program.getD 0 Ask.z).arg, -1⟩ := by
    unfold M.nd begS
    simp only
    rw [List.getD_eq_getElem?_getD]
    simp
  have hlt := H.ch.lt
  have hnl : (begS m w).nodes.length = m.nodes.length + 1 := by simp [begS]
  have hc : ∀ c ∈ cs, (begS m w).nd (c : Int) = m.nd (c : Int) := fun c hc => hnd _ (by rw [Int.toNat_natCast]; exact hlt c hc)
  have hown : ∀ v, v < m.people.length → (m.who v).own < m.nodes.length := fun v hv => (hB.pb (by omega : v < np)).own.2
  have hxs : ∀ v, v < m.people.length → (m.who v).x < m.nodes.length := fun v hv => (hB.pb (by omega : v < np)).x.2
  refine H.gen (q := Sp.beg (m.who w) m.nodes.length) hw rfl (Ch.cong (by omega) (fun c h => by rw [hc c h]) H.ch) H.nd (fun c h => by rw [hc c h]; exact H.va c h) (fun _ _ => ?_) (fun _ _ => .inl rfl) (fun v hv hne av kv g => ?_) (fun v hv hne av kv g => ?_) (fun _ _ v hv hne av kv => ?_) (fun _ _ v hv hne av kv iv => ?_) (fun _ _ hi => (hi rfl).elim)
  · refine ⟨Int.natCast_nonneg _, ?_, ?_, ?_, .inl rfl⟩
    · show ((m.nodes.length : Int)).toNat < _; omega
    · intro hm
      have e2 : (Sp.beg (m.who w) m.nodes.length).own = (m.nodes.length : Int) := rfl
      have := hlt _ hm
      rw [e2] at this; omega
    · show ((begS m w).nd (m.nodes.length : Int)).value = _
      rw [hnew]; rfl
  · obtain ⟨g1, g2, g3, g4, g5⟩ := g
    exact ⟨g1, by omega, g3, by rw [hnd _ g2]; exact g4, by rw [hnd _ g2]; exact g5⟩
  · rcases g with g | ⟨g1, g2, g3, g4, g5⟩
    · exact .inl g
    · exact .inr ⟨g1, g2, by omega, by rw [hnd _ g3]; exact g4, by rw [hnd _ g3]; exact g5⟩
  · have := hown v hv
    show (m.nodes.length : Int) ≠ _; omega
  · have := hxs v hv
    show (m.nodes.length : Int) ≠ _; omega
theorem S.ans (H : S m cs) (hw : w < m.people.length) : S (ansS m w) cs :=
  H.put hw rfl rfl rfl (fun e => (by cases e.1)) (fun e => (by cases e.1))
inductive N5 (m m' : M) (w : Nat) : Prop
  | quiet (q : P) (hp : m'.people = m.people.set w q) (hq : q.program = (m.who w).program ∧ q.pending = true ∧ q.complete = false) (hn : m'.n = m.n) : N5 m m' w
  | take (hp : m'.people = m.people.set w (fin (m.who w) m.n)) (hn : m'.n = m.n + 1) : N5 m m' w
theorem ticket_step (ha : m.act w) (hk : m.kind w = 10) : N5 m (stepS 1 m w) w := by
  unfold stepS counterS
  rw [if_pos hk]
  split
  · exact .quiet _ rfl ⟨rfl, ha.1, ha.2⟩ rfl
  · split
    · rename_i h
      have h : m.n = (m.who w).n := by omega
      exact .take (by rw [h]; rfl) (by show (m.who w).n + 1 = _; omega)
    · exact .quiet (at1 (m.who w)) rfl ⟨rfl, ha.1, ha.2⟩ rfl
end
end Sp

end Go.Proofs.Ytkmmagekepoapaa
