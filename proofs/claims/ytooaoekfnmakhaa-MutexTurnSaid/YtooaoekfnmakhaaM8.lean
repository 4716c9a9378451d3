/- MutexTurn, plainly. -/
import Derived.Test.YtooaoekfnmakhaaM7
set_option linter.unusedVariables false
set_option linter.unusedSimpArgs false
set_option linter.unusedSectionVars false
set_option maxRecDepth 100000
namespace Go.Proofs.Ytooaoekfnmakhaa
open Go.RowKit
namespace Mx
def cnt (w : Nat) (l : List Gate) : Nat := (l.filter fun y => y.in_ && !(decide (y.who = (w : Int)))).length
theorem cntIter {N : Nat} {r7 r20 : List Gate × Int × Int} {since : Int} {w : Nat} (l : List Gate) (hl : (r7.1.take ((r20.1).length : Int).toNat).drop (min since ((r20.1).length : Int)).toNat = l) (hN : l.length < N) (hb : l.length ≤ 1000) :
    iter (alibkeep_MutexTurn_L603 N r7 r20 since w) N (0, 0) = some (cnt w l : Int) := by
  have hle : ∀ k, cnt w (l.take k) ≤ 1000 := fun k => by
    unfold cnt
    exact Nat.le_trans (List.length_filter_le _ _) (by rw [List.length_take]; omega)
  refine iter_up (fun k => ((cnt w (l.take k) : Int), (k : Int))) _ l.length _ (by simp [cnt]) (fun k hk => Wp.eq ?_) (Wp.eq ?_) N hN
  · unfold alibkeep_MutexTurn_L603
    simp only [hl]
    have hlk := hle k
    have hs : cnt w (l.take (k + 1)) = cnt w (l.take k) + if (l[k].in_ && !(decide (l[k].who = (w : Int)))) = true then 1 else 0 := by
      unfold cnt
      rw [List.take_succ_eq_append_getElem hk, List.filter_append, List.length_append]
      congr 1
      simp only [List.filter_cons, List.filter_nil]
      split <;> rfl
    refine .condT (by simpa using hk) (.ix hk (.cond (fun h => .ck64 (by omega) (.ck64 (by omega) (.one ?_))) fun h => .ck64 (by omega) (.one ?_)))
    · rw [hs, if_pos h]; simp
    · rw [hs, if_neg (by simp [h])]; simp
  · unfold alibkeep_MutexTurn_L603
    simp only [hl]
    exact .condF (by simp) (.one (by simp))
abbrev ga (s : Sm) : List Gate := s.2.2.2.2
theorem ga_pet (s : Sm) (w : Nat) : ∃ l, ga (petF s w) = ga s ++ l := by
  unfold petF
  repeat' split
  all_goals first
    | (unfold enterF; exact ⟨_, rfl⟩)
    | (unfold exitF; exact ⟨_, rfl⟩)
    | exact ⟨[], by simp⟩
theorem ga_run {turns : Int} {list : List Int} : ∀ d k, k + d ≤ list.length → ∃ l, ga (run 1 2 turns (list.take (k + d))) = ga (run 1 2 turns (list.take k)) ++ l
  | 0, k, _ => ⟨[], by simp⟩
  | d + 1, k, h => by
    obtain ⟨l, hl⟩ := ga_run (turns := turns) (list := list) d k (by omega)
    rw [← Nat.add_assoc, run_snoc (l := list) (k := k + d) (by omega)]
    unfold stepF
    split
    · exact ⟨l, hl⟩
    · rw [if_pos rfl]
      obtain ⟨m, hm⟩ := ga_pet (run 1 2 turns (list.take (k + d))) (list[k + d].toNat)
      exact ⟨l ++ m, by rw [hm, hl, List.append_assoc]⟩
/-- What the law keeps of one who is looked at. -/
structure JT (s : Sm) (w : Nat) (since step : Int) : Prop where
  r : 0 ≤ step ∧ step ≤ 4
  s0 : step = 2 → 0 ≤ since
  live : (pr s w).left ≠ 0 → step = (pr s w).step ∧ (step = 2 → since ≤ (ga s).length ∧ cnt w ((ga s).drop since.toNat) ≤ 1 ∧ (cnt w ((ga s).drop since.toNat) = 1 → (pr s (1 - w)).step ≠ 2 ∨ s.2.1 = w))
theorem pr_pet {s : Sm} {w i : Nat} (hl : w < s.1.length) (h : i ≠ w) : pr (petF s w) i = pr s i := by
  unfold petF
  repeat' split
  all_goals first
    | (unfold enterF; exact (pr_set hl).trans (if_neg h))
    | (unfold exitF; exact (pr_set hl).trans (if_neg h))
    | exact (pr_set hl).trans (if_neg h)
    | rfl
theorem cnt_snoc {w : Nat} {l : List Gate} {x : Gate} {d : Nat} (h : d ≤ l.length) : cnt w ((l ++ [x]).drop d) = cnt w (l.drop d) + if (x.in_ && !(decide (x.who = (w : Int)))) = true then 1 else 0 := by
  unfold cnt
  rw [List.drop_append_of_le_length h, List.filter_append, List.length_append]
  congr 1
  simp only [List.filter_cons, List.filter_nil]
  split <;> rfl
/-- The other one's steps. -/
theorem JT.other {s : Sm} {w : Nat} {since step : Int} {ins : Option Nat} (J : JP (stF s) (flF s) s.2.1 ins) (hlen : s.1.length = 2) (hw : w < 2) (T : JT s w since step) : JT (petF s (1 - w)) w since step := by
  have ho : 1 - w < s.1.length := by omega
  have e1 : pr (petF s (1 - w)) w = pr s w := pr_pet ho (by omega)
  refine ⟨T.r, T.s0, fun hl => ?_⟩
  rw [e1] at hl ⊢
  obtain ⟨t1, t2⟩ := T.live hl
  refine ⟨t1, fun h2 => ?_⟩
  obtain ⟨a1, a2, a3⟩ := t2 h2
  have hfl := (J.bfl w hw).2 (by simp only [stF]; omega)
  simp only [flF] at hfl
  have hst := J.bst (1 - w) (by omega)
  simp only [stF] at hst
  have e2 : 1 - (1 - w) = w := by omega
  have s0 := T.s0 h2
  unfold petF
  repeat' split
  · refine ⟨a1, a2, fun _ => .inl ?_⟩
    rw [pr_set ho, if_pos rfl]; simp only; omega
  · refine ⟨a1, a2, fun _ => .inr ?_⟩
    simp only; omega
  · exact ⟨a1, a2, a3⟩
  · rename_i e hc
    rw [e2] at hc
    have htn : ¬ s.2.1 ≠ ((1 - w : Nat) : Int) := fun h => hc ⟨hfl, h⟩
    have hc0 : cnt w ((ga s).drop since.toNat) = 0 := by
      rcases Nat.lt_or_ge (cnt w ((ga s).drop since.toNat)) 1 with h | h
      · omega
      · rcases a3 (by omega) with h' | h'
        · omega
        · omega
    unfold enterF
    refine ⟨by simp only [ga, List.length_append]; simp only [ga] at a1; omega, ?_, fun _ => .inl ?_⟩
    · simp only [ga]
      rw [cnt_snoc (by simp only [ga] at a1; omega)]
      simp only [ga] at hc0
      rw [hc0]; split <;> omega
    · rw [pr_set ho, if_pos rfl]; simp only; omega
  · rename_i e
    unfold exitF
    have : cnt w ((s.2.2.2.2 ++ [(⟨((1 - w : Nat) : Int), false⟩ : Gate)]).drop since.toNat) = cnt w (s.2.2.2.2.drop since.toNat) := by
      rw [cnt_snoc (by simp only [ga] at a1; omega)]; simp
    refine ⟨by simp only [ga, List.length_append]; simp only [ga] at a1; omega, ?_, fun _ => .inl ?_⟩
    · simp only [ga]; rw [this]; exact a2
    · rw [pr_set ho, if_pos rfl]; simp only; omega
  · refine ⟨a1, a2, fun _ => .inl ?_⟩
    rw [pr_set ho, if_pos rfl]; simp
end Mx

namespace Mx
/-- One's own steps. -/
theorem JT.own {s : Sm} {w : Nat} {since step : Int} {ins : Option Nat} (J : JP (stF s) (flF s) s.2.1 ins) (hlen : s.1.length = 2) (hw : w < 2) (T : JT s w since step) :
    (step ≤ 1 → JT (stepF 1 s w) w (if step + 1 = 2 then ((ga (stepF 1 s w)).length : Int) else since) (step + 1)) ∧
    (step = 2 → ((ga s).length < (ga (stepF 1 s w)).length → cnt w ((ga s).drop since.toNat) ≤ 1 ∧ since ≤ (ga s).length ∧ JT (stepF 1 s w) w since 3) ∧ (¬ (ga s).length < (ga (stepF 1 s w)).length → JT (stepF 1 s w) w since 2)) ∧
    (step = 3 → JT (stepF 1 s w) w since 4) ∧ (step = 4 → JT (stepF 1 s w) w since 0) := by
  have hwl : w < s.1.length := by omega
  have hr := T.r
  unfold stepF
  by_cases h0 : (pr s w).left = 0
  · rw [if_pos h0]
    have key : ∀ a b : Int, 0 ≤ b ∧ b ≤ 4 → (b = 2 → 0 ≤ a) → JT s w a b := fun a b h h2 => ⟨h, h2, fun h3 => (h3 h0).elim⟩
    refine ⟨fun h => key _ _ (by omega) (fun h2 => ?_), fun h => ⟨fun h2 => absurd h2 (Nat.lt_irrefl _), fun _ => key _ _ (by omega) fun _ => T.s0 h⟩, fun h => key _ _ (by omega) (by omega), fun h => key _ _ (by omega) (by omega)⟩
    rw [if_pos h2]; omega
  rw [if_neg h0, if_pos rfl]
  obtain ⟨t1, t2⟩ := T.live h0
  refine ⟨fun h => ?_, fun h => ?_, fun h => ?_, fun h => ?_⟩
  · rcases (by omega : step = 0 ∨ step = 1) with e | e
    · have e1 : (pr s w).step = 0 := by omega
      unfold petF
      rw [if_pos e1, if_neg (by omega)]
      refine ⟨by omega, by omega, fun _ => ⟨?_, by omega⟩⟩
      rw [pr_set hwl, if_pos rfl]; simp only; omega
    · have e1 : (pr s w).step = 1 := by omega
      unfold petF
      rw [if_neg (by omega), if_pos e1, if_pos (by omega)]
      refine ⟨by omega, by omega, fun _ => ⟨?_, fun _ => ⟨by simp, ?_, ?_⟩⟩⟩
      · rw [pr_set hwl, if_pos rfl]; simp only; omega
      · simp [cnt]
      · simp [cnt]
  · have e1 : (pr s w).step = 2 := by omega
    obtain ⟨a1, a2, a3⟩ := t2 h
    refine ⟨fun hg => ⟨a2, a1, ?_⟩, fun hg => ?_⟩
    · unfold petF at hg ⊢
      rw [if_neg (by omega), if_neg (by omega), if_pos e1] at hg ⊢
      split at hg
      · exact (Nat.lt_irrefl _ hg).elim
      · rename_i hc
        rw [if_neg hc]
        unfold enterF
        refine ⟨by omega, by omega, fun _ => ⟨?_, by omega⟩⟩
        rw [pr_set hwl, if_pos rfl]; simp only; omega
    · unfold petF at hg ⊢
      rw [if_neg (by omega), if_neg (by omega), if_pos e1] at hg ⊢
      split at hg
      · rename_i hc
        rw [if_pos hc]; subst h; exact T
      · unfold enterF at hg
        simp [ga] at hg
  · have e1 : (pr s w).step = 3 := by omega
    unfold petF
    rw [if_neg (by omega), if_neg (by omega), if_neg (by omega), if_pos e1]
    unfold exitF
    refine ⟨by omega, by omega, fun _ => ⟨?_, by omega⟩⟩
    rw [pr_set hwl, if_pos rfl]; simp only; omega
  · have e1 : (pr s w).step = 4 := by omega
    unfold petF
    rw [if_neg (by omega), if_neg (by omega), if_neg (by omega), if_neg (by omega)]
    refine ⟨by omega, by omega, fun _ => ⟨?_, by omega⟩⟩
    rw [pr_set hwl, if_pos rfl]
theorem ok2 {N : Nat} (hN : 1000 < N) : alibkeep_ok N [0, 0] = some true := by
  obtain ⟨M, rfl⟩ : ∃ M, N = M + 3 := ⟨N - 3, by omega⟩
  rfl
def P1 (s : Sm) (w : Nat) : ((Int × Int) ⊕ (Bool ⊕ Unit)) → Prop
  | .inl x => JT s w x.1 x.2
  | .inr (.inl _) => False
  | .inr (.inr _) => True
def P2 (s : Sm) (w : Nat) : ((Int × Int) ⊕ Bool) → Prop
  | .inl x => JT s w x.1 x.2
  | .inr _ => False
theorem whoBody {N : Nat} (hN : 1000 < N) {turns : Int} {list : List Int} (G : Good 1 2 turns list) {w : Nat} (hw : w < 2) {k : Nat} (hk : k < list.length) {since step : Int} (T : JT (run 1 2 turns (list.take k)) w since step) :
    Wp (alibkeep_MutexTurn_L595 N list w turns (ga (run 1 2 turns list), (run 1 2 turns list).2.2.2.1, 0) (since, step, (k : Int))) fun t => match t with | .inl s' => s'.2.2 = ((k + 1 : Nat) : Int) ∧ JT (run 1 2 turns (list.take (k + 1))) w s'.1 s'.2.1 | .inr r => r = .inl () := by
  have gt := G.tu; have gl := G.ln
  have B := bd_run G k (by omega)
  have hlen : (run 1 2 turns (list.take k)).1.length = 2 := B.len
  obtain ⟨ins, -, hS⟩ := safe_run G (by decide) k (by omega)
  have J : JP (stF (run 1 2 turns (list.take k))) (flF (run 1 2 turns (list.take k))) (run 1 2 turns (list.take k)).2.1 ins := by
    rcases hS with ⟨_, _, J⟩ | ⟨h, _⟩ | ⟨h, _⟩
    · exact J
    · exact absurd h (by decide)
    · exact absurd h (by decide)
  have hel := G.el list[k] (List.getElem_mem hk)
  have hs := run_snoc (algo := 1) (n := 2) (turns := turns) hk
  have hp1 := playOK hN (G.take k)
  have hp2 := playOK hN (G.take (k + 1))
  have hpre := ga_run (turns := turns) (list := list) (list.length - k) k (by omega)
  rw [show k + (list.length - k) = list.length by omega, List.take_length] at hpre
  have hgl := gates_le G (k := k) (by omega)
  have hgl2 := gates_le G (k := k + 1) (by omega)
  rw [show (2 : Int).toNat = 2 from rfl] at hp1 hp2 hgl hgl2
  generalize run 1 2 turns list = sE at *
  have e1 : ((k : Int) + 1).toNat = k + 1 := by omega
  unfold alibkeep_MutexTurn_L595
  refine .condT (by simpa using hk) (.bd (.mono (P := P1 (run 1 2 turns (list.take (k + 1))) w) ?_ ?_))
  · refine .bdO (ix_of hk) ?_
    refine .cond (fun hx => .one ?_) (fun hx => ?_)
    · show JT _ w since step
      rw [hs]
      have hx : list[k].toNat = 1 - w := by
        have : ¬ list[k] = (w : Int) := by simpa using hx
        omega
      rw [hx]
      unfold stepF
      split
      · exact T
      · rw [if_pos rfl]; exact T.other J hlen hw
    · have hx : list[k].toNat = w := by
        have : list[k] = (w : Int) := by simpa using hx
        omega
      rw [hx] at hs
      rw [hs] at hp2 hgl2 ⊢
      have O := T.own J hlen hw
      refine .ck (by simp [slB]; omega) ?_
      simp only [Int.toNat_natCast, e1]
      refine .bdO hp1 (.ck64 (by omega) (.ck (by simp [slB]; omega) (.bdO hp2 (.bdO (ok2 hN) (.condF rfl ?_)))))
      generalize run 1 2 turns (list.take k) = s at *
      have hr := T.r
      refine .bd (.mono (P := P2 (stepF 1 s w) w) ?_ ?_)
      · refine .bd (.mono (P := fun b => b = decide (step ≤ 1)) (.cond (fun h => .one ?_) fun h => .one ?_) fun b hb => ?_)
        · have h : step = 0 := by simpa using h
          subst h; rfl
        · have h : ¬ step = 0 := by simpa using h
          congr 1; apply propext; omega
        subst hb
        refine .cond (fun h => ?_) fun h => ?_
        · have h : step ≤ 1 := by simpa using h
          have o := O.1 h
          refine .ck64 (by omega) (.cond (fun h2 => .one ?_) fun h2 => .one ?_)
          · rw [if_pos (by simpa using h2)] at o; exact o
          · rw [if_neg (by simpa using h2)] at o; exact o
        have h : ¬ step ≤ 1 := by simpa using h
        refine .cond (fun h2 => ?_) fun h2 => ?_
        · have h2 : step = 2 := by simpa using h2
          obtain ⟨o1, o2⟩ := O.2.1 h2
          have s0 := T.s0 h2
          refine .cond (fun h3 => ?_) fun h3 => ?_
          · have h3 : (ga s).length < (ga (stepF 1 s w)).length := by simpa using h3
            obtain ⟨p1, p2, p3⟩ := o1 h3
            obtain ⟨l, hl⟩ := hpre
            have hmin : min since ((ga s).length : Int) = since := by omega
            refine .bd (.ck ?_ ?_)
            · simp only [slB, decide_eq_true_eq]
              simp only [hl, List.length_append, ga] at *
              omega
            · refine ⟨_, cntIter ((ga s).drop since.toNat) ?_ ?_ ?_, ?_⟩
              · simp only [ga] at *
                rw [hmin, Int.toNat_natCast, hl, List.take_left]
              · rw [List.length_drop]; simp only [ga] at *; omega
              · rw [List.length_drop]; simp only [ga] at *; omega
              · exact .condF (by simp; omega) (.one p3)
          · have h3 : ¬ (ga s).length < (ga (stepF 1 s w)).length := by simpa using h3
            subst h2
            exact .one (o2 h3)
        · have h2 : ¬ step = 2 := by simpa using h2
          refine .cond (fun h3 => .one (O.2.2.1 (by simpa using h3))) fun h3 => .one (O.2.2.2 ?_)
          have h3 : ¬ step = 3 := by simpa using h3
          omega
      · intro t ht
        rcases t with ⟨a, b⟩ | c
        · exact .inlE <| .ck64 (by omega) (.cond (fun _ => .one trivial) fun _ => .one ht)
        · exact ht.elim
  · intro t ht
    rcases t with ⟨a, b⟩ | c | c
    · exact .inlE <| .ck64 (by omega) (.one ⟨by simp, ht⟩)
    · exact ht.elim
    · exact .inrE <| .one rfl
theorem whoIter {N : Nat} (hN : 1000 < N) {turns : Int} {list : List Int} (G : Good 1 2 turns list) {w : Nat} (hw : w < 2) :
    iter (alibkeep_MutexTurn_L595 N list w turns (ga (run 1 2 turns list), (run 1 2 turns list).2.2.2.1, 0)) N (-1, 0, 0) = some (.inl ()) := by
  have gl := G.ln
  refine Wp.eq (.iter list.length (fun k x => x.2.2 = (k : Int) ∧ JT (run 1 2 turns (list.take k)) w x.1 x.2.1) (by omega) ⟨rfl, ?_⟩ (fun k x hk hI => ?_) (fun x hI => ?_))
  · refine ⟨by simp, by simp, fun _ => ⟨?_, by simp⟩⟩
    have := pr_init (n := 2) (turns := turns) hw
    simp only [List.take_zero, run, List.foldl_nil]
    rw [this]
  · obtain ⟨since, step, v⟩ := x
    obtain ⟨rfl, T⟩ := hI
    refine Wp.mono (whoBody (since := since) (step := step) hN G hw hk T) fun t ht => ?_
    cases t <;> exact ht
  · obtain ⟨since, step, v⟩ := x
    obtain ⟨rfl, T⟩ := hI
    unfold alibkeep_MutexTurn_L595
    exact .condF (by simp) (.one rfl)
/-- MutexTurn, plainly. -/
theorem turnLaw {N : Nat} (hN : 1000 < N) (hl : alibkeep_mutexLives N = some true) (turns : Int) (list : List Int) : alibkeep_MutexTurn N turns list = some true := by
  refine Wp.eq ?_
  unfold alibkeep_MutexTurn
  by_cases G : Good 1 2 turns list
  · have hp := playOK hN G
    rw [show (2 : Int).toNat = 2 from rfl] at hp
    refine .bdO hp (.bdO hl (.condF (by simp) ?_))
    refine .bdO (a := (.inl () : Unit ⊕ Bool)) ?_ (.one rfl)
    refine iter_up (fun k => (k : Int)) _ 2 _ rfl (fun k hk => Wp.eq ?_) (Wp.eq ?_) N (by omega)
    · unfold alibkeep_MutexTurn_L553
      refine .condT (by simp; omega) (.bdO (whoIter hN G hk) (.inlE ?_))
      exact .ck64 (by omega) (.one (by simp))
    · unfold alibkeep_MutexTurn_L553
      exact .condF (by simp) (.one rfl)
  · refine .seq (playBad hN G) fun r _ hr => .bdO hl (.condT (by simp [hr.2.2]) (.bdO hl (.one rfl)))
end Mx

end Go.Proofs.Ytooaoekfnmakhaa
