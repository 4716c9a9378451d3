/- history: the small ones. -/
import Derived.Test.YtooaoekfnmakhaaH0
set_option linter.unusedVariables false
set_option linter.unusedSimpArgs false
set_option linter.unusedSectionVars false
set_option maxRecDepth 100000
namespace Go.Proofs.Ytooaoekfnmakhaa
open Go.RowKit
theorem isGo42 : IsGo Try.prog 42 := ⟨_, Try.func42, by kernel_rfl, rfl⟩
theorem isGo57 : IsGo Try.prog 57 := ⟨_, Try.func57, by kernel_rfl, rfl⟩
theorem isGo58 : IsGo Try.prog 58 := ⟨_, Try.func58, by kernel_rfl, rfl⟩
/-- Events and calls. -/
structure Ev where
  who : Int
  thing : Int
  kind : Int
  value : Int
deriving DecidableEq
structure Cl where
  who : Int
  thing : Int
  kind : Int
  arg : Int
  res : Int
  from' : Int
  to : Int
deriving DecidableEq
def encE (v : Ev) : List Value := [.int .i64 v.who, .int .i64 v.thing, .int .i64 v.kind, .int .i64 v.value]
def encC (c : Cl) : List Value := [.int .i64 c.who, .int .i64 c.thing, .int .i64 c.kind, .int .i64 c.arg, .int .i64 c.res, .int .i64 c.from', .int .i64 c.to]
theorem lenE (v : Ev) : (encE v).length = 4 := rfl
theorem lenC (c : Cl) : (encC c).length = 7 := rfl
def typeF (k : Int) : Int := if k = 1 ∨ k = 2 then 1 else if k = 3 ∨ k = 4 then 2 else if k = 5 ∨ k = 6 then 3 else if k = 7 ∨ k = 8 ∨ k = 9 then 4 else if k = 10 then 5 else 0
def fitsF (t k : Int) : Bool := !decide (t = 0) && decide (typeF k = t)
def argF (k x : Int) : Bool := if k = 2 ∨ k = 4 ∨ k = 6 ∨ k = 10 then decide (x = 0) else decide (1 ≤ x) && decide (x ≤ 1000)
def resF (k x : Int) : Bool :=
  if k = 2 ∨ k = 10 then decide (0 ≤ x) && decide (x ≤ 1000) else if k = 4 ∨ k = 6 then decide (x = -1) || (decide (1 ≤ x) && decide (x ≤ 1000))
  else if k = 7 ∨ k = 8 ∨ k = 9 then decide (x = 0) || decide (x = 1) else decide (x = 0)
def typesF (ts : List Int) : Int := if (decide ((ts.length : Int) < 1) || decide (4 < (ts.length : Int)) || ts.any (fun t => decide (t < 1) || decide (5 < t))) = true then 1 else 0

theorem typeOf_ok (k : Int) (w : World) : Pure Try.prog 42 [.int .i64 k] w (.int .i64 (typeF k)) := by
  refine W.enter (n := 19) Try.func42 rfl rfl Sub.refl (by simp) (St.start w) fun R hR => ?_
  -- region 0: history.go:11
  refine W.seqR fun Q1 hQ1 => ?_
  refine WL.q (Y.assign (.pl rfl)) rfl ?_
  refine WL.next hQ1 (.cons (i := 0) rfl (.nil)) ?_
  refine W.seq fun K2 hK2 => ?_
  -- region 1: history.go:12
  refine W.seqR fun Q3 hQ3 => ?_
  refine WL.q (Y.move (.pl rfl)) rfl ?_
  refine WL.next hQ3 (.cons (i := 3) rfl (.nil)) ?_
  refine W.block ?_
  refine W.join (γ := Unit) (Em := fun _ => [(4, .bool (decide (k = 1) || decide (k = 2)))]) (M := fun _ => []) (I := fun _ => True) (.cons (i := 3) rfl (.nil)) (fun K4 hK4 => ?_) ?_
  · -- up to J0
    -- region 2: history.go:13
    refine W.seqR fun Q5 hQ5 => ?_
    refine WL.q (Y.eql (.pl rfl) (.pl rfl)) rfl ?_
    refine WL.q (Y.assign (.pl rfl)) rfl ?_
    refine WL.next hQ5 (.cons (i := 3) rfl (.cons (i := 4) rfl (.nil))) ?_
    refine W.cond (.pl rfl) (fun hC0 => ?_) (fun hC0 => ?_)
    · -- C0 yes
      try simp only [Bool.or_eq_true, Bool.and_eq_true, Bool.not_eq_true', decide_eq_true_eq, decide_eq_false_iff_not, Bool.or_eq_false_iff, Bool.and_eq_false_iff, Bool.not_eq_false', Bool.not_eq_eq_eq_not, Bool.not_true, Bool.not_false] at hC0
      refine W.skip ?_
      exact W.joinAt hK4 (()) (by first | trivial | omega) (.cons (eqB (by simp [hC0])) (.nil)) (.cons (i := 3) rfl (.nil)) (fun w hw => hw)
    · -- C0 no
      try simp only [Bool.or_eq_true, Bool.and_eq_true, Bool.not_eq_true', decide_eq_true_eq, decide_eq_false_iff_not, Bool.or_eq_false_iff, Bool.and_eq_false_iff, Bool.not_eq_false', Bool.not_eq_eq_eq_not, Bool.not_true, Bool.not_false] at hC0
      -- region 3: history.go:13
      refine W.reg ?_
      refine WL.q (Y.eql (.pl rfl) (.pl rfl)) rfl ?_
      refine WL.q (Y.assign (.pl rfl)) rfl ?_
      refine WL.nil ?_
      exact W.joinAt hK4 (()) (by first | trivial | omega) (.cons (eqB (by simp [hC0, hC0])) (.nil)) (.cons (i := 3) rfl (.nil)) (fun w hw => hw)
  · -- behind J0
    intro _ _
    refine W.cond (.pl rfl) (fun hC1 => ?_) (fun hC1 => ?_)
    · -- C1 yes
      try simp only [Bool.or_eq_true, Bool.and_eq_true, Bool.not_eq_true', decide_eq_true_eq, decide_eq_false_iff_not, Bool.or_eq_false_iff, Bool.and_eq_false_iff, Bool.not_eq_false', Bool.not_eq_eq_eq_not, Bool.not_true, Bool.not_false] at hC1
      -- region 4: history.go:14
      refine W.seqR fun Q6 hQ6 => ?_
      refine WL.q (Y.assign (.pl rfl)) rfl ?_
      refine WL.next hQ6 (.cons (i := 2) rfl (.nil)) ?_
      refine W.ret1 (fn := Try.f42) Try.results42 rfl (fun _ _ h => h) (fun w hw => ?_)
      refine hR _ _ ?_
      refine ⟨?_, hw⟩
      unfold typeF
      repeat' split
      all_goals first | rfl | (exfalso; omega)
    · -- C1 no
      try simp only [Bool.or_eq_true, Bool.and_eq_true, Bool.not_eq_true', decide_eq_true_eq, decide_eq_false_iff_not, Bool.or_eq_false_iff, Bool.and_eq_false_iff, Bool.not_eq_false', Bool.not_eq_eq_eq_not, Bool.not_true, Bool.not_false] at hC1
      refine W.join (γ := Unit) (Em := fun _ => [(7, .bool (decide (k = 3) || decide (k = 4)))]) (M := fun _ => []) (I := fun _ => True) (.cons (i := 3) rfl (.nil)) (fun K7 hK7 => ?_) ?_
      · -- up to J1
        -- region 5: history.go:15
        refine W.seqR fun Q8 hQ8 => ?_
        refine WL.q (Y.eql (.pl rfl) (.pl rfl)) rfl ?_
        refine WL.q (Y.assign (.pl rfl)) rfl ?_
        refine WL.next hQ8 (.cons (i := 3) rfl (.cons (i := 7) rfl (.nil))) ?_
        refine W.cond (.pl rfl) (fun hC2 => ?_) (fun hC2 => ?_)
        · -- C2 yes
          try simp only [Bool.or_eq_true, Bool.and_eq_true, Bool.not_eq_true', decide_eq_true_eq, decide_eq_false_iff_not, Bool.or_eq_false_iff, Bool.and_eq_false_iff, Bool.not_eq_false', Bool.not_eq_eq_eq_not, Bool.not_true, Bool.not_false] at hC2
          refine W.skip ?_
          exact W.joinAt hK7 (()) (by first | trivial | omega) (.cons (eqB (by simp [hC2])) (.nil)) (.cons (i := 3) rfl (.nil)) (fun w hw => hw)
        · -- C2 no
          try simp only [Bool.or_eq_true, Bool.and_eq_true, Bool.not_eq_true', decide_eq_true_eq, decide_eq_false_iff_not, Bool.or_eq_false_iff, Bool.and_eq_false_iff, Bool.not_eq_false', Bool.not_eq_eq_eq_not, Bool.not_true, Bool.not_false] at hC2
          -- region 6: history.go:15
          refine W.reg ?_
          refine WL.q (Y.eql (.pl rfl) (.pl rfl)) rfl ?_
          refine WL.q (Y.assign (.pl rfl)) rfl ?_
          refine WL.nil ?_
          exact W.joinAt hK7 (()) (by first | trivial | omega) (.cons (eqB (by simp [hC2, hC2])) (.nil)) (.cons (i := 3) rfl (.nil)) (fun w hw => hw)
      · -- behind J1
        intro _ _
        refine W.cond (.pl rfl) (fun hC3 => ?_) (fun hC3 => ?_)
        · -- C3 yes
          try simp only [Bool.or_eq_true, Bool.and_eq_true, Bool.not_eq_true', decide_eq_true_eq, decide_eq_false_iff_not, Bool.or_eq_false_iff, Bool.and_eq_false_iff, Bool.not_eq_false', Bool.not_eq_eq_eq_not, Bool.not_true, Bool.not_false] at hC3
          -- region 7: history.go:16
          refine W.seqR fun Q9 hQ9 => ?_
          refine WL.q (Y.assign (.pl rfl)) rfl ?_
          refine WL.next hQ9 (.cons (i := 2) rfl (.nil)) ?_
          refine W.ret1 (fn := Try.f42) Try.results42 rfl (fun _ _ h => h) (fun w hw => ?_)
          refine hR _ _ ?_
          refine ⟨?_, hw⟩
          unfold typeF
          repeat' split
          all_goals first | rfl | (exfalso; omega)
        · -- C3 no
          try simp only [Bool.or_eq_true, Bool.and_eq_true, Bool.not_eq_true', decide_eq_true_eq, decide_eq_false_iff_not, Bool.or_eq_false_iff, Bool.and_eq_false_iff, Bool.not_eq_false', Bool.not_eq_eq_eq_not, Bool.not_true, Bool.not_false] at hC3
          refine W.join (γ := Unit) (Em := fun _ => [(10, .bool (decide (k = 5) || decide (k = 6)))]) (M := fun _ => []) (I := fun _ => True) (.cons (i := 3) rfl (.nil)) (fun K10 hK10 => ?_) ?_
          · -- up to J2
            -- region 8: history.go:17
            refine W.seqR fun Q11 hQ11 => ?_
            refine WL.q (Y.eql (.pl rfl) (.pl rfl)) rfl ?_
            refine WL.q (Y.assign (.pl rfl)) rfl ?_
            refine WL.next hQ11 (.cons (i := 3) rfl (.cons (i := 10) rfl (.nil))) ?_
            refine W.cond (.pl rfl) (fun hC4 => ?_) (fun hC4 => ?_)
            · -- C4 yes
              try simp only [Bool.or_eq_true, Bool.and_eq_true, Bool.not_eq_true', decide_eq_true_eq, decide_eq_false_iff_not, Bool.or_eq_false_iff, Bool.and_eq_false_iff, Bool.not_eq_false', Bool.not_eq_eq_eq_not, Bool.not_true, Bool.not_false] at hC4
              refine W.skip ?_
              exact W.joinAt hK10 (()) (by first | trivial | omega) (.cons (eqB (by simp [hC4])) (.nil)) (.cons (i := 3) rfl (.nil)) (fun w hw => hw)
            · -- C4 no
              try simp only [Bool.or_eq_true, Bool.and_eq_true, Bool.not_eq_true', decide_eq_true_eq, decide_eq_false_iff_not, Bool.or_eq_false_iff, Bool.and_eq_false_iff, Bool.not_eq_false', Bool.not_eq_eq_eq_not, Bool.not_true, Bool.not_false] at hC4
              -- region 9: history.go:17
              refine W.reg ?_
              refine WL.q (Y.eql (.pl rfl) (.pl rfl)) rfl ?_
              refine WL.q (Y.assign (.pl rfl)) rfl ?_
              refine WL.nil ?_
              exact W.joinAt hK10 (()) (by first | trivial | omega) (.cons (eqB (by simp [hC4, hC4])) (.nil)) (.cons (i := 3) rfl (.nil)) (fun w hw => hw)
          · -- behind J2
            intro _ _
            refine W.cond (.pl rfl) (fun hC5 => ?_) (fun hC5 => ?_)
            · -- C5 yes
              try simp only [Bool.or_eq_true, Bool.and_eq_true, Bool.not_eq_true', decide_eq_true_eq, decide_eq_false_iff_not, Bool.or_eq_false_iff, Bool.and_eq_false_iff, Bool.not_eq_false', Bool.not_eq_eq_eq_not, Bool.not_true, Bool.not_false] at hC5
              -- region 10: history.go:18
              refine W.seqR fun Q12 hQ12 => ?_
              refine WL.q (Y.assign (.pl rfl)) rfl ?_
              refine WL.next hQ12 (.cons (i := 2) rfl (.nil)) ?_
              refine W.ret1 (fn := Try.f42) Try.results42 rfl (fun _ _ h => h) (fun w hw => ?_)
              refine hR _ _ ?_
              refine ⟨?_, hw⟩
              unfold typeF
              repeat' split
              all_goals first | rfl | (exfalso; omega)
            · -- C5 no
              try simp only [Bool.or_eq_true, Bool.and_eq_true, Bool.not_eq_true', decide_eq_true_eq, decide_eq_false_iff_not, Bool.or_eq_false_iff, Bool.and_eq_false_iff, Bool.not_eq_false', Bool.not_eq_eq_eq_not, Bool.not_true, Bool.not_false] at hC5
              refine W.join (γ := Unit) (Em := fun _ => [(13, .bool (decide (k = 7) || decide (k = 8) || decide (k = 9)))]) (M := fun _ => []) (I := fun _ => True) (.cons (i := 3) rfl (.nil)) (fun K13 hK13 => ?_) ?_
              · -- up to J3
                -- region 11: history.go:19
                refine W.seqR fun Q14 hQ14 => ?_
                refine WL.q (Y.eql (.pl rfl) (.pl rfl)) rfl ?_
                refine WL.q (Y.assign (.pl rfl)) rfl ?_
                refine WL.next hQ14 (.cons (i := 3) rfl (.cons (i := 13) rfl (.nil))) ?_
                refine W.cond (.pl rfl) (fun hC6 => ?_) (fun hC6 => ?_)
                · -- C6 yes
                  try simp only [Bool.or_eq_true, Bool.and_eq_true, Bool.not_eq_true', decide_eq_true_eq, decide_eq_false_iff_not, Bool.or_eq_false_iff, Bool.and_eq_false_iff, Bool.not_eq_false', Bool.not_eq_eq_eq_not, Bool.not_true, Bool.not_false] at hC6
                  refine W.skip ?_
                  exact W.joinAt hK13 (()) (by first | trivial | omega) (.cons (eqB (by simp [hC6])) (.nil)) (.cons (i := 3) rfl (.nil)) (fun w hw => hw)
                · -- C6 no
                  try simp only [Bool.or_eq_true, Bool.and_eq_true, Bool.not_eq_true', decide_eq_true_eq, decide_eq_false_iff_not, Bool.or_eq_false_iff, Bool.and_eq_false_iff, Bool.not_eq_false', Bool.not_eq_eq_eq_not, Bool.not_true, Bool.not_false] at hC6
                  -- region 12: history.go:19
                  refine W.seqR fun Q15 hQ15 => ?_
                  refine WL.q (Y.eql (.pl rfl) (.pl rfl)) rfl ?_
                  refine WL.q (Y.assign (.pl rfl)) rfl ?_
                  refine WL.next hQ15 (.cons (i := 3) rfl (.cons (i := 13) rfl (.nil))) ?_
                  refine W.cond (.pl rfl) (fun hC7 => ?_) (fun hC7 => ?_)
                  · -- C7 yes
                    try simp only [Bool.or_eq_true, Bool.and_eq_true, Bool.not_eq_true', decide_eq_true_eq, decide_eq_false_iff_not, Bool.or_eq_false_iff, Bool.and_eq_false_iff, Bool.not_eq_false', Bool.not_eq_eq_eq_not, Bool.not_true, Bool.not_false] at hC7
                    refine W.skip ?_
                    exact W.joinAt hK13 (()) (by first | trivial | omega) (.cons (eqB (by simp [hC6, hC7])) (.nil)) (.cons (i := 3) rfl (.nil)) (fun w hw => hw)
                  · -- C7 no
                    try simp only [Bool.or_eq_true, Bool.and_eq_true, Bool.not_eq_true', decide_eq_true_eq, decide_eq_false_iff_not, Bool.or_eq_false_iff, Bool.and_eq_false_iff, Bool.not_eq_false', Bool.not_eq_eq_eq_not, Bool.not_true, Bool.not_false] at hC7
                    -- region 13: history.go:19
                    refine W.reg ?_
                    refine WL.q (Y.eql (.pl rfl) (.pl rfl)) rfl ?_
                    refine WL.q (Y.assign (.pl rfl)) rfl ?_
                    refine WL.nil ?_
                    exact W.joinAt hK13 (()) (by first | trivial | omega) (.cons (eqB (by simp [hC6, hC7, hC7])) (.nil)) (.cons (i := 3) rfl (.nil)) (fun w hw => hw)
              · -- behind J3
                intro _ _
                refine W.cond (.pl rfl) (fun hC8 => ?_) (fun hC8 => ?_)
                · -- C8 yes
                  try simp only [Bool.or_eq_true, Bool.and_eq_true, Bool.not_eq_true', decide_eq_true_eq, decide_eq_false_iff_not, Bool.or_eq_false_iff, Bool.and_eq_false_iff, Bool.not_eq_false', Bool.not_eq_eq_eq_not, Bool.not_true, Bool.not_false] at hC8
                  -- region 14: history.go:20
                  refine W.seqR fun Q16 hQ16 => ?_
                  refine WL.q (Y.assign (.pl rfl)) rfl ?_
                  refine WL.next hQ16 (.cons (i := 2) rfl (.nil)) ?_
                  refine W.ret1 (fn := Try.f42) Try.results42 rfl (fun _ _ h => h) (fun w hw => ?_)
                  refine hR _ _ ?_
                  refine ⟨?_, hw⟩
                  unfold typeF
                  repeat' split
                  all_goals first | rfl | (exfalso; omega)
                · -- C8 no
                  try simp only [Bool.or_eq_true, Bool.and_eq_true, Bool.not_eq_true', decide_eq_true_eq, decide_eq_false_iff_not, Bool.or_eq_false_iff, Bool.and_eq_false_iff, Bool.not_eq_false', Bool.not_eq_eq_eq_not, Bool.not_true, Bool.not_false] at hC8
                  -- region 15: history.go:21
                  refine W.seqR fun Q17 hQ17 => ?_
                  refine WL.q (Y.eql (.pl rfl) (.pl rfl)) rfl ?_
                  refine WL.q (Y.assign (.pl rfl)) rfl ?_
                  refine WL.next hQ17 (.cons (i := 17) rfl (.nil)) ?_
                  refine W.cond (.pl rfl) (fun hC9 => ?_) (fun hC9 => ?_)
                  · -- C9 yes
                    try simp only [Bool.or_eq_true, Bool.and_eq_true, Bool.not_eq_true', decide_eq_true_eq, decide_eq_false_iff_not, Bool.or_eq_false_iff, Bool.and_eq_false_iff, Bool.not_eq_false', Bool.not_eq_eq_eq_not, Bool.not_true, Bool.not_false] at hC9
                    -- region 16: history.go:22
                    refine W.seqR fun Q18 hQ18 => ?_
                    refine WL.q (Y.assign (.pl rfl)) rfl ?_
                    refine WL.next hQ18 (.cons (i := 2) rfl (.nil)) ?_
                    refine W.ret1 (fn := Try.f42) Try.results42 rfl (fun _ _ h => h) (fun w hw => ?_)
                    refine hR _ _ ?_
                    refine ⟨?_, hw⟩
                    unfold typeF
                    repeat' split
                    all_goals first | rfl | (exfalso; omega)
                  · -- C9 no
                    try simp only [Bool.or_eq_true, Bool.and_eq_true, Bool.not_eq_true', decide_eq_true_eq, decide_eq_false_iff_not, Bool.or_eq_false_iff, Bool.and_eq_false_iff, Bool.not_eq_false', Bool.not_eq_eq_eq_not, Bool.not_true, Bool.not_false] at hC9
                    refine W.skip ?_
                    refine W.go hK2 (.nil) ?_
                    -- region 17: history.go:24
                    refine W.seqR fun Q19 hQ19 => ?_
                    refine WL.q (Y.assign (.pl rfl)) rfl ?_
                    refine WL.next hQ19 (.cons (i := 2) rfl (.nil)) ?_
                    refine W.ret1 (fn := Try.f42) Try.results42 rfl (fun _ _ h => h) (fun w hw => ?_)
                    refine hR _ _ ?_
                    refine ⟨?_, hw⟩
                    unfold typeF
                    repeat' split
                    all_goals first | rfl | (exfalso; omega)

theorem fits_ok (t k : Int) (w : World) : Pure Try.prog 22 [.int .i64 t, .int .i64 k] w (.bool (fitsF t k)) := by
  refine W.enter (n := 13) Try.func22 rfl rfl Sub.refl (by simp) (St.start w) fun R hR => ?_
  -- region 0: history.go:28
  refine W.seqR fun Q1 hQ1 => ?_
  refine WL.q (Y.assign (.pl rfl)) rfl ?_
  refine WL.next hQ1 (.cons (i := 0) rfl (.cons (i := 1) rfl (.nil))) ?_
  -- region 1: history.go:28
  refine W.seqR fun Q2 hQ2 => ?_
  refine WL.q (Y.move (.pl rfl)) rfl ?_
  refine WL.q (Y.neq (.pl rfl) (.pl rfl)) rfl ?_
  refine WL.q (Y.move (.pl rfl)) rfl ?_
  refine WL.g (.pl rfl rfl rfl) (fun _ => Y.move (.pl rfl)) rfl ?_
  refine WL.gP (.pl rfl rfl rfl) isGo42 (fun hg => (.cons (.gd (hg) rfl) (.nil))) rfl (fun hg w hw => typeOf_ok k w) ?_
  refine WL.g (.pl rfl rfl rfl) (fun _ => Y.move (.pl rfl)) rfl ?_
  refine WL.g (.pl rfl rfl rfl) (fun hg => Y.eql (.gd (hg) rfl) (.gd (hg) rfl)) rfl ?_
  refine WL.q (Y.and (.pl rfl) (fun h2 => .gd (eqt h2) rfl)) rfl ?_
  refine WL.q (Y.assign (.pl rfl)) rfl ?_
  refine WL.next hQ2 (.cons (i := 4) rfl (.nil)) ?_
  refine W.ret1 (fn := Try.f22) Try.results22 rfl (fun _ _ h => h) (fun w hw => ?_)
  refine hR _ _ ?_
  exact ⟨rfl, hw⟩

theorem arg_ok (k x : Int) (w : World) : Pure Try.prog 59 [.int .i64 k, .int .i64 x] w (.bool (argF k x)) := by
  refine W.enter (n := 19) Try.func59 rfl rfl Sub.refl (by simp) (St.start w) fun R hR => ?_
  -- region 0: history.go:31
  refine W.seqR fun Q1 hQ1 => ?_
  refine WL.q (Y.assign (.pl rfl)) rfl ?_
  refine WL.next hQ1 (.cons (i := 0) rfl (.cons (i := 1) rfl (.nil))) ?_
  refine W.seq fun K2 hK2 => ?_
  -- region 1: history.go:32
  refine W.seqR fun Q3 hQ3 => ?_
  refine WL.q (Y.move (.pl rfl)) rfl ?_
  refine WL.next hQ3 (.cons (i := 1) rfl (.cons (i := 5) rfl (.nil))) ?_
  refine W.block ?_
  refine W.join (γ := Unit) (Em := fun _ => [(6, .bool (decide (k = 2) || decide (k = 4) || decide (k = 6) || decide (k = 10)))]) (M := fun _ => []) (I := fun _ => True) (.cons (i := 1) rfl (.nil)) (fun K4 hK4 => ?_) ?_
  · -- up to J0
    -- region 2: history.go:33
    refine W.seqR fun Q5 hQ5 => ?_
    refine WL.q (Y.eql (.pl rfl) (.pl rfl)) rfl ?_
    refine WL.q (Y.assign (.pl rfl)) rfl ?_
    refine WL.next hQ5 (.cons (i := 1) rfl (.cons (i := 5) rfl (.cons (i := 6) rfl (.nil)))) ?_
    refine W.cond (.pl rfl) (fun hC0 => ?_) (fun hC0 => ?_)
    · -- C0 yes
      try simp only [Bool.or_eq_true, Bool.and_eq_true, Bool.not_eq_true', decide_eq_true_eq, decide_eq_false_iff_not, Bool.or_eq_false_iff, Bool.and_eq_false_iff, Bool.not_eq_false', Bool.not_eq_eq_eq_not, Bool.not_true, Bool.not_false] at hC0
      refine W.skip ?_
      exact W.joinAt hK4 (()) (by first | trivial | omega) (.cons (eqB (by simp [hC0])) (.nil)) (.cons (i := 1) rfl (.nil)) (fun w hw => hw)
    · -- C0 no
      try simp only [Bool.or_eq_true, Bool.and_eq_true, Bool.not_eq_true', decide_eq_true_eq, decide_eq_false_iff_not, Bool.or_eq_false_iff, Bool.and_eq_false_iff, Bool.not_eq_false', Bool.not_eq_eq_eq_not, Bool.not_true, Bool.not_false] at hC0
      -- region 3: history.go:33
      refine W.seqR fun Q6 hQ6 => ?_
      refine WL.q (Y.eql (.pl rfl) (.pl rfl)) rfl ?_
      refine WL.q (Y.assign (.pl rfl)) rfl ?_
      refine WL.next hQ6 (.cons (i := 1) rfl (.cons (i := 5) rfl (.cons (i := 6) rfl (.nil)))) ?_
      refine W.cond (.pl rfl) (fun hC1 => ?_) (fun hC1 => ?_)
      · -- C1 yes
        try simp only [Bool.or_eq_true, Bool.and_eq_true, Bool.not_eq_true', decide_eq_true_eq, decide_eq_false_iff_not, Bool.or_eq_false_iff, Bool.and_eq_false_iff, Bool.not_eq_false', Bool.not_eq_eq_eq_not, Bool.not_true, Bool.not_false] at hC1
        refine W.skip ?_
        exact W.joinAt hK4 (()) (by first | trivial | omega) (.cons (eqB (by simp [hC0, hC1])) (.nil)) (.cons (i := 1) rfl (.nil)) (fun w hw => hw)
      · -- C1 no
        try simp only [Bool.or_eq_true, Bool.and_eq_true, Bool.not_eq_true', decide_eq_true_eq, decide_eq_false_iff_not, Bool.or_eq_false_iff, Bool.and_eq_false_iff, Bool.not_eq_false', Bool.not_eq_eq_eq_not, Bool.not_true, Bool.not_false] at hC1
        -- region 4: history.go:33
        refine W.seqR fun Q7 hQ7 => ?_
        refine WL.q (Y.eql (.pl rfl) (.pl rfl)) rfl ?_
        refine WL.q (Y.assign (.pl rfl)) rfl ?_
        refine WL.next hQ7 (.cons (i := 1) rfl (.cons (i := 5) rfl (.cons (i := 6) rfl (.nil)))) ?_
        refine W.cond (.pl rfl) (fun hC2 => ?_) (fun hC2 => ?_)
        · -- C2 yes
          try simp only [Bool.or_eq_true, Bool.and_eq_true, Bool.not_eq_true', decide_eq_true_eq, decide_eq_false_iff_not, Bool.or_eq_false_iff, Bool.and_eq_false_iff, Bool.not_eq_false', Bool.not_eq_eq_eq_not, Bool.not_true, Bool.not_false] at hC2
          refine W.skip ?_
          exact W.joinAt hK4 (()) (by first | trivial | omega) (.cons (eqB (by simp [hC0, hC1, hC2])) (.nil)) (.cons (i := 1) rfl (.nil)) (fun w hw => hw)
        · -- C2 no
          try simp only [Bool.or_eq_true, Bool.and_eq_true, Bool.not_eq_true', decide_eq_true_eq, decide_eq_false_iff_not, Bool.or_eq_false_iff, Bool.and_eq_false_iff, Bool.not_eq_false', Bool.not_eq_eq_eq_not, Bool.not_true, Bool.not_false] at hC2
          -- region 5: history.go:33
          refine W.reg ?_
          refine WL.q (Y.eql (.pl rfl) (.pl rfl)) rfl ?_
          refine WL.q (Y.assign (.pl rfl)) rfl ?_
          refine WL.nil ?_
          exact W.joinAt hK4 (()) (by first | trivial | omega) (.cons (eqB (by simp [hC0, hC1, hC2, hC2])) (.nil)) (.cons (i := 1) rfl (.nil)) (fun w hw => hw)
  · -- behind J0
    intro _ _
    refine W.cond (.pl rfl) (fun hC3 => ?_) (fun hC3 => ?_)
    · -- C3 yes
      try simp only [Bool.or_eq_true, Bool.and_eq_true, Bool.not_eq_true', decide_eq_true_eq, decide_eq_false_iff_not, Bool.or_eq_false_iff, Bool.and_eq_false_iff, Bool.not_eq_false', Bool.not_eq_eq_eq_not, Bool.not_true, Bool.not_false] at hC3
      -- region 6: history.go:34
      refine W.seqR fun Q8 hQ8 => ?_
      refine WL.q (Y.move (.pl rfl)) rfl ?_
      refine WL.q (Y.eql (.pl rfl) (.pl rfl)) rfl ?_
      refine WL.q (Y.assign (.pl rfl)) rfl ?_
      refine WL.next hQ8 (.cons (i := 4) rfl (.nil)) ?_
      refine W.ret1 (fn := Try.f59) Try.results59 rfl (fun _ _ h => h) (fun w hw => ?_)
      refine hR _ _ ?_
      refine ⟨?_, hw⟩
      unfold argF
      repeat' split
      all_goals first | rfl | (exfalso; omega)
    · -- C3 no
      try simp only [Bool.or_eq_true, Bool.and_eq_true, Bool.not_eq_true', decide_eq_true_eq, decide_eq_false_iff_not, Bool.or_eq_false_iff, Bool.and_eq_false_iff, Bool.not_eq_false', Bool.not_eq_eq_eq_not, Bool.not_true, Bool.not_false] at hC3
      refine W.skip ?_
      refine W.go hK2 (.cons (i := 1) rfl (.nil)) ?_
      -- region 7: history.go:36
      refine W.seqR fun Q9 hQ9 => ?_
      refine WL.q (Y.move (.pl rfl)) rfl ?_
      refine WL.q (Y.geq (.pl rfl) (.pl rfl)) rfl ?_
      refine WL.q (Y.move (.pl rfl)) rfl ?_
      refine WL.g (.pl rfl rfl rfl) (fun _ => Y.move (.pl rfl)) rfl ?_
      refine WL.g (.pl rfl rfl rfl) (fun hg => Y.leq (.gd (hg) rfl) (.pl rfl)) rfl ?_
      refine WL.q (Y.and (.pl rfl) (fun h2 => .gd (eqt h2) rfl)) rfl ?_
      refine WL.q (Y.assign (.pl rfl)) rfl ?_
      refine WL.next hQ9 (.cons (i := 4) rfl (.nil)) ?_
      refine W.ret1 (fn := Try.f59) Try.results59 rfl (fun _ _ h => h) (fun w hw => ?_)
      refine hR _ _ ?_
      refine ⟨?_, hw⟩
      unfold argF
      repeat' split
      all_goals first | rfl | (exfalso; omega)

theorem res_ok (k x : Int) (w : World) : Pure Try.prog 60 [.int .i64 k, .int .i64 x] w (.bool (resF k x)) := by
  refine W.enter (n := 40) Try.func60 rfl rfl Sub.refl (by simp) (St.start w) fun R hR => ?_
  -- region 0: history.go:40
  refine W.seqR fun Q1 hQ1 => ?_
  refine WL.q (Y.assign (.pl rfl)) rfl ?_
  refine WL.next hQ1 (.cons (i := 0) rfl (.cons (i := 1) rfl (.nil))) ?_
  refine W.seq fun K2 hK2 => ?_
  -- region 1: history.go:41
  refine W.seqR fun Q3 hQ3 => ?_
  refine WL.q (Y.move (.pl rfl)) rfl ?_
  refine WL.next hQ3 (.cons (i := 1) rfl (.cons (i := 5) rfl (.nil))) ?_
  refine W.block ?_
  refine W.join (γ := Unit) (Em := fun _ => [(6, .bool (decide (k = 2) || decide (k = 10)))]) (M := fun _ => []) (I := fun _ => True) (.cons (i := 1) rfl (.cons (i := 5) rfl (.nil))) (fun K4 hK4 => ?_) ?_
  · -- up to J0
    -- region 2: history.go:42
    refine W.seqR fun Q5 hQ5 => ?_
    refine WL.q (Y.eql (.pl rfl) (.pl rfl)) rfl ?_
    refine WL.q (Y.assign (.pl rfl)) rfl ?_
    refine WL.next hQ5 (.cons (i := 1) rfl (.cons (i := 5) rfl (.cons (i := 6) rfl (.nil)))) ?_
    refine W.cond (.pl rfl) (fun hC0 => ?_) (fun hC0 => ?_)
    · -- C0 yes
      try simp only [Bool.or_eq_true, Bool.and_eq_true, Bool.not_eq_true', decide_eq_true_eq, decide_eq_false_iff_not, Bool.or_eq_false_iff, Bool.and_eq_false_iff, Bool.not_eq_false', Bool.not_eq_eq_eq_not, Bool.not_true, Bool.not_false] at hC0
      refine W.skip ?_
      exact W.joinAt hK4 (()) (by first | trivial | omega) (.cons (eqB (by simp [hC0])) (.nil)) (.cons (i := 1) rfl (.cons (i := 5) rfl (.nil))) (fun w hw => hw)
    · -- C0 no
      try simp only [Bool.or_eq_true, Bool.and_eq_true, Bool.not_eq_true', decide_eq_true_eq, decide_eq_false_iff_not, Bool.or_eq_false_iff, Bool.and_eq_false_iff, Bool.not_eq_false', Bool.not_eq_eq_eq_not, Bool.not_true, Bool.not_false] at hC0
      -- region 3: history.go:42
      refine W.reg ?_
      refine WL.q (Y.eql (.pl rfl) (.pl rfl)) rfl ?_
      refine WL.q (Y.assign (.pl rfl)) rfl ?_
      refine WL.nil ?_
      exact W.joinAt hK4 (()) (by first | trivial | omega) (.cons (eqB (by simp [hC0, hC0])) (.nil)) (.cons (i := 1) rfl (.cons (i := 5) rfl (.nil))) (fun w hw => hw)
  · -- behind J0
    intro _ _
    refine W.cond (.pl rfl) (fun hC1 => ?_) (fun hC1 => ?_)
    · -- C1 yes
      try simp only [Bool.or_eq_true, Bool.and_eq_true, Bool.not_eq_true', decide_eq_true_eq, decide_eq_false_iff_not, Bool.or_eq_false_iff, Bool.and_eq_false_iff, Bool.not_eq_false', Bool.not_eq_eq_eq_not, Bool.not_true, Bool.not_false] at hC1
      -- region 4: history.go:43
      refine W.seqR fun Q6 hQ6 => ?_
      refine WL.q (Y.move (.pl rfl)) rfl ?_
      refine WL.q (Y.geq (.pl rfl) (.pl rfl)) rfl ?_
      refine WL.q (Y.move (.pl rfl)) rfl ?_
      refine WL.g (.pl rfl rfl rfl) (fun _ => Y.move (.pl rfl)) rfl ?_
      refine WL.g (.pl rfl rfl rfl) (fun hg => Y.leq (.gd (hg) rfl) (.pl rfl)) rfl ?_
      refine WL.q (Y.and (.pl rfl) (fun h2 => .gd (eqt h2) rfl)) rfl ?_
      refine WL.q (Y.assign (.pl rfl)) rfl ?_
      refine WL.next hQ6 (.cons (i := 4) rfl (.nil)) ?_
      refine W.ret1 (fn := Try.f60) Try.results60 rfl (fun _ _ h => h) (fun w hw => ?_)
      refine hR _ _ ?_
      refine ⟨?_, hw⟩
      unfold resF
      repeat' split
      all_goals first | rfl | (exfalso; omega)
    · -- C1 no
      try simp only [Bool.or_eq_true, Bool.and_eq_true, Bool.not_eq_true', decide_eq_true_eq, decide_eq_false_iff_not, Bool.or_eq_false_iff, Bool.and_eq_false_iff, Bool.not_eq_false', Bool.not_eq_eq_eq_not, Bool.not_true, Bool.not_false] at hC1
      refine W.join (γ := Unit) (Em := fun _ => [(15, .bool (decide (k = 4) || decide (k = 6)))]) (M := fun _ => []) (I := fun _ => True) (.cons (i := 1) rfl (.cons (i := 5) rfl (.nil))) (fun K7 hK7 => ?_) ?_
      · -- up to J1
        -- region 5: history.go:44
        refine W.seqR fun Q8 hQ8 => ?_
        refine WL.q (Y.eql (.pl rfl) (.pl rfl)) rfl ?_
        refine WL.q (Y.assign (.pl rfl)) rfl ?_
        refine WL.next hQ8 (.cons (i := 1) rfl (.cons (i := 5) rfl (.cons (i := 15) rfl (.nil)))) ?_
        refine W.cond (.pl rfl) (fun hC2 => ?_) (fun hC2 => ?_)
        · -- C2 yes
          try simp only [Bool.or_eq_true, Bool.and_eq_true, Bool.not_eq_true', decide_eq_true_eq, decide_eq_false_iff_not, Bool.or_eq_false_iff, Bool.and_eq_false_iff, Bool.not_eq_false', Bool.not_eq_eq_eq_not, Bool.not_true, Bool.not_false] at hC2
          refine W.skip ?_
          exact W.joinAt hK7 (()) (by first | trivial | omega) (.cons (eqB (by simp [hC2])) (.nil)) (.cons (i := 1) rfl (.cons (i := 5) rfl (.nil))) (fun w hw => hw)
        · -- C2 no
          try simp only [Bool.or_eq_true, Bool.and_eq_true, Bool.not_eq_true', decide_eq_true_eq, decide_eq_false_iff_not, Bool.or_eq_false_iff, Bool.and_eq_false_iff, Bool.not_eq_false', Bool.not_eq_eq_eq_not, Bool.not_true, Bool.not_false] at hC2
          -- region 6: history.go:44
          refine W.reg ?_
          refine WL.q (Y.eql (.pl rfl) (.pl rfl)) rfl ?_
          refine WL.q (Y.assign (.pl rfl)) rfl ?_
          refine WL.nil ?_
          exact W.joinAt hK7 (()) (by first | trivial | omega) (.cons (eqB (by simp [hC2, hC2])) (.nil)) (.cons (i := 1) rfl (.cons (i := 5) rfl (.nil))) (fun w hw => hw)
      · -- behind J1
        intro _ _
        refine W.cond (.pl rfl) (fun hC3 => ?_) (fun hC3 => ?_)
        · -- C3 yes
          try simp only [Bool.or_eq_true, Bool.and_eq_true, Bool.not_eq_true', decide_eq_true_eq, decide_eq_false_iff_not, Bool.or_eq_false_iff, Bool.and_eq_false_iff, Bool.not_eq_false', Bool.not_eq_eq_eq_not, Bool.not_true, Bool.not_false] at hC3
          -- region 7: history.go:45
          refine W.seqR fun Q9 hQ9 => ?_
          refine WL.q (Y.move (.pl rfl)) rfl ?_
          refine WL.q (Y.eql (.pl rfl) (.pl rfl)) rfl ?_
          refine WL.q (Y.move (.pl rfl)) rfl ?_
          refine WL.g (.pl rfl rfl rfl) (fun _ => Y.move (.pl rfl)) rfl ?_
          refine WL.g (.pl rfl rfl rfl) (fun hg => Y.geq (.gd (hg) rfl) (.pl rfl)) rfl ?_
          refine WL.g (.pl rfl rfl rfl) (fun hg => Y.move (.gd (hg) rfl)) rfl ?_
          refine WL.g (.gd rfl rfl rfl) (fun _ => Y.move (.pl rfl)) rfl ?_
          refine WL.g (.gd rfl rfl rfl) (fun hg => Y.leq (.gd (hg) rfl) (.pl rfl)) rfl ?_
          refine WL.g (.pl rfl rfl rfl) (fun hg => Y.and (.gd (hg) rfl) (fun h2 => .gd (band hg (eqt h2)) rfl)) rfl ?_
          refine WL.q (Y.or (.pl rfl) (fun h2 => .gd (eqf h2) rfl)) rfl ?_
          refine WL.q (Y.assign (.pl rfl)) rfl ?_
          refine WL.next hQ9 (.cons (i := 4) rfl (.nil)) ?_
          refine W.ret1 (fn := Try.f60) Try.results60 rfl (fun _ _ h => h) (fun w hw => ?_)
          refine hR _ _ ?_
          refine ⟨?_, hw⟩
          unfold resF
          repeat' split
          all_goals first | rfl | (exfalso; omega)
        · -- C3 no
          try simp only [Bool.or_eq_true, Bool.and_eq_true, Bool.not_eq_true', decide_eq_true_eq, decide_eq_false_iff_not, Bool.or_eq_false_iff, Bool.and_eq_false_iff, Bool.not_eq_false', Bool.not_eq_eq_eq_not, Bool.not_true, Bool.not_false] at hC3
          refine W.join (γ := Unit) (Em := fun _ => [(28, .bool (decide (k = 7) || decide (k = 8) || decide (k = 9)))]) (M := fun _ => []) (I := fun _ => True) (.cons (i := 1) rfl (.nil)) (fun K10 hK10 => ?_) ?_
          · -- up to J2
            -- region 8: history.go:46
            refine W.seqR fun Q11 hQ11 => ?_
            refine WL.q (Y.eql (.pl rfl) (.pl rfl)) rfl ?_
            refine WL.q (Y.assign (.pl rfl)) rfl ?_
            refine WL.next hQ11 (.cons (i := 1) rfl (.cons (i := 5) rfl (.cons (i := 28) rfl (.nil)))) ?_
            refine W.cond (.pl rfl) (fun hC4 => ?_) (fun hC4 => ?_)
            · -- C4 yes
              try simp only [Bool.or_eq_true, Bool.and_eq_true, Bool.not_eq_true', decide_eq_true_eq, decide_eq_false_iff_not, Bool.or_eq_false_iff, Bool.and_eq_false_iff, Bool.not_eq_false', Bool.not_eq_eq_eq_not, Bool.not_true, Bool.not_false] at hC4
              refine W.skip ?_
              exact W.joinAt hK10 (()) (by first | trivial | omega) (.cons (eqB (by simp [hC4])) (.nil)) (.cons (i := 1) rfl (.nil)) (fun w hw => hw)
            · -- C4 no
              try simp only [Bool.or_eq_true, Bool.and_eq_true, Bool.not_eq_true', decide_eq_true_eq, decide_eq_false_iff_not, Bool.or_eq_false_iff, Bool.and_eq_false_iff, Bool.not_eq_false', Bool.not_eq_eq_eq_not, Bool.not_true, Bool.not_false] at hC4
              -- region 9: history.go:46
              refine W.seqR fun Q12 hQ12 => ?_
              refine WL.q (Y.eql (.pl rfl) (.pl rfl)) rfl ?_
              refine WL.q (Y.assign (.pl rfl)) rfl ?_
              refine WL.next hQ12 (.cons (i := 1) rfl (.cons (i := 5) rfl (.cons (i := 28) rfl (.nil)))) ?_
              refine W.cond (.pl rfl) (fun hC5 => ?_) (fun hC5 => ?_)
              · -- C5 yes
                try simp only [Bool.or_eq_true, Bool.and_eq_true, Bool.not_eq_true', decide_eq_true_eq, decide_eq_false_iff_not, Bool.or_eq_false_iff, Bool.and_eq_false_iff, Bool.not_eq_false', Bool.not_eq_eq_eq_not, Bool.not_true, Bool.not_false] at hC5
                refine W.skip ?_
                exact W.joinAt hK10 (()) (by first | trivial | omega) (.cons (eqB (by simp [hC4, hC5])) (.nil)) (.cons (i := 1) rfl (.nil)) (fun w hw => hw)
              · -- C5 no
                try simp only [Bool.or_eq_true, Bool.and_eq_true, Bool.not_eq_true', decide_eq_true_eq, decide_eq_false_iff_not, Bool.or_eq_false_iff, Bool.and_eq_false_iff, Bool.not_eq_false', Bool.not_eq_eq_eq_not, Bool.not_true, Bool.not_false] at hC5
                -- region 10: history.go:46
                refine W.reg ?_
                refine WL.q (Y.eql (.pl rfl) (.pl rfl)) rfl ?_
                refine WL.q (Y.assign (.pl rfl)) rfl ?_
                refine WL.nil ?_
                exact W.joinAt hK10 (()) (by first | trivial | omega) (.cons (eqB (by simp [hC4, hC5, hC5])) (.nil)) (.cons (i := 1) rfl (.nil)) (fun w hw => hw)
          · -- behind J2
            intro _ _
            refine W.cond (.pl rfl) (fun hC6 => ?_) (fun hC6 => ?_)
            · -- C6 yes
              try simp only [Bool.or_eq_true, Bool.and_eq_true, Bool.not_eq_true', decide_eq_true_eq, decide_eq_false_iff_not, Bool.or_eq_false_iff, Bool.and_eq_false_iff, Bool.not_eq_false', Bool.not_eq_eq_eq_not, Bool.not_true, Bool.not_false] at hC6
              -- region 11: history.go:47
              refine W.seqR fun Q13 hQ13 => ?_
              refine WL.q (Y.move (.pl rfl)) rfl ?_
              refine WL.q (Y.eql (.pl rfl) (.pl rfl)) rfl ?_
              refine WL.q (Y.move (.pl rfl)) rfl ?_
              refine WL.g (.pl rfl rfl rfl) (fun _ => Y.move (.pl rfl)) rfl ?_
              refine WL.g (.pl rfl rfl rfl) (fun hg => Y.eql (.gd (hg) rfl) (.pl rfl)) rfl ?_
              refine WL.q (Y.or (.pl rfl) (fun h2 => .gd (eqf h2) rfl)) rfl ?_
              refine WL.q (Y.assign (.pl rfl)) rfl ?_
              refine WL.next hQ13 (.cons (i := 4) rfl (.nil)) ?_
              refine W.ret1 (fn := Try.f60) Try.results60 rfl (fun _ _ h => h) (fun w hw => ?_)
              refine hR _ _ ?_
              refine ⟨?_, hw⟩
              unfold resF
              repeat' split
              all_goals first | rfl | (exfalso; omega)
            · -- C6 no
              try simp only [Bool.or_eq_true, Bool.and_eq_true, Bool.not_eq_true', decide_eq_true_eq, decide_eq_false_iff_not, Bool.or_eq_false_iff, Bool.and_eq_false_iff, Bool.not_eq_false', Bool.not_eq_eq_eq_not, Bool.not_true, Bool.not_false] at hC6
              refine W.skip ?_
              refine W.go hK2 (.cons (i := 1) rfl (.nil)) ?_
              -- region 12: history.go:49
              refine W.seqR fun Q14 hQ14 => ?_
              refine WL.q (Y.move (.pl rfl)) rfl ?_
              refine WL.q (Y.eql (.pl rfl) (.pl rfl)) rfl ?_
              refine WL.q (Y.assign (.pl rfl)) rfl ?_
              refine WL.next hQ14 (.cons (i := 4) rfl (.nil)) ?_
              refine W.ret1 (fn := Try.f60) Try.results60 rfl (fun _ _ h => h) (fun w hw => ?_)
              refine hR _ _ ?_
              refine ⟨?_, hw⟩
              unfold resF
              repeat' split
              all_goals first | rfl | (exfalso; omega)

theorem types1_ok (t : Int) (w : World) : Pure Try.prog 57 [.int .i64 t] w (.bool (decide (t < 1) || decide (5 < t))) := by
  refine W.enter (n := 9) Try.func57 rfl rfl Sub.refl (by simp) (St.start w) fun R hR => ?_
  -- region 0: history.go:54
  refine W.seqR fun Q1 hQ1 => ?_
  refine WL.q (Y.assign (.pl rfl)) rfl ?_
  refine WL.next hQ1 (.cons (i := 0) rfl (.nil)) ?_
  -- region 1: history.go:54
  refine W.seqR fun Q2 hQ2 => ?_
  refine WL.q (Y.move (.pl rfl)) rfl ?_
  refine WL.q (Y.lss (.pl rfl) (.pl rfl)) rfl ?_
  refine WL.q (Y.move (.pl rfl)) rfl ?_
  refine WL.g (.pl rfl rfl rfl) (fun _ => Y.move (.pl rfl)) rfl ?_
  refine WL.g (.pl rfl rfl rfl) (fun hg => Y.gtr (.gd (hg) rfl) (.pl rfl)) rfl ?_
  refine WL.q (Y.or (.pl rfl) (fun h2 => .gd (eqf h2) rfl)) rfl ?_
  refine WL.q (Y.assign (.pl rfl)) rfl ?_
  refine WL.next hQ2 (.cons (i := 2) rfl (.nil)) ?_
  refine W.ret1 (fn := Try.f57) Try.results57 rfl (fun _ _ h => h) (fun w hw => ?_)
  refine hR _ _ ?_
  exact ⟨rfl, hw⟩

theorem types_ok (v1 : Value) (ts : List Int) (w : World) (h1 : IntsIn w v1 ts) (hl1 : ts.length ≤ maxLen) : Pure Try.prog 37 [v1] w (.int .i64 (typesF ts)) := by
  have h1i := h1
  obtain ⟨a1, c1, rfl, hcap1, hv⟩ := h1
  have hm1 := hl1
  unfold maxLen at hm1
  refine W.enter (n := 17) Try.func37 rfl rfl Sub.refl (by simp) (St.start w) fun R hR => ?_
  -- region 0: history.go:53
  refine W.seqR fun Q1 hQ1 => ?_
  refine WL.q (Y.assign (.pl rfl)) rfl ?_
  refine WL.next hQ1 (.cons (i := 0) rfl (.nil)) ?_
  -- region 1: history.go:54
  refine W.seqR fun Q2 hQ2 => ?_
  refine WL.q (Y.assign (.pl rfl)) rfl ?_
  refine WL.next hQ2 (.cons (i := 0) rfl (.cons (i := 3) rfl (.nil))) ?_
  refine W.seq fun K3 hK3 => ?_
  -- region 2: history.go:55
  refine W.seqR fun Q4 hQ4 => ?_
  refine WL.q (Y.move (.pl rfl)) rfl ?_
  refine WL.q (Y.len Try.underlying22 (.pl rfl)) rfl ?_
  refine WL.q (Y.lss (.pl rfl) (.pl rfl)) rfl ?_
  refine WL.q (Y.move (.pl rfl)) rfl ?_
  refine WL.g (.pl rfl rfl rfl) (fun _ => Y.move (.pl rfl)) rfl ?_
  refine WL.g (.pl rfl rfl rfl) (fun hg => Y.len Try.underlying22 (.gd (hg) rfl)) rfl ?_
  refine WL.g (.pl rfl rfl rfl) (fun hg => Y.gtr (.gd (hg) rfl) (.pl rfl)) rfl ?_
  refine WL.q (Y.or (.pl rfl) (fun h2 => .gd (eqf h2) rfl)) rfl ?_
  refine WL.q (Y.move (.pl rfl)) rfl ?_
  refine WL.g (.pl rfl rfl rfl) (fun _ => Y.move (.pl rfl)) rfl ?_
  refine WL.g (.pl rfl rfl rfl) (fun _ => Y.move (.pl rfl)) rfl ?_
  refine WL.gP (.pl rfl rfl rfl) isGo58 (fun hg => (.cons (.gd (hg) rfl) (.cons (.gd (hg) rfl) (.nil)))) rfl (fun hg w hw => containsFunc_ok _ [] isGo57 _ ts (fun t => decide (t < 1) || decide (5 < t)) w (h1i.mono hw) hl1 (fun w2 h2 x hx => types1_ok x w2)) ?_
  refine WL.q (Y.or (.pl rfl) (fun h2 => .gd (eqf h2) rfl)) rfl ?_
  refine WL.next hQ4 (.cons (i := 16) rfl (.nil)) ?_
  refine W.cond (.pl rfl) (fun hC0 => ?_) (fun hC0 => ?_)
  · -- C0 yes
    skip
    have hF : typesF ts = 1 := if_pos hC0
    -- region 3: history.go:56
    refine W.seqR fun Q5 hQ5 => ?_
    refine WL.q (Y.assign (.pl rfl)) rfl ?_
    refine WL.next hQ5 (.cons (i := 2) rfl (.nil)) ?_
    refine W.ret1 (fn := Try.f37) Try.results37 rfl (fun _ _ h => h) (fun w hw => ?_)
    refine hR _ _ ?_
    rw [hF]
    exact ⟨rfl, hw⟩
  · -- C0 no
    skip
    have hF : typesF ts = 0 := if_neg (by rw [hC0]; decide)
    refine W.skip ?_
    refine W.go hK3 (.nil) ?_
    -- region 4: history.go:58
    refine W.seqR fun Q6 hQ6 => ?_
    refine WL.q (Y.assign (.pl rfl)) rfl ?_
    refine WL.next hQ6 (.cons (i := 2) rfl (.nil)) ?_
    refine W.ret1 (fn := Try.f37) Try.results37 rfl (fun _ _ h => h) (fun w hw => ?_)
    refine hR _ _ ?_
    rw [hF]
    exact ⟨rfl, hw⟩

end Go.Proofs.Ytooaoekfnmakhaa
