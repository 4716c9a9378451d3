/- The steps of the machine. -/
import Derived.Test.YtkccgokdahlmeaaM1
import Derived.Test.YtkccgokdahlmeaaPl
set_option linter.unusedVariables false
set_option linter.unusedSimpArgs false
set_option linter.unusedSectionVars false
set_option maxRecDepth 100000
namespace Go.Proofs.Ytkccgokdahlmeaa
open Go.RowKit
namespace Mx
abbrev Sm := List MutexProcess × Int × Int × Int × List Gate
def pr (s : Sm) (i : Nat) : MutexProcess := s.1.getD i MutexProcess.z
def enterF (s : Sm) (who : Nat) (p : MutexProcess) : Sm := (s.1.set who p, s.2.1, s.2.2.1 + 1, max s.2.2.2.1 (s.2.2.1 + 1), s.2.2.2.2 ++ [⟨(who : Int), true⟩])
def exitF (s : Sm) (who : Nat) (p : MutexProcess) : Sm := (s.1.set who p, s.2.1, s.2.2.1 - 1, s.2.2.2.1, s.2.2.2.2 ++ [⟨(who : Int), false⟩])
def petF (s : Sm) (who : Nat) : Sm :=
  if (pr s who).step = 0 then (s.1.set who ⟨(pr s who).step + 1, (pr s who).left, true, (pr s who).number, (pr s who).k⟩, s.2)
  else if (pr s who).step = 1 then (s.1.set who ⟨(pr s who).step + 1, (pr s who).left, (pr s who).flag, (pr s who).number, (pr s who).k⟩, 1 - (who : Int), s.2.2)
  else if (pr s who).step = 2 then
    if (pr s (1 - who)).flag = true ∧ s.2.1 ≠ who then s
    else enterF s who ⟨(pr s who).step + 1, (pr s who).left, (pr s who).flag, (pr s who).number, (pr s who).k⟩
  else if (pr s who).step = 3 then exitF s who ⟨(pr s who).step + 1, (pr s who).left, (pr s who).flag, (pr s who).number, (pr s who).k⟩
  else (s.1.set who ⟨0, (pr s who).left - 1, false, (pr s who).number, (pr s who).k⟩, s.2)
def nxt (k who : Int) : Int := if k = who then k + 1 else k
def mxF (l : List MutexProcess) : Int := l.foldl (fun m p => max m p.number) 0
def bakF (s : Sm) (who : Nat) : Sm :=
  if (pr s who).step = 0 then (s.1.set who ⟨(pr s who).step + 1, (pr s who).left, true, (pr s who).number, (pr s who).k⟩, s.2)
  else if (pr s who).step = 1 then (s.1.set who ⟨(pr s who).step + 1, (pr s who).left, (pr s who).flag, 1 + mxF s.1, (pr s who).k⟩, s.2)
  else if (pr s who).step = 2 then
    if (s.1.length : Int) ≤ nxt 0 who then (s.1.set who ⟨5, (pr s who).left, false, (pr s who).number, nxt 0 who⟩, s.2)
    else (s.1.set who ⟨(pr s who).step + 1, (pr s who).left, false, (pr s who).number, nxt 0 who⟩, s.2)
  else if (pr s who).step = 3 then
    if (pr s (pr s who).k.toNat).flag = true then s
    else (s.1.set who ⟨(pr s who).step + 1, (pr s who).left, (pr s who).flag, (pr s who).number, (pr s who).k⟩, s.2)
  else if (pr s who).step = 4 then
    if (pr s (pr s who).k.toNat).number ≠ 0 ∧ ((pr s (pr s who).k.toNat).number < (pr s who).number ∨ (pr s (pr s who).k.toNat).number = (pr s who).number ∧ (pr s who).k < who) then s
    else if nxt ((pr s who).k + 1) who < s.1.length then (s.1.set who ⟨3, (pr s who).left, (pr s who).flag, (pr s who).number, nxt ((pr s who).k + 1) who⟩, s.2)
    else (s.1.set who ⟨(pr s who).step + 1, (pr s who).left, (pr s who).flag, (pr s who).number, nxt ((pr s who).k + 1) who⟩, s.2)
  else if (pr s who).step = 5 then enterF s who ⟨(pr s who).step + 1, (pr s who).left, (pr s who).flag, (pr s who).number, (pr s who).k⟩
  else if (pr s who).step = 6 then exitF s who ⟨(pr s who).step + 1, (pr s who).left, (pr s who).flag, (pr s who).number, (pr s who).k⟩
  else (s.1.set who ⟨0, (pr s who).left - 1, (pr s who).flag, 0, (pr s who).k⟩, s.2)
def naiF (s : Sm) (who : Nat) : Sm :=
  if (pr s who).step = 0 then
    if ∃ i, i < s.1.length ∧ i ≠ who ∧ (pr s i).flag = true then s
    else (s.1.set who ⟨(pr s who).step + 1, (pr s who).left, (pr s who).flag, (pr s who).number, (pr s who).k⟩, s.2)
  else if (pr s who).step = 1 then (s.1.set who ⟨(pr s who).step + 1, (pr s who).left, true, (pr s who).number, (pr s who).k⟩, s.2)
  else if (pr s who).step = 2 then enterF s who ⟨(pr s who).step + 1, (pr s who).left, (pr s who).flag, (pr s who).number, (pr s who).k⟩
  else if (pr s who).step = 3 then exitF s who ⟨(pr s who).step + 1, (pr s who).left, (pr s who).flag, (pr s who).number, (pr s who).k⟩
  else (s.1.set who ⟨0, (pr s who).left - 1, false, (pr s who).number, (pr s who).k⟩, s.2)
def swF (s : Sm) (who : Nat) : Sm :=
  if (pr s who).step = 0 then
    if s.2.1 ≠ 0 then s
    else (s.1.set who ⟨(pr s who).step + 1, (pr s who).left, (pr s who).flag, (pr s who).number, (pr s who).k⟩, 1, s.2.2)
  else if (pr s who).step = 1 then enterF s who ⟨(pr s who).step + 1, (pr s who).left, (pr s who).flag, (pr s who).number, (pr s who).k⟩
  else if (pr s who).step = 2 then exitF s who ⟨(pr s who).step + 1, (pr s who).left, (pr s who).flag, (pr s who).number, (pr s who).k⟩
  else (s.1.set who ⟨0, (pr s who).left - 1, (pr s who).flag, (pr s who).number, (pr s who).k⟩, 0, s.2.2)
open Classical in
noncomputable def stepF (algo : Int) (s : Sm) (who : Nat) : Sm :=
  if (pr s who).left = 0 then s else if algo = 1 then petF s who else if algo = 2 then bakF s who else if algo = 3 then naiF s who else swF s who
/-- Numbers that stay small. -/
structure Bd (bk : Prop) (n k : Nat) (s : Sm) : Prop where
  len : s.1.length = n
  step : ∀ i, i < n → 0 ≤ (pr s i).step ∧ (pr s i).step ≤ 7
  left : ∀ i, i < n → 0 ≤ (pr s i).left ∧ (pr s i).left ≤ 5
  num : ∀ i, i < n → 0 ≤ (pr s i).number ∧ (pr s i).number ≤ k
  kk : ∀ i, i < n → 0 ≤ (pr s i).k ∧ (bk → ((pr s i).step = 3 ∨ (pr s i).step = 4) → (pr s i).k < n) ∧ (pr s i).k ≤ n
  inn : -(k : Int) ≤ s.2.2.1 ∧ s.2.2.1 ≤ k
  gl : s.2.2.2.2.length ≤ k
theorem Bd.grow {bk : Prop} {n k : Nat} {s : Sm} (B : Bd bk n k s) : Bd bk n (k + 1) s := by
  refine ⟨B.len, B.step, B.left, fun i hi => ?_, B.kk, ?_, ?_⟩
  · have := B.num i hi; omega
  · have := B.inn; omega
  · have := B.gl; omega
end Mx

end Go.Proofs.Ytkccgokdahlmeaa
