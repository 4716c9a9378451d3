/- ObjectOwn, plainly. -/
import Derived.Test.YtkmmagekepoapaaW5
import Derived.Test.YtkmmagekepoapaaW3
set_option linter.unusedVariables false
set_option linter.unusedSimpArgs false
set_option linter.unusedSectionVars false
set_option maxRecDepth 100000
namespace Go.Proofs.Ytkmmagekepoapaa
open Go.RowKit
namespace Ob
theorem eqS {N : Nat} {s : List Int} (hN : s.length < N) (hl : s.length ≤ 9000000000000000000) : slices_Equal_int_int N s s = some true := by
  refine Wp.eq (a := true) ?_
  unfold slices_Equal_int_int
  refine .condF (by simp) ?_
  refine .elim (P := fun r => match r with | .inl _ => True | .inr b => False) (.iter s.length (fun k v => v = (k : Int)) (by omega) rfl ?_ ?_) (fun _ _ h => .one rfl) (fun b _ h => h.elim)
  · rintro k v hk rfl
    simp only [slices_Equal_int_int_L3]
    refine .condT (decide_eq_true (by omega)) (.ixD 0 (by omega) (by omega) (.ixD 0 (by omega) (by omega) ?_))
    exact .condF (by simp) (.ck64 (by omega) (.one (by simp)))
  · rintro v rfl
    simp only [slices_Equal_int_int_L3]
    exact .condF (decide_eq_false (by omega)) (.one trivial)
theorem objLives : alibkeep_objectLives 18446744073709551616 = some true := by kernel_rfl
theorem ownLaw {typ kind arg : Int} {s : List Int} (hl : s.length * 8 ≤ 140737488351232) (w : World) {v : Value} (hs : SlIn (eI .i64) 1 w v s) : Pure Try.prog 6 [.int .i64 typ, v, .int .i64 kind, .int .i64 arg] w (.bool true) := by
  obtain ⟨r, hr, -⟩ := step_wp (N := 18446744073709551616) (by decide) typ s kind arg
  exact ObjectOwn_ok hr (eqS (by omega) (by omega)) objLives (limB_of ⟨by unfold maxLen; omega, by omega⟩) w hs
end Ob

end Go.Proofs.Ytkmmagekepoapaa
