/- What the listed variables give; the witness. -/
import Derived.Test.YtjdkkabcenohcaaDoorT3
import Derived.Test.YtjdkkabcenohcaaDoorRows
import Derived.Test.YtjdkkabcenohcaaDoorLaw
import Derived.Test.YtjdkkabcenohcaaDoorOpen
import Derived.MakeChecks
import Derived.Lay
import Derived.Stop.LaidErr
import Derived.Lib.LaidU8
import Derived.Lib.LaidTab
import Derived.Stop.Joined
import Derived.LaidLaws
import Derived.Deep.DeepHandedRow
set_option linter.unusedVariables false
set_option linter.unusedSimpArgs false
set_option linter.unusedSectionVars false
set_option maxRecDepth 100000
namespace Go.Proofs.YtjdkkabcenohcaaDoor
open Go.RowKit
def decEvent : List Int → Event
  | [a0, a1, a2, a3] => ⟨a0, a1, a2, a3⟩
  | _ => Event.z
theorem decEvent_ok (r : List Int) (h : r.length = 4) : encEvent (decEvent r) = ints r := by
  match r, h with
  | [a0, a1, a2, a3], _ => rfl

abbrev seatLaid : List (String × DataW Unit) := Rows.textBackRow.laid
theorem laid_plain {W : World} (h : laidMetH Tryd.prog seatLaid W) : laidMet Tryd.prog seatLaid W := by
  rw [MakeChecks.laidMetH_plain _ _ _ (by kernel_rfl)] at h; exact h
theorem star_es : "*" ++ "errors.errorString" = "*errors.errorString" := by decide
theorem row_es (u : TypeId) (h : Tryd.prog.typeName? 3 u = some "*errors.errorString") : u = 126 :=
  typeName_ptr_named (nm := "errors.errorString") (by rw [star_es]; kernel_rfl) (by kernel_rfl) (by decide) u (by rw [star_es]; exact h)
theorem gok {W : World} (hL : laidMetH Tryd.prog seatLaid W) (hsh : W.ShapedOpen Tryd.prog) : GOkS W := by
  have h := laid_plain hL
  have h1 : Lib.TabIs Tryd.prog W "internal/strconv.uint64pow10" .u64 Lib.pow10Tab := Lib.tabIs_of_head (g := 1) (by kernel_rfl) (by kernel_rfl) Tryd.underlying103 Tryd.underlying93 (by kernel_rfl) (by kernel_rfl) (h.tail.tail)
  have h2 : ∃ ev, W.cell? ⟨4, 0, none⟩ = some ev ∧ (ev = .nilIface ∨ ∃ te pe, ev = .iface te pe) := by
    obtain ⟨a0, s0, hv, _⟩ := laid_sentinel (g := 4) (h.tail.tail.tail.tail.tail) (by kernel_rfl) (by kernel_rfl) Tryd.underlying49 row_es Tryd.underlying126 Tryd.underlying128 rfl rfl Tryd.underlying9 (by kernel_rfl) (by kernel_rfl)
    exact ⟨_, by simpa using World.var?_cell (by kernel_rfl) hv 0, .inr ⟨_, _, rfl⟩⟩
  have h3 : ∃ ev, W.cell? ⟨5, 0, none⟩ = some ev ∧ (ev = .nilIface ∨ ∃ te pe, ev = .iface te pe) := by
    obtain ⟨a0, s0, hv, _⟩ := laid_sentinel (g := 5) (h.tail.tail.tail.tail) (by kernel_rfl) (by kernel_rfl) Tryd.underlying49 row_es Tryd.underlying126 Tryd.underlying128 rfl rfl Tryd.underlying9 (by kernel_rfl) (by kernel_rfl)
    exact ⟨_, by simpa using World.var?_cell (by kernel_rfl) hv 0, .inr ⟨_, _, rfl⟩⟩
  exact ⟨h1, h2, h3, lay_LaysM_n146.s1_3 W hsh⟩
theorem laid_ok (os : Os) (args : Array Value) : laidMetH Tryd.prog seatLaid ((World.laidAll Tryd.prog os seatLaid).forCall (fun _ _ => 0) ⟨#[], args, []⟩).memory := by
  rw [MakeChecks.laidMetH_plain _ _ _ (by kernel_rfl)]
  exact laidMet_laidAll _ (by kernel_rfl) (by kernel_rfl)

end Go.Proofs.YtjdkkabcenohcaaDoor
