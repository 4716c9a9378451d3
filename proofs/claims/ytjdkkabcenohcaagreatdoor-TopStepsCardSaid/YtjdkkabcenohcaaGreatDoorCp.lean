import Derived.Test.YtjdkkabcenohcaaGreatDoorWp4
import Derived.Test.YtjdkkabcenohcaaGreatDoorPl
import Derived.Test.YtjdkkabcenohcaaGreatDoorBor
import Derived.Test.YtjdkkabcenohcaaGreatDoorRows
import Derived.Test.YtjdkkabcenohcaaGreatDoorOpen
import Derived.MakeChecks
import Derived.Lay
import Derived.Stop.LaidErr
import Derived.Lib.LaidU8
import Derived.Lib.LaidTab
import Derived.Stop.Joined
import Derived.LaidLaws
import Derived.Deep.DeepHandedRow
set_option linter.unusedVariables false
set_option linter.unusedSimpArgs false
set_option linter.unusedSectionVars false
set_option maxRecDepth 100000
namespace Go.Proofs.YtjdkkabcenohcaaGreatDoor
open Go.RowKit
def zh:List Int→Ask
 | [a0,a1,a2]=>⟨a0,a1,a2⟩
 |_=>Ask.z
theorem zi(r:List Int)(h:r.length=3):bA (zh r)=ints r:=by
 match r,h with
 | [a0,a1,a2],_=>rfl
end Go.Proofs.YtjdkkabcenohcaaGreatDoor
set_option linter.unusedVariables false
set_option linter.unusedSimpArgs false
set_option linter.unusedSectionVars false
set_option maxRecDepth 100000
namespace Go.Proofs.YtjdkkabcenohcaaGreatDoor
open Go.RowKit
abbrev jo:List (String×DataW Unit):=Rows.topStepsRow.laid
theorem xd{W:World}(h:laidMetH Tryz.prog jo W):laidMet Tryz.prog jo W:=by
 rw[MakeChecks.laidMetH_plain _ _ _ (by kernel_rfl)]at h;exact h
theorem vW: "*" ++ "errors.errorString" = "*errors.errorString" :=by decide
theorem zj(u:TypeId)(h:Tryz.prog.typeName? 3 u=some "*errors.errorString"):u=326:=
 typeName_ptr_named (nm:= "errors.errorString") (by rw[vW];kernel_rfl) (by kernel_rfl) (by decide) u (by rw[vW];exact h)
theorem XY{W:World}(hL:laidMetH Tryz.prog jo W)(hsh:W.ShapedOpen Tryz.prog):lO W:=by
 have h:=xd hL
 have h1:Lib.TabIs Tryz.prog W "internal/strconv.uint64pow10" .u64 Lib.pow10Tab:=Lib.tabIs_of_head (g:=1) (by kernel_rfl) (by kernel_rfl) Tryz.underlying285 Tryz.underlying263 (by kernel_rfl) (by kernel_rfl) (h.tail.tail)
 have h2: ∃ev,W.cell? ⟨4,0,none⟩=some ev∧(ev= .nilIface∨∃te pe,ev= .iface te pe):=by
  obtain⟨a0,s0,hv,_⟩:=laid_sentinel (g:=4) (h.tail.tail.tail.tail.tail) (by kernel_rfl) (by kernel_rfl) Tryz.underlying113 zj Tryz.underlying326 Tryz.underlying328 rfl rfl Tryz.underlying9 (by kernel_rfl) (by kernel_rfl)
  exact⟨_,by simpa using World.var?_cell (by kernel_rfl) hv 0,.inr ⟨_,_,rfl⟩⟩
 have h3: ∃ev,W.cell? ⟨5,0,none⟩=some ev∧(ev= .nilIface∨∃te pe,ev= .iface te pe):=by
  obtain⟨a0,s0,hv,_⟩:=laid_sentinel (g:=5) (h.tail.tail.tail.tail) (by kernel_rfl) (by kernel_rfl) Tryz.underlying113 zj Tryz.underlying326 Tryz.underlying328 rfl rfl Tryz.underlying9 (by kernel_rfl) (by kernel_rfl)
  exact⟨_,by simpa using World.var?_cell (by kernel_rfl) hv 0,.inr ⟨_,_,rfl⟩⟩
 exact⟨h1,h2,h3,s8.s1_3 W hsh⟩
theorem D1(os:Os)(args:Array Value):laidMetH Tryz.prog jo ((World.laidAll Tryz.prog os jo).forCall (fun _ _=>0) ⟨#[],args,[]⟩).memory:=by
 rw[MakeChecks.laidMetH_plain _ _ _ (by kernel_rfl)]
 exact laidMet_laidAll _ (by kernel_rfl) (by kernel_rfl)
end Go.Proofs.YtjdkkabcenohcaaGreatDoor
