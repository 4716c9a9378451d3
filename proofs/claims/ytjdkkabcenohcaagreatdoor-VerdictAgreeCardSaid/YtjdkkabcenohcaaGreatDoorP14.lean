/- Lines, plainly. -/
import Derived.Test.YtjdkkabcenohcaaGreatDoorP13
set_option linter.unusedVariables false
set_option linter.unusedSimpArgs false
set_option linter.unusedSectionVars false
set_option maxRecDepth 100000
namespace Go.Proofs.YtjdkkabcenohcaaGreatDoor
open Go.RowKit
namespace Vd
open Tx Hs Sr
theorem Sd{N:Nat}(hN:5000 < N){typ:Int}{l:List Event}:VS N typ l:=⟨fun _=>N8 (by omega) l,fun _=>RY (by omega) l,fun _=>JX hN l,fun _=>RZ (by omega) l⟩
theorem W7:cD 18446744073709551616=some true:=by kernel_rfl
theorem Se{ps:List Pt}(hp: ∀p∈ps,kc p):(10:UInt8)∉jn 32 (ps.map eM):=J0 (by decide) fun x hx=>by
 obtain⟨p,h,rfl⟩:=List.mem_map.1 hx
 exact W4 (hp p h)
end Vd
end Go.Proofs.YtjdkkabcenohcaaGreatDoor
