/-
  No cell of these rows narrows 'for every input' (looked for: loops, veiled, ifaces, maps, wideKeys, modest, calm, conditions, laid).
  DERIVED. THE GIVEN ROWS OF THIS SEAT. 7 by the template 'for every input the law returns true; each argument reads behind the call as it read before'; 0 by the template 'total and deterministic' (their statements: YtkmmagekepoapaaTotals.lean).
  GIVEN WITH THE SEED: the statements are not yours to turn. If you find one false, say at which input.
  Laid BY PROGRAM, IN A SANDBOX (cutbox-rows.mjs): the forced cells as the released guide's own fill.sh prints them over the translation 37126e55edc54bc4… (all of the seat's roots in one cut). By AI agents, Wed Nov 11 2026. No macro, syntax, notation, axiom, sorry.
-/
import Derived.Test.YtkmmagekepoapaaChecked
import GoSem.Claim
import GoSem.ClaimJoined
import GoSem.ClaimMapViews
import Derived.JoinedTies
import Derived.KernelRfl
namespace Go.Proofs.Ytkmmagekepoapaa
/- THE CELL 'sum', in the pinned program and in every row, IS THE sha256 OF THE DUMP (.gsa) THAT YtkmmagekepoapaaProg.lean LOADS. Nothing in Lean hashes anything: it is a label: what it is worth is what the hold of that sum in a sandbox is worth. -/
noncomputable def Try.pinned : Pinned := { name := "ytkmmagekepoapaa", sum := "37126e55edc54bc42f4ec55628bfd8ff92d52dd9e2afc637c4d590c5890c6e24", checked := Try.checked }
namespace Rows
def none {H : Type} : Left H := { results := [], args := [] }

/-- 'alibkeep.StepsAlone': WHATEVER THE INPUT: true; the input reads as it did. -/
def stepsAloneSpec : ChangeSpec := { name := "stepsAlone", fn := fun _ => fun
  | [d1, d2, d3, d4] => { results := [.lit (.bool true)], args := [d1, d2, d3, d4] }
  | _ => none }
def stepsAloneRow : OpenClaim := { program := "ytkmmagekepoapaa", sum := "37126e55edc54bc42f4ec55628bfd8ff92d52dd9e2afc637c4d590c5890c6e24", func := "alibi/alibkeep.StepsAlone", spec := "stepsAlone", unfollowed := true, recurses := true, apart := false }
def StepsAloneSaid : Prop := stepsAloneRow.holds Try.pinned (OpenSpec.ofChange stepsAloneSpec)

/-- ITS FALSE NEIGHBOUR: 'it returns false'. Refute it at one input. -/
def stepsAloneWrong : ChangeSpec := { name := "stepsAlone", fn := fun _ => fun
  | [d1, d2, d3, d4] => { results := [.lit (.bool false)], args := [d1, d2, d3, d4] }
  | _ => none }
def StepsAloneWrongFalsely : Prop := stepsAloneRow.holds Try.pinned (OpenSpec.ofChange stepsAloneWrong)

/-- 'alibkeep.StepsAnew': WHATEVER THE INPUT: true; the input reads as it did. -/
def stepsAnewSpec : ChangeSpec := { name := "stepsAnew", fn := fun _ => fun
  | [d1, d2, d3] => { results := [.lit (.bool true)], args := [d1, d2, d3] }
  | _ => none }
def stepsAnewRow : OpenClaim := { program := "ytkmmagekepoapaa", sum := "37126e55edc54bc42f4ec55628bfd8ff92d52dd9e2afc637c4d590c5890c6e24", func := "alibi/alibkeep.StepsAnew", spec := "stepsAnew", unfollowed := true, recurses := true, apart := false }
def StepsAnewSaid : Prop := stepsAnewRow.holds Try.pinned (OpenSpec.ofChange stepsAnewSpec)

/-- ITS FALSE NEIGHBOUR: 'it returns false'. Refute it at one input. -/
def stepsAnewWrong : ChangeSpec := { name := "stepsAnew", fn := fun _ => fun
  | [d1, d2, d3] => { results := [.lit (.bool false)], args := [d1, d2, d3] }
  | _ => none }
def StepsAnewWrongFalsely : Prop := stepsAnewRow.holds Try.pinned (OpenSpec.ofChange stepsAnewWrong)

/-- 'alibkeep.SerialView': WHATEVER THE INPUT: true; the input reads as it did. -/
def serialViewSpec : ChangeSpec := { name := "serialView", fn := fun _ => fun
  | [d] => { results := [.lit (.bool true)], args := [d] }
  | _ => none }
def serialViewRow : OpenClaim := { program := "ytkmmagekepoapaa", sum := "37126e55edc54bc42f4ec55628bfd8ff92d52dd9e2afc637c4d590c5890c6e24", func := "alibi/alibkeep.SerialView", spec := "serialView", unfollowed := true, recurses := true, apart := false }
def SerialViewSaid : Prop := serialViewRow.holds Try.pinned (OpenSpec.ofChange serialViewSpec)

/-- ITS FALSE NEIGHBOUR: 'it returns false'. Refute it at one input. -/
def serialViewWrong : ChangeSpec := { name := "serialView", fn := fun _ => fun
  | [d] => { results := [.lit (.bool false)], args := [d] }
  | _ => none }
def SerialViewWrongFalsely : Prop := serialViewRow.holds Try.pinned (OpenSpec.ofChange serialViewWrong)

/-- 'alibkeep.ObjectOwn': WHATEVER THE INPUT: true; the input reads as it did. -/
def objectOwnSpec : ChangeSpec := { name := "objectOwn", fn := fun _ => fun
  | [d1, d2, d3, d4] => { results := [.lit (.bool true)], args := [d1, d2, d3, d4] }
  | _ => none }
def objectOwnRow : OpenClaim := { program := "ytkmmagekepoapaa", sum := "37126e55edc54bc42f4ec55628bfd8ff92d52dd9e2afc637c4d590c5890c6e24", func := "alibi/alibkeep.ObjectOwn", spec := "objectOwn", unfollowed := true, recurses := true, apart := false }
def ObjectOwnSaid : Prop := objectOwnRow.holds Try.pinned (OpenSpec.ofChange objectOwnSpec)

/-- ITS FALSE NEIGHBOUR: 'it returns false'. Refute it at one input. -/
def objectOwnWrong : ChangeSpec := { name := "objectOwn", fn := fun _ => fun
  | [d1, d2, d3, d4] => { results := [.lit (.bool false)], args := [d1, d2, d3, d4] }
  | _ => none }
def ObjectOwnWrongFalsely : Prop := objectOwnRow.holds Try.pinned (OpenSpec.ofChange objectOwnWrong)

/-- 'alibkeep.StepsRight': WHATEVER THE INPUT: true; the input reads as it did. -/
def stepsRightSpec : ChangeSpec := { name := "stepsRight", fn := fun _ => fun
  | [d1, d2, d3] => { results := [.lit (.bool true)], args := [d1, d2, d3] }
  | _ => none }
def stepsRightRow : OpenClaim := { program := "ytkmmagekepoapaa", sum := "37126e55edc54bc42f4ec55628bfd8ff92d52dd9e2afc637c4d590c5890c6e24", func := "alibi/alibkeep.StepsRight", spec := "stepsRight", unfollowed := true, recurses := true, apart := false }
def StepsRightSaid : Prop := stepsRightRow.holds Try.pinned (OpenSpec.ofChange stepsRightSpec)

/-- ITS FALSE NEIGHBOUR: 'it returns false'. Refute it at one input. -/
def stepsRightWrong : ChangeSpec := { name := "stepsRight", fn := fun _ => fun
  | [d1, d2, d3] => { results := [.lit (.bool false)], args := [d1, d2, d3] }
  | _ => none }
def StepsRightWrongFalsely : Prop := stepsRightRow.holds Try.pinned (OpenSpec.ofChange stepsRightWrong)

/-- 'alibkeep.StepsLost': WHATEVER THE INPUT: true; the input reads as it did. -/
def stepsLostSpec : ChangeSpec := { name := "stepsLost", fn := fun _ => fun
  | [] => { results := [.lit (.bool true)], args := [] }
  | _ => none }
def stepsLostRow : OpenClaim := { program := "ytkmmagekepoapaa", sum := "37126e55edc54bc42f4ec55628bfd8ff92d52dd9e2afc637c4d590c5890c6e24", func := "alibi/alibkeep.StepsLost", spec := "stepsLost", unfollowed := true, recurses := true, apart := false }
def StepsLostSaid : Prop := stepsLostRow.holds Try.pinned (OpenSpec.ofChange stepsLostSpec)

/-- ITS FALSE NEIGHBOUR: 'it returns false'. Refute it at one input. -/
def stepsLostWrong : ChangeSpec := { name := "stepsLost", fn := fun _ => fun
  | [] => { results := [.lit (.bool false)], args := [] }
  | _ => none }
def StepsLostWrongFalsely : Prop := stepsLostRow.holds Try.pinned (OpenSpec.ofChange stepsLostWrong)

/-- 'alibkeep.StepsLong': WHATEVER THE INPUT: true; the input reads as it did. -/
def stepsLongSpec : ChangeSpec := { name := "stepsLong", fn := fun _ => fun
  | [d1, d2] => { results := [.lit (.bool true)], args := [d1, d2] }
  | _ => none }
def stepsLongRow : OpenClaim := { program := "ytkmmagekepoapaa", sum := "37126e55edc54bc42f4ec55628bfd8ff92d52dd9e2afc637c4d590c5890c6e24", func := "alibi/alibkeep.StepsLong", spec := "stepsLong", unfollowed := true, recurses := true, apart := false }
def StepsLongSaid : Prop := stepsLongRow.holds Try.pinned (OpenSpec.ofChange stepsLongSpec)

/-- ITS FALSE NEIGHBOUR: 'it returns false'. Refute it at one input. -/
def stepsLongWrong : ChangeSpec := { name := "stepsLong", fn := fun _ => fun
  | [d1, d2] => { results := [.lit (.bool false)], args := [d1, d2] }
  | _ => none }
def StepsLongWrongFalsely : Prop := stepsLongRow.holds Try.pinned (OpenSpec.ofChange stepsLongWrong)

/- THE SECOND FORM. 'bulk': how many values and letters a reading holds, each counted each time it is reached (what is shared counts as often as it is met; a slice's spare places count too). A statement '..UptoSaid' is the law's where the arguments, and the package variables that the reading takes, are together of bulk at most 1048576: NARROWER than '..Said'. Prove '..Said' where nothing that the law and all that it calls make is longer than what came in: it says more and counts as full. Else prove '..UptoSaid'. A law counts once. -/
mutual
def uptoBulk {H : Type} : DataW H → Nat
  | .lit (.string bytes) => bytes.length + 1
  | .lit _ => 1
  | .nil => 1
  | .ptr d => uptoBulk d + 1
  | .slice elems spare => uptoBulkAll elems + uptoBulkAll spare + 1
  | .agg parts => uptoBulkAll parts + 1
  | .iface _ d => uptoBulk d + 1
  | .map entries => uptoBulkEntries entries + 1
  | .held _ => 1
def uptoBulkAll {H : Type} : List (DataW H) → Nat
  | [] => 0
  | d :: r => uptoBulk d + uptoBulkAll r
def uptoBulkEntries {H : Type} : List (Lit × DataW H) → Nat
  | [] => 0
  | x :: r => uptoBulkEntry x + uptoBulkEntries r
def uptoBulkEntry {H : Type} : Lit × DataW H → Nat
  | (.string bytes, d) => bytes.length + uptoBulk d + 1
  | (_, d) => uptoBulk d + 1
 end
def uptoSmall : (H : Type) → List (DataW H) → Bool := fun _ ds => decide (uptoBulkAll ds ≤ 1048576)
def OpenSpec.upto (s : _root_.Go.ChangeSpec) : _root_.Go.OpenSpec := { _root_.Go.OpenSpec.ofChange s with cond := some uptoSmall }

/-- 'alibkeep.StepsAlone', WHERE WHAT IT READS IS OF BULK AT MOST 1048576: true; the input reads as it did. -/
def stepsAloneUptoRow : OpenClaim := { program := "ytkmmagekepoapaa", sum := "37126e55edc54bc42f4ec55628bfd8ff92d52dd9e2afc637c4d590c5890c6e24", func := "alibi/alibkeep.StepsAlone", spec := "stepsAlone", unfollowed := true, recurses := true, apart := false, narrowed := true }
def StepsAloneUptoSaid : Prop := stepsAloneUptoRow.holds Try.pinned (OpenSpec.upto stepsAloneSpec)

/-- 'alibkeep.StepsAnew', WHERE WHAT IT READS IS OF BULK AT MOST 1048576: true; the input reads as it did. -/
def stepsAnewUptoRow : OpenClaim := { program := "ytkmmagekepoapaa", sum := "37126e55edc54bc42f4ec55628bfd8ff92d52dd9e2afc637c4d590c5890c6e24", func := "alibi/alibkeep.StepsAnew", spec := "stepsAnew", unfollowed := true, recurses := true, apart := false, narrowed := true }
def StepsAnewUptoSaid : Prop := stepsAnewUptoRow.holds Try.pinned (OpenSpec.upto stepsAnewSpec)

/-- 'alibkeep.SerialView', WHERE WHAT IT READS IS OF BULK AT MOST 1048576: true; the input reads as it did. -/
def serialViewUptoRow : OpenClaim := { program := "ytkmmagekepoapaa", sum := "37126e55edc54bc42f4ec55628bfd8ff92d52dd9e2afc637c4d590c5890c6e24", func := "alibi/alibkeep.SerialView", spec := "serialView", unfollowed := true, recurses := true, apart := false, narrowed := true }
def SerialViewUptoSaid : Prop := serialViewUptoRow.holds Try.pinned (OpenSpec.upto serialViewSpec)

/-- 'alibkeep.ObjectOwn', WHERE WHAT IT READS IS OF BULK AT MOST 1048576: true; the input reads as it did. -/
def objectOwnUptoRow : OpenClaim := { program := "ytkmmagekepoapaa", sum := "37126e55edc54bc42f4ec55628bfd8ff92d52dd9e2afc637c4d590c5890c6e24", func := "alibi/alibkeep.ObjectOwn", spec := "objectOwn", unfollowed := true, recurses := true, apart := false, narrowed := true }
def ObjectOwnUptoSaid : Prop := objectOwnUptoRow.holds Try.pinned (OpenSpec.upto objectOwnSpec)

/-- 'alibkeep.StepsRight', WHERE WHAT IT READS IS OF BULK AT MOST 1048576: true; the input reads as it did. -/
def stepsRightUptoRow : OpenClaim := { program := "ytkmmagekepoapaa", sum := "37126e55edc54bc42f4ec55628bfd8ff92d52dd9e2afc637c4d590c5890c6e24", func := "alibi/alibkeep.StepsRight", spec := "stepsRight", unfollowed := true, recurses := true, apart := false, narrowed := true }
def StepsRightUptoSaid : Prop := stepsRightUptoRow.holds Try.pinned (OpenSpec.upto stepsRightSpec)

/-- 'alibkeep.StepsLost', WHERE WHAT IT READS IS OF BULK AT MOST 1048576: true; the input reads as it did. -/
def stepsLostUptoRow : OpenClaim := { program := "ytkmmagekepoapaa", sum := "37126e55edc54bc42f4ec55628bfd8ff92d52dd9e2afc637c4d590c5890c6e24", func := "alibi/alibkeep.StepsLost", spec := "stepsLost", unfollowed := true, recurses := true, apart := false, narrowed := true }
def StepsLostUptoSaid : Prop := stepsLostUptoRow.holds Try.pinned (OpenSpec.upto stepsLostSpec)

/-- 'alibkeep.StepsLong', WHERE WHAT IT READS IS OF BULK AT MOST 1048576: true; the input reads as it did. -/
def stepsLongUptoRow : OpenClaim := { program := "ytkmmagekepoapaa", sum := "37126e55edc54bc42f4ec55628bfd8ff92d52dd9e2afc637c4d590c5890c6e24", func := "alibi/alibkeep.StepsLong", spec := "stepsLong", unfollowed := true, recurses := true, apart := false, narrowed := true }
def StepsLongUptoSaid : Prop := stepsLongUptoRow.holds Try.pinned (OpenSpec.upto stepsLongSpec)

end Rows
end Go.Proofs.Ytkmmagekepoapaa
