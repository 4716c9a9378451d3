/-
  No cell of these rows narrows 'for every input' (looked for: loops, veiled, ifaces, maps, wideKeys, modest, calm, conditions, laid).
  DERIVED. THE GIVEN ROWS OF THIS SEAT. 4 by the template 'for every input the law returns true; each argument reads behind the call as it read before'; 0 by the template 'total and deterministic' (their statements: YtglhflmecmidkaaTotals.lean).
  GIVEN WITH THE SEED: the statements are not yours to turn. If you find one false, say at which input.
  Laid BY PROGRAM, IN A SANDBOX (cutbox-rows.mjs): the forced cells as the released guide's own fill.sh prints them over the translation 935b7bcfb9e9cf14… (all of the seat's roots in one cut). By AI agents, Wed Nov 11 2026. No macro, syntax, notation, axiom, sorry.
-/
import Derived.Test.YtglhflmecmidkaaChecked
import GoSem.Claim
import GoSem.ClaimJoined
import GoSem.ClaimMapViews
import Derived.JoinedTies
import Derived.KernelRfl
namespace Go.Proofs.Ytglhflmecmidkaa
/- THE CELL 'sum', in the pinned program and in every row, IS THE sha256 OF THE DUMP (.gsa) THAT YtglhflmecmidkaaProg.lean LOADS. Nothing in Lean hashes anything: it is a label: what it is worth is what the hold of that sum in a sandbox is worth. -/
noncomputable def Try.pinned : Pinned := { name := "ytglhflmecmidkaa", sum := "935b7bcfb9e9cf142aaf976812b4626defd16c199e6a1064926ffdf98c2f294c", checked := Try.checked }
namespace Rows
def none {H : Type} : Left H := { results := [], args := [] }

/-- 'alibkeep.AgreeNaive': WHATEVER THE INPUT: true; the input reads as it did. -/
def agreeNaiveSpec : ChangeSpec := { name := "agreeNaive", fn := fun _ => fun
  | [] => { results := [.lit (.bool true)], args := [] }
  | _ => none }
def agreeNaiveRow : OpenClaim := { program := "ytglhflmecmidkaa", sum := "935b7bcfb9e9cf142aaf976812b4626defd16c199e6a1064926ffdf98c2f294c", func := "alibi/alibkeep.AgreeNaive", spec := "agreeNaive", unfollowed := true, recurses := true, apart := false }
def AgreeNaiveSaid : Prop := agreeNaiveRow.holds Try.pinned (OpenSpec.ofChange agreeNaiveSpec)

/-- ITS FALSE NEIGHBOUR: 'it returns false'. Refute it at one input. -/
def agreeNaiveWrong : ChangeSpec := { name := "agreeNaive", fn := fun _ => fun
  | [] => { results := [.lit (.bool false)], args := [] }
  | _ => none }
def AgreeNaiveWrongFalsely : Prop := agreeNaiveRow.holds Try.pinned (OpenSpec.ofChange agreeNaiveWrong)

/-- 'alibkeep.AgreeFree': WHATEVER THE INPUT: true; the input reads as it did. -/
def agreeFreeSpec : ChangeSpec := { name := "agreeFree", fn := fun _ => fun
  | [d1, d2, d3, d4] => { results := [.lit (.bool true)], args := [d1, d2, d3, d4] }
  | _ => none }
def agreeFreeRow : OpenClaim := { program := "ytglhflmecmidkaa", sum := "935b7bcfb9e9cf142aaf976812b4626defd16c199e6a1064926ffdf98c2f294c", func := "alibi/alibkeep.AgreeFree", spec := "agreeFree", unfollowed := true, recurses := true, apart := false }
def AgreeFreeSaid : Prop := agreeFreeRow.holds Try.pinned (OpenSpec.ofChange agreeFreeSpec)

/-- ITS FALSE NEIGHBOUR: 'it returns false'. Refute it at one input. -/
def agreeFreeWrong : ChangeSpec := { name := "agreeFree", fn := fun _ => fun
  | [d1, d2, d3, d4] => { results := [.lit (.bool false)], args := [d1, d2, d3, d4] }
  | _ => none }
def AgreeFreeWrongFalsely : Prop := agreeFreeRow.holds Try.pinned (OpenSpec.ofChange agreeFreeWrong)

/-- 'alibkeep.AgreeAlone': WHATEVER THE INPUT: true; the input reads as it did. -/
def agreeAloneSpec : ChangeSpec := { name := "agreeAlone", fn := fun _ => fun
  | [d1, d2, d3] => { results := [.lit (.bool true)], args := [d1, d2, d3] }
  | _ => none }
def agreeAloneRow : OpenClaim := { program := "ytglhflmecmidkaa", sum := "935b7bcfb9e9cf142aaf976812b4626defd16c199e6a1064926ffdf98c2f294c", func := "alibi/alibkeep.AgreeAlone", spec := "agreeAlone", unfollowed := true, recurses := true, apart := false }
def AgreeAloneSaid : Prop := agreeAloneRow.holds Try.pinned (OpenSpec.ofChange agreeAloneSpec)

/-- ITS FALSE NEIGHBOUR: 'it returns false'. Refute it at one input. -/
def agreeAloneWrong : ChangeSpec := { name := "agreeAlone", fn := fun _ => fun
  | [d1, d2, d3] => { results := [.lit (.bool false)], args := [d1, d2, d3] }
  | _ => none }
def AgreeAloneWrongFalsely : Prop := agreeAloneRow.holds Try.pinned (OpenSpec.ofChange agreeAloneWrong)

/-- 'alibkeep.AgreeSame': WHATEVER THE INPUT: true; the input reads as it did. -/
def agreeSameSpec : ChangeSpec := { name := "agreeSame", fn := fun _ => fun
  | [d1, d2, d3] => { results := [.lit (.bool true)], args := [d1, d2, d3] }
  | _ => none }
def agreeSameRow : OpenClaim := { program := "ytglhflmecmidkaa", sum := "935b7bcfb9e9cf142aaf976812b4626defd16c199e6a1064926ffdf98c2f294c", func := "alibi/alibkeep.AgreeSame", spec := "agreeSame", unfollowed := true, recurses := true, apart := false }
def AgreeSameSaid : Prop := agreeSameRow.holds Try.pinned (OpenSpec.ofChange agreeSameSpec)

/-- ITS FALSE NEIGHBOUR: 'it returns false'. Refute it at one input. -/
def agreeSameWrong : ChangeSpec := { name := "agreeSame", fn := fun _ => fun
  | [d1, d2, d3] => { results := [.lit (.bool false)], args := [d1, d2, d3] }
  | _ => none }
def AgreeSameWrongFalsely : Prop := agreeSameRow.holds Try.pinned (OpenSpec.ofChange agreeSameWrong)

/- THE SECOND FORM. 'bulk': how many values and letters a reading holds, each counted each time it is reached (what is shared counts as often as it is met; a slice's spare places count too). A statement '..UptoSaid' is the law's where the arguments, and the package variables that the reading takes, are together of bulk at most 1048576: NARROWER than '..Said'. Prove '..Said' where nothing that the law and all that it calls make is longer than what came in: it says more and counts as full. Else prove '..UptoSaid'. A law counts once. -/
mutual
def uptoBulk {H : Type} : DataW H → Nat
  | .lit (.string bytes) => bytes.length + 1
  | .lit _ => 1
  | .nil => 1
  | .ptr d => uptoBulk d + 1
  | .slice elems spare => uptoBulkAll elems + uptoBulkAll spare + 1
  | .agg parts => uptoBulkAll parts + 1
  | .iface _ d => uptoBulk d + 1
  | .map entries => uptoBulkEntries entries + 1
  | .held _ => 1
def uptoBulkAll {H : Type} : List (DataW H) → Nat
  | [] => 0
  | d :: r => uptoBulk d + uptoBulkAll r
def uptoBulkEntries {H : Type} : List (Lit × DataW H) → Nat
  | [] => 0
  | x :: r => uptoBulkEntry x + uptoBulkEntries r
def uptoBulkEntry {H : Type} : Lit × DataW H → Nat
  | (.string bytes, d) => bytes.length + uptoBulk d + 1
  | (_, d) => uptoBulk d + 1
 end
def uptoSmall : (H : Type) → List (DataW H) → Bool := fun _ ds => decide (uptoBulkAll ds ≤ 1048576)
def OpenSpec.upto (s : _root_.Go.ChangeSpec) : _root_.Go.OpenSpec := { _root_.Go.OpenSpec.ofChange s with cond := some uptoSmall }

/-- 'alibkeep.AgreeNaive', WHERE WHAT IT READS IS OF BULK AT MOST 1048576: true; the input reads as it did. -/
def agreeNaiveUptoRow : OpenClaim := { program := "ytglhflmecmidkaa", sum := "935b7bcfb9e9cf142aaf976812b4626defd16c199e6a1064926ffdf98c2f294c", func := "alibi/alibkeep.AgreeNaive", spec := "agreeNaive", unfollowed := true, recurses := true, apart := false, narrowed := true }
def AgreeNaiveUptoSaid : Prop := agreeNaiveUptoRow.holds Try.pinned (OpenSpec.upto agreeNaiveSpec)

/-- 'alibkeep.AgreeFree', WHERE WHAT IT READS IS OF BULK AT MOST 1048576: true; the input reads as it did. -/
def agreeFreeUptoRow : OpenClaim := { program := "ytglhflmecmidkaa", sum := "935b7bcfb9e9cf142aaf976812b4626defd16c199e6a1064926ffdf98c2f294c", func := "alibi/alibkeep.AgreeFree", spec := "agreeFree", unfollowed := true, recurses := true, apart := false, narrowed := true }
def AgreeFreeUptoSaid : Prop := agreeFreeUptoRow.holds Try.pinned (OpenSpec.upto agreeFreeSpec)

/-- 'alibkeep.AgreeAlone', WHERE WHAT IT READS IS OF BULK AT MOST 1048576: true; the input reads as it did. -/
def agreeAloneUptoRow : OpenClaim := { program := "ytglhflmecmidkaa", sum := "935b7bcfb9e9cf142aaf976812b4626defd16c199e6a1064926ffdf98c2f294c", func := "alibi/alibkeep.AgreeAlone", spec := "agreeAlone", unfollowed := true, recurses := true, apart := false, narrowed := true }
def AgreeAloneUptoSaid : Prop := agreeAloneUptoRow.holds Try.pinned (OpenSpec.upto agreeAloneSpec)

/-- 'alibkeep.AgreeSame', WHERE WHAT IT READS IS OF BULK AT MOST 1048576: true; the input reads as it did. -/
def agreeSameUptoRow : OpenClaim := { program := "ytglhflmecmidkaa", sum := "935b7bcfb9e9cf142aaf976812b4626defd16c199e6a1064926ffdf98c2f294c", func := "alibi/alibkeep.AgreeSame", spec := "agreeSame", unfollowed := true, recurses := true, apart := false, narrowed := true }
def AgreeSameUptoSaid : Prop := agreeSameUptoRow.holds Try.pinned (OpenSpec.upto agreeSameSpec)

end Rows
end Go.Proofs.Ytglhflmecmidkaa
