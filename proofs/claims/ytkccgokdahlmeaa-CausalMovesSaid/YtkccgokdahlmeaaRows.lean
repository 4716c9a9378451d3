/-
  No cell of these rows narrows 'for every input' (looked for: loops, veiled, ifaces, maps, wideKeys, modest, calm, conditions, laid).
  DERIVED. THE GIVEN ROWS OF THIS SEAT. 12 by the template 'for every input the law returns true; each argument reads behind the call as it read before'; 0 by the template 'total and deterministic' (their statements: YtkccgokdahlmeaaTotals.lean).
  GIVEN WITH THE SEED: the statements are not yours to turn. If you find one false, say at which input.
  Laid BY PROGRAM, IN A SANDBOX (cutbox-rows.mjs): the forced cells as the released guide's own fill.sh prints them over the translation 9d94e722417c90a9… (all of the seat's roots in one cut). By AI agents, Wed Nov 11 2026. No macro, syntax, notation, axiom, sorry.
-/
import Derived.Test.YtkccgokdahlmeaaChecked
import GoSem.Claim
import GoSem.ClaimJoined
import GoSem.ClaimMapViews
import Derived.JoinedTies
import Derived.KernelRfl
namespace Go.Proofs.Ytkccgokdahlmeaa
/- THE CELL 'sum', in the pinned program and in every row, IS THE sha256 OF THE DUMP (.gsa) THAT YtkccgokdahlmeaaProg.lean LOADS. Nothing in Lean hashes anything: it is a label: what it is worth is what the hold of that sum in a sandbox is worth. -/
noncomputable def Try.pinned : Pinned := { name := "ytkccgokdahlmeaa", sum := "9d94e722417c90a9560d5fb5df3604c24324167567a8e250aa6a91d42a440e32", checked := Try.checked }
namespace Rows
def none {H : Type} : Left H := { results := [], args := [] }

/-- 'alibkeep.SerialView': WHATEVER THE INPUT: true; the input reads as it did. -/
def serialViewSpec : ChangeSpec := { name := "serialView", fn := fun _ => fun
  | [d] => { results := [.lit (.bool true)], args := [d] }
  | _ => none }
def serialViewRow : OpenClaim := { program := "ytkccgokdahlmeaa", sum := "9d94e722417c90a9560d5fb5df3604c24324167567a8e250aa6a91d42a440e32", func := "alibi/alibkeep.SerialView", spec := "serialView", unfollowed := true, recurses := true, apart := false }
def SerialViewSaid : Prop := serialViewRow.holds Try.pinned (OpenSpec.ofChange serialViewSpec)

/-- ITS FALSE NEIGHBOUR: 'it returns false'. Refute it at one input. -/
def serialViewWrong : ChangeSpec := { name := "serialView", fn := fun _ => fun
  | [d] => { results := [.lit (.bool false)], args := [d] }
  | _ => none }
def SerialViewWrongFalsely : Prop := serialViewRow.holds Try.pinned (OpenSpec.ofChange serialViewWrong)

/-- 'alibkeep.CausalMoves': WHATEVER THE INPUT: true; the input reads as it did. -/
def causalMovesSpec : ChangeSpec := { name := "causalMoves", fn := fun _ => fun
  | [d1, d2, d3] => { results := [.lit (.bool true)], args := [d1, d2, d3] }
  | _ => none }
def causalMovesRow : OpenClaim := { program := "ytkccgokdahlmeaa", sum := "9d94e722417c90a9560d5fb5df3604c24324167567a8e250aa6a91d42a440e32", func := "alibi/alibkeep.CausalMoves", spec := "causalMoves", unfollowed := true, recurses := true, apart := false }
def CausalMovesSaid : Prop := causalMovesRow.holds Try.pinned (OpenSpec.ofChange causalMovesSpec)

/-- ITS FALSE NEIGHBOUR: 'it returns false'. Refute it at one input. -/
def causalMovesWrong : ChangeSpec := { name := "causalMoves", fn := fun _ => fun
  | [d1, d2, d3] => { results := [.lit (.bool false)], args := [d1, d2, d3] }
  | _ => none }
def CausalMovesWrongFalsely : Prop := causalMovesRow.holds Try.pinned (OpenSpec.ofChange causalMovesWrong)

/-- 'alibkeep.SitesStop': WHATEVER THE INPUT: true; the input reads as it did. -/
def sitesStopSpec : ChangeSpec := { name := "sitesStop", fn := fun _ => fun
  | [d1, d2, d3, d4] => { results := [.lit (.bool true)], args := [d1, d2, d3, d4] }
  | _ => none }
def sitesStopRow : OpenClaim := { program := "ytkccgokdahlmeaa", sum := "9d94e722417c90a9560d5fb5df3604c24324167567a8e250aa6a91d42a440e32", func := "alibi/alibkeep.SitesStop", spec := "sitesStop", unfollowed := true, recurses := true, apart := false }
def SitesStopSaid : Prop := sitesStopRow.holds Try.pinned (OpenSpec.ofChange sitesStopSpec)

/-- ITS FALSE NEIGHBOUR: 'it returns false'. Refute it at one input. -/
def sitesStopWrong : ChangeSpec := { name := "sitesStop", fn := fun _ => fun
  | [d1, d2, d3, d4] => { results := [.lit (.bool false)], args := [d1, d2, d3, d4] }
  | _ => none }
def SitesStopWrongFalsely : Prop := sitesStopRow.holds Try.pinned (OpenSpec.ofChange sitesStopWrong)

/-- 'alibkeep.SitesGrow': WHATEVER THE INPUT: true; the input reads as it did. -/
def sitesGrowSpec : ChangeSpec := { name := "sitesGrow", fn := fun _ => fun
  | [d1, d2, d3, d4, d5] => { results := [.lit (.bool true)], args := [d1, d2, d3, d4, d5] }
  | _ => none }
def sitesGrowRow : OpenClaim := { program := "ytkccgokdahlmeaa", sum := "9d94e722417c90a9560d5fb5df3604c24324167567a8e250aa6a91d42a440e32", func := "alibi/alibkeep.SitesGrow", spec := "sitesGrow", unfollowed := true, recurses := true, apart := false }
def SitesGrowSaid : Prop := sitesGrowRow.holds Try.pinned (OpenSpec.ofChange sitesGrowSpec)

/-- ITS FALSE NEIGHBOUR: 'it returns false'. Refute it at one input. -/
def sitesGrowWrong : ChangeSpec := { name := "sitesGrow", fn := fun _ => fun
  | [d1, d2, d3, d4, d5] => { results := [.lit (.bool false)], args := [d1, d2, d3, d4, d5] }
  | _ => none }
def SitesGrowWrongFalsely : Prop := sitesGrowRow.holds Try.pinned (OpenSpec.ofChange sitesGrowWrong)

/-- 'alibkeep.SitesLive': WHATEVER THE INPUT: true; the input reads as it did. -/
def sitesLiveSpec : ChangeSpec := { name := "sitesLive", fn := fun _ => fun
  | [d1, d2, d3, d4] => { results := [.lit (.bool true)], args := [d1, d2, d3, d4] }
  | _ => none }
def sitesLiveRow : OpenClaim := { program := "ytkccgokdahlmeaa", sum := "9d94e722417c90a9560d5fb5df3604c24324167567a8e250aa6a91d42a440e32", func := "alibi/alibkeep.SitesLive", spec := "sitesLive", unfollowed := true, recurses := true, apart := false }
def SitesLiveSaid : Prop := sitesLiveRow.holds Try.pinned (OpenSpec.ofChange sitesLiveSpec)

/-- ITS FALSE NEIGHBOUR: 'it returns false'. Refute it at one input. -/
def sitesLiveWrong : ChangeSpec := { name := "sitesLive", fn := fun _ => fun
  | [d1, d2, d3, d4] => { results := [.lit (.bool false)], args := [d1, d2, d3, d4] }
  | _ => none }
def SitesLiveWrongFalsely : Prop := sitesLiveRow.holds Try.pinned (OpenSpec.ofChange sitesLiveWrong)

/-- 'alibkeep.StepsAlone': WHATEVER THE INPUT: true; the input reads as it did. -/
def stepsAloneSpec : ChangeSpec := { name := "stepsAlone", fn := fun _ => fun
  | [d1, d2, d3, d4] => { results := [.lit (.bool true)], args := [d1, d2, d3, d4] }
  | _ => none }
def stepsAloneRow : OpenClaim := { program := "ytkccgokdahlmeaa", sum := "9d94e722417c90a9560d5fb5df3604c24324167567a8e250aa6a91d42a440e32", func := "alibi/alibkeep.StepsAlone", spec := "stepsAlone", unfollowed := true, recurses := true, apart := false }
def StepsAloneSaid : Prop := stepsAloneRow.holds Try.pinned (OpenSpec.ofChange stepsAloneSpec)

/-- ITS FALSE NEIGHBOUR: 'it returns false'. Refute it at one input. -/
def stepsAloneWrong : ChangeSpec := { name := "stepsAlone", fn := fun _ => fun
  | [d1, d2, d3, d4] => { results := [.lit (.bool false)], args := [d1, d2, d3, d4] }
  | _ => none }
def StepsAloneWrongFalsely : Prop := stepsAloneRow.holds Try.pinned (OpenSpec.ofChange stepsAloneWrong)

/-- 'alibkeep.StepsAnew': WHATEVER THE INPUT: true; the input reads as it did. -/
def stepsAnewSpec : ChangeSpec := { name := "stepsAnew", fn := fun _ => fun
  | [d1, d2, d3] => { results := [.lit (.bool true)], args := [d1, d2, d3] }
  | _ => none }
def stepsAnewRow : OpenClaim := { program := "ytkccgokdahlmeaa", sum := "9d94e722417c90a9560d5fb5df3604c24324167567a8e250aa6a91d42a440e32", func := "alibi/alibkeep.StepsAnew", spec := "stepsAnew", unfollowed := true, recurses := true, apart := false }
def StepsAnewSaid : Prop := stepsAnewRow.holds Try.pinned (OpenSpec.ofChange stepsAnewSpec)

/-- ITS FALSE NEIGHBOUR: 'it returns false'. Refute it at one input. -/
def stepsAnewWrong : ChangeSpec := { name := "stepsAnew", fn := fun _ => fun
  | [d1, d2, d3] => { results := [.lit (.bool false)], args := [d1, d2, d3] }
  | _ => none }
def StepsAnewWrongFalsely : Prop := stepsAnewRow.holds Try.pinned (OpenSpec.ofChange stepsAnewWrong)

/-- 'alibkeep.RegularLevels': WHATEVER THE INPUT: true; the input reads as it did. -/
def regularLevelsSpec : ChangeSpec := { name := "regularLevels", fn := fun _ => fun
  | [d1, d2] => { results := [.lit (.bool true)], args := [d1, d2] }
  | _ => none }
def regularLevelsRow : OpenClaim := { program := "ytkccgokdahlmeaa", sum := "9d94e722417c90a9560d5fb5df3604c24324167567a8e250aa6a91d42a440e32", func := "alibi/alibkeep.RegularLevels", spec := "regularLevels", unfollowed := true, recurses := true, apart := false }
def RegularLevelsSaid : Prop := regularLevelsRow.holds Try.pinned (OpenSpec.ofChange regularLevelsSpec)

/-- ITS FALSE NEIGHBOUR: 'it returns false'. Refute it at one input. -/
def regularLevelsWrong : ChangeSpec := { name := "regularLevels", fn := fun _ => fun
  | [d1, d2] => { results := [.lit (.bool false)], args := [d1, d2] }
  | _ => none }
def RegularLevelsWrongFalsely : Prop := regularLevelsRow.holds Try.pinned (OpenSpec.ofChange regularLevelsWrong)

/-- 'alibkeep.MutexGoes': WHATEVER THE INPUT: true; the input reads as it did. -/
def mutexGoesSpec : ChangeSpec := { name := "mutexGoes", fn := fun _ => fun
  | [d1, d2, d3, d4] => { results := [.lit (.bool true)], args := [d1, d2, d3, d4] }
  | _ => none }
def mutexGoesRow : OpenClaim := { program := "ytkccgokdahlmeaa", sum := "9d94e722417c90a9560d5fb5df3604c24324167567a8e250aa6a91d42a440e32", func := "alibi/alibkeep.MutexGoes", spec := "mutexGoes", apart := false }
def MutexGoesSaid : Prop := mutexGoesRow.holds Try.pinned (OpenSpec.ofChange mutexGoesSpec)

/-- ITS FALSE NEIGHBOUR: 'it returns false'. Refute it at one input. -/
def mutexGoesWrong : ChangeSpec := { name := "mutexGoes", fn := fun _ => fun
  | [d1, d2, d3, d4] => { results := [.lit (.bool false)], args := [d1, d2, d3, d4] }
  | _ => none }
def MutexGoesWrongFalsely : Prop := mutexGoesRow.holds Try.pinned (OpenSpec.ofChange mutexGoesWrong)

/-- 'alibkeep.RegularFast': WHATEVER THE INPUT: true; the input reads as it did. -/
def regularFastSpec : ChangeSpec := { name := "regularFast", fn := fun _ => fun
  | [d1, d2, d3, d4] => { results := [.lit (.bool true)], args := [d1, d2, d3, d4] }
  | _ => none }
def regularFastRow : OpenClaim := { program := "ytkccgokdahlmeaa", sum := "9d94e722417c90a9560d5fb5df3604c24324167567a8e250aa6a91d42a440e32", func := "alibi/alibkeep.RegularFast", spec := "regularFast", unfollowed := true, recurses := true, apart := false }
def RegularFastSaid : Prop := regularFastRow.holds Try.pinned (OpenSpec.ofChange regularFastSpec)

/-- ITS FALSE NEIGHBOUR: 'it returns false'. Refute it at one input. -/
def regularFastWrong : ChangeSpec := { name := "regularFast", fn := fun _ => fun
  | [d1, d2, d3, d4] => { results := [.lit (.bool false)], args := [d1, d2, d3, d4] }
  | _ => none }
def RegularFastWrongFalsely : Prop := regularFastRow.holds Try.pinned (OpenSpec.ofChange regularFastWrong)

/-- 'alibkeep.ThreadsTurns': WHATEVER THE INPUT: true; the input reads as it did. -/
def threadsTurnsSpec : ChangeSpec := { name := "threadsTurns", fn := fun _ => fun
  | [d1, d2, d3, d4] => { results := [.lit (.bool true)], args := [d1, d2, d3, d4] }
  | _ => none }
def threadsTurnsRow : OpenClaim := { program := "ytkccgokdahlmeaa", sum := "9d94e722417c90a9560d5fb5df3604c24324167567a8e250aa6a91d42a440e32", func := "alibi/alibkeep.ThreadsTurns", spec := "threadsTurns", unfollowed := true, recurses := true, apart := false }
def ThreadsTurnsSaid : Prop := threadsTurnsRow.holds Try.pinned (OpenSpec.ofChange threadsTurnsSpec)

/-- ITS FALSE NEIGHBOUR: 'it returns false'. Refute it at one input. -/
def threadsTurnsWrong : ChangeSpec := { name := "threadsTurns", fn := fun _ => fun
  | [d1, d2, d3, d4] => { results := [.lit (.bool false)], args := [d1, d2, d3, d4] }
  | _ => none }
def ThreadsTurnsWrongFalsely : Prop := threadsTurnsRow.holds Try.pinned (OpenSpec.ofChange threadsTurnsWrong)

/-- 'alibkeep.ThreadsAll': WHATEVER THE INPUT: true; the input reads as it did. -/
def threadsAllSpec : ChangeSpec := { name := "threadsAll", fn := fun _ => fun
  | [d1, d2, d3] => { results := [.lit (.bool true)], args := [d1, d2, d3] }
  | _ => none }
def threadsAllRow : OpenClaim := { program := "ytkccgokdahlmeaa", sum := "9d94e722417c90a9560d5fb5df3604c24324167567a8e250aa6a91d42a440e32", func := "alibi/alibkeep.ThreadsAll", spec := "threadsAll", unfollowed := true, recurses := true, apart := false }
def ThreadsAllSaid : Prop := threadsAllRow.holds Try.pinned (OpenSpec.ofChange threadsAllSpec)

/-- ITS FALSE NEIGHBOUR: 'it returns false'. Refute it at one input. -/
def threadsAllWrong : ChangeSpec := { name := "threadsAll", fn := fun _ => fun
  | [d1, d2, d3] => { results := [.lit (.bool false)], args := [d1, d2, d3] }
  | _ => none }
def ThreadsAllWrongFalsely : Prop := threadsAllRow.holds Try.pinned (OpenSpec.ofChange threadsAllWrong)

/- THE SECOND FORM. 'bulk': how many values and letters a reading holds, each counted each time it is reached (what is shared counts as often as it is met; a slice's spare places count too). A statement '..UptoSaid' is the law's where the arguments, and the package variables that the reading takes, are together of bulk at most 1048576: NARROWER than '..Said'. Prove '..Said' where nothing that the law and all that it calls make is longer than what came in: it says more and counts as full. Else prove '..UptoSaid'. A law counts once. -/
mutual
def uptoBulk {H : Type} : DataW H → Nat
  | .lit (.string bytes) => bytes.length + 1
  | .lit _ => 1
  | .nil => 1
  | .ptr d => uptoBulk d + 1
  | .slice elems spare => uptoBulkAll elems + uptoBulkAll spare + 1
  | .agg parts => uptoBulkAll parts + 1
  | .iface _ d => uptoBulk d + 1
  | .map entries => uptoBulkEntries entries + 1
  | .held _ => 1
def uptoBulkAll {H : Type} : List (DataW H) → Nat
  | [] => 0
  | d :: r => uptoBulk d + uptoBulkAll r
def uptoBulkEntries {H : Type} : List (Lit × DataW H) → Nat
  | [] => 0
  | x :: r => uptoBulkEntry x + uptoBulkEntries r
def uptoBulkEntry {H : Type} : Lit × DataW H → Nat
  | (.string bytes, d) => bytes.length + uptoBulk d + 1
  | (_, d) => uptoBulk d + 1
 end
def uptoSmall : (H : Type) → List (DataW H) → Bool := fun _ ds => decide (uptoBulkAll ds ≤ 1048576)
def OpenSpec.upto (s : _root_.Go.ChangeSpec) : _root_.Go.OpenSpec := { _root_.Go.OpenSpec.ofChange s with cond := some uptoSmall }

/-- 'alibkeep.SerialView', WHERE WHAT IT READS IS OF BULK AT MOST 1048576: true; the input reads as it did. -/
def serialViewUptoRow : OpenClaim := { program := "ytkccgokdahlmeaa", sum := "9d94e722417c90a9560d5fb5df3604c24324167567a8e250aa6a91d42a440e32", func := "alibi/alibkeep.SerialView", spec := "serialView", unfollowed := true, recurses := true, apart := false, narrowed := true }
def SerialViewUptoSaid : Prop := serialViewUptoRow.holds Try.pinned (OpenSpec.upto serialViewSpec)

/-- 'alibkeep.CausalMoves', WHERE WHAT IT READS IS OF BULK AT MOST 1048576: true; the input reads as it did. -/
def causalMovesUptoRow : OpenClaim := { program := "ytkccgokdahlmeaa", sum := "9d94e722417c90a9560d5fb5df3604c24324167567a8e250aa6a91d42a440e32", func := "alibi/alibkeep.CausalMoves", spec := "causalMoves", unfollowed := true, recurses := true, apart := false, narrowed := true }
def CausalMovesUptoSaid : Prop := causalMovesUptoRow.holds Try.pinned (OpenSpec.upto causalMovesSpec)

/-- 'alibkeep.SitesStop', WHERE WHAT IT READS IS OF BULK AT MOST 1048576: true; the input reads as it did. -/
def sitesStopUptoRow : OpenClaim := { program := "ytkccgokdahlmeaa", sum := "9d94e722417c90a9560d5fb5df3604c24324167567a8e250aa6a91d42a440e32", func := "alibi/alibkeep.SitesStop", spec := "sitesStop", unfollowed := true, recurses := true, apart := false, narrowed := true }
def SitesStopUptoSaid : Prop := sitesStopUptoRow.holds Try.pinned (OpenSpec.upto sitesStopSpec)

/-- 'alibkeep.SitesGrow', WHERE WHAT IT READS IS OF BULK AT MOST 1048576: true; the input reads as it did. -/
def sitesGrowUptoRow : OpenClaim := { program := "ytkccgokdahlmeaa", sum := "9d94e722417c90a9560d5fb5df3604c24324167567a8e250aa6a91d42a440e32", func := "alibi/alibkeep.SitesGrow", spec := "sitesGrow", unfollowed := true, recurses := true, apart := false, narrowed := true }
def SitesGrowUptoSaid : Prop := sitesGrowUptoRow.holds Try.pinned (OpenSpec.upto sitesGrowSpec)

/-- 'alibkeep.SitesLive', WHERE WHAT IT READS IS OF BULK AT MOST 1048576: true; the input reads as it did. -/
def sitesLiveUptoRow : OpenClaim := { program := "ytkccgokdahlmeaa", sum := "9d94e722417c90a9560d5fb5df3604c24324167567a8e250aa6a91d42a440e32", func := "alibi/alibkeep.SitesLive", spec := "sitesLive", unfollowed := true, recurses := true, apart := false, narrowed := true }
def SitesLiveUptoSaid : Prop := sitesLiveUptoRow.holds Try.pinned (OpenSpec.upto sitesLiveSpec)

/-- 'alibkeep.StepsAlone', WHERE WHAT IT READS IS OF BULK AT MOST 1048576: true; the input reads as it did. -/
def stepsAloneUptoRow : OpenClaim := { program := "ytkccgokdahlmeaa", sum := "9d94e722417c90a9560d5fb5df3604c24324167567a8e250aa6a91d42a440e32", func := "alibi/alibkeep.StepsAlone", spec := "stepsAlone", unfollowed := true, recurses := true, apart := false, narrowed := true }
def StepsAloneUptoSaid : Prop := stepsAloneUptoRow.holds Try.pinned (OpenSpec.upto stepsAloneSpec)

/-- 'alibkeep.StepsAnew', WHERE WHAT IT READS IS OF BULK AT MOST 1048576: true; the input reads as it did. -/
def stepsAnewUptoRow : OpenClaim := { program := "ytkccgokdahlmeaa", sum := "9d94e722417c90a9560d5fb5df3604c24324167567a8e250aa6a91d42a440e32", func := "alibi/alibkeep.StepsAnew", spec := "stepsAnew", unfollowed := true, recurses := true, apart := false, narrowed := true }
def StepsAnewUptoSaid : Prop := stepsAnewUptoRow.holds Try.pinned (OpenSpec.upto stepsAnewSpec)

/-- 'alibkeep.RegularLevels', WHERE WHAT IT READS IS OF BULK AT MOST 1048576: true; the input reads as it did. -/
def regularLevelsUptoRow : OpenClaim := { program := "ytkccgokdahlmeaa", sum := "9d94e722417c90a9560d5fb5df3604c24324167567a8e250aa6a91d42a440e32", func := "alibi/alibkeep.RegularLevels", spec := "regularLevels", unfollowed := true, recurses := true, apart := false, narrowed := true }
def RegularLevelsUptoSaid : Prop := regularLevelsUptoRow.holds Try.pinned (OpenSpec.upto regularLevelsSpec)

/-- 'alibkeep.MutexGoes', WHERE WHAT IT READS IS OF BULK AT MOST 1048576: true; the input reads as it did. -/
def mutexGoesUptoRow : OpenClaim := { program := "ytkccgokdahlmeaa", sum := "9d94e722417c90a9560d5fb5df3604c24324167567a8e250aa6a91d42a440e32", func := "alibi/alibkeep.MutexGoes", spec := "mutexGoes", apart := false, narrowed := true }
def MutexGoesUptoSaid : Prop := mutexGoesUptoRow.holds Try.pinned (OpenSpec.upto mutexGoesSpec)

/-- 'alibkeep.RegularFast', WHERE WHAT IT READS IS OF BULK AT MOST 1048576: true; the input reads as it did. -/
def regularFastUptoRow : OpenClaim := { program := "ytkccgokdahlmeaa", sum := "9d94e722417c90a9560d5fb5df3604c24324167567a8e250aa6a91d42a440e32", func := "alibi/alibkeep.RegularFast", spec := "regularFast", unfollowed := true, recurses := true, apart := false, narrowed := true }
def RegularFastUptoSaid : Prop := regularFastUptoRow.holds Try.pinned (OpenSpec.upto regularFastSpec)

/-- 'alibkeep.ThreadsTurns', WHERE WHAT IT READS IS OF BULK AT MOST 1048576: true; the input reads as it did. -/
def threadsTurnsUptoRow : OpenClaim := { program := "ytkccgokdahlmeaa", sum := "9d94e722417c90a9560d5fb5df3604c24324167567a8e250aa6a91d42a440e32", func := "alibi/alibkeep.ThreadsTurns", spec := "threadsTurns", unfollowed := true, recurses := true, apart := false, narrowed := true }
def ThreadsTurnsUptoSaid : Prop := threadsTurnsUptoRow.holds Try.pinned (OpenSpec.upto threadsTurnsSpec)

/-- 'alibkeep.ThreadsAll', WHERE WHAT IT READS IS OF BULK AT MOST 1048576: true; the input reads as it did. -/
def threadsAllUptoRow : OpenClaim := { program := "ytkccgokdahlmeaa", sum := "9d94e722417c90a9560d5fb5df3604c24324167567a8e250aa6a91d42a440e32", func := "alibi/alibkeep.ThreadsAll", spec := "threadsAll", unfollowed := true, recurses := true, apart := false, narrowed := true }
def ThreadsAllUptoSaid : Prop := threadsAllUptoRow.holds Try.pinned (OpenSpec.upto threadsAllSpec)

end Rows
end Go.Proofs.Ytkccgokdahlmeaa
