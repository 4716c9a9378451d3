/-
  No cell of these rows narrows 'for every input' (looked for: loops, veiled, ifaces, maps, wideKeys, modest, calm, conditions, laid).
  DERIVED. THE GIVEN ROWS OF THIS SEAT. 17 by the template 'for every input the law returns true; each argument reads behind the call as it read before'; 0 by the template 'total and deterministic' (their statements: YteklmleiiiodfaaTotals.lean).
  GIVEN WITH THE SEED: the statements are not yours to turn. If you find one false, say at which input.
  Laid BY PROGRAM, IN A SANDBOX (cutbox-rows.mjs): the forced cells as the released guide's own fill.sh prints them over the translation 1c90ebacf33eb1bc… (all of the seat's roots in one cut). By AI agents, Wed Nov 11 2026. No macro, syntax, notation, axiom, sorry.
-/
import Derived.Test.YteklmleiiiodfaaChecked
import GoSem.Claim
import GoSem.ClaimJoined
import GoSem.ClaimMapViews
import Derived.JoinedTies
import Derived.KernelRfl
namespace Go.Proofs.Yteklmleiiiodfaa
/- THE CELL 'sum', in the pinned program and in every row, IS THE sha256 OF THE DUMP (.gsa) THAT YteklmleiiiodfaaProg.lean LOADS. Nothing in Lean hashes anything: it is a label: what it is worth is what the hold of that sum in a sandbox is worth. -/
noncomputable def Try.pinned : Pinned := { name := "yteklmleiiiodfaa", sum := "1c90ebacf33eb1bc4729e04b452ecba514dcd8578bbc1bc28b7956ab2623baa3", checked := Try.checked }
namespace Rows
def none {H : Type} : Left H := { results := [], args := [] }

/-- 'alibkeep.SitesStop': WHATEVER THE INPUT: true; the input reads as it did. -/
def sitesStopSpec : ChangeSpec := { name := "sitesStop", fn := fun _ => fun
  | [d1, d2, d3, d4] => { results := [.lit (.bool true)], args := [d1, d2, d3, d4] }
  | _ => none }
def sitesStopRow : OpenClaim := { program := "yteklmleiiiodfaa", sum := "1c90ebacf33eb1bc4729e04b452ecba514dcd8578bbc1bc28b7956ab2623baa3", func := "alibi/alibkeep.SitesStop", spec := "sitesStop", unfollowed := true, recurses := true, apart := false }
def SitesStopSaid : Prop := sitesStopRow.holds Try.pinned (OpenSpec.ofChange sitesStopSpec)

/-- ITS FALSE NEIGHBOUR: 'it returns false'. Refute it at one input. -/
def sitesStopWrong : ChangeSpec := { name := "sitesStop", fn := fun _ => fun
  | [d1, d2, d3, d4] => { results := [.lit (.bool false)], args := [d1, d2, d3, d4] }
  | _ => none }
def SitesStopWrongFalsely : Prop := sitesStopRow.holds Try.pinned (OpenSpec.ofChange sitesStopWrong)

/-- 'alibkeep.SitesGrow': WHATEVER THE INPUT: true; the input reads as it did. -/
def sitesGrowSpec : ChangeSpec := { name := "sitesGrow", fn := fun _ => fun
  | [d1, d2, d3, d4, d5] => { results := [.lit (.bool true)], args := [d1, d2, d3, d4, d5] }
  | _ => none }
def sitesGrowRow : OpenClaim := { program := "yteklmleiiiodfaa", sum := "1c90ebacf33eb1bc4729e04b452ecba514dcd8578bbc1bc28b7956ab2623baa3", func := "alibi/alibkeep.SitesGrow", spec := "sitesGrow", unfollowed := true, recurses := true, apart := false }
def SitesGrowSaid : Prop := sitesGrowRow.holds Try.pinned (OpenSpec.ofChange sitesGrowSpec)

/-- ITS FALSE NEIGHBOUR: 'it returns false'. Refute it at one input. -/
def sitesGrowWrong : ChangeSpec := { name := "sitesGrow", fn := fun _ => fun
  | [d1, d2, d3, d4, d5] => { results := [.lit (.bool false)], args := [d1, d2, d3, d4, d5] }
  | _ => none }
def SitesGrowWrongFalsely : Prop := sitesGrowRow.holds Try.pinned (OpenSpec.ofChange sitesGrowWrong)

/-- 'alibkeep.SitesLive': WHATEVER THE INPUT: true; the input reads as it did. -/
def sitesLiveSpec : ChangeSpec := { name := "sitesLive", fn := fun _ => fun
  | [d1, d2, d3, d4] => { results := [.lit (.bool true)], args := [d1, d2, d3, d4] }
  | _ => none }
def sitesLiveRow : OpenClaim := { program := "yteklmleiiiodfaa", sum := "1c90ebacf33eb1bc4729e04b452ecba514dcd8578bbc1bc28b7956ab2623baa3", func := "alibi/alibkeep.SitesLive", spec := "sitesLive", unfollowed := true, recurses := true, apart := false }
def SitesLiveSaid : Prop := sitesLiveRow.holds Try.pinned (OpenSpec.ofChange sitesLiveSpec)

/-- ITS FALSE NEIGHBOUR: 'it returns false'. Refute it at one input. -/
def sitesLiveWrong : ChangeSpec := { name := "sitesLive", fn := fun _ => fun
  | [d1, d2, d3, d4] => { results := [.lit (.bool false)], args := [d1, d2, d3, d4] }
  | _ => none }
def SitesLiveWrongFalsely : Prop := sitesLiveRow.holds Try.pinned (OpenSpec.ofChange sitesLiveWrong)

/-- 'alibkeep.SitesRight': WHATEVER THE INPUT: true; the input reads as it did. -/
def sitesRightSpec : ChangeSpec := { name := "sitesRight", fn := fun _ => fun
  | [d1, d2, d3] => { results := [.lit (.bool true)], args := [d1, d2, d3] }
  | _ => none }
def sitesRightRow : OpenClaim := { program := "yteklmleiiiodfaa", sum := "1c90ebacf33eb1bc4729e04b452ecba514dcd8578bbc1bc28b7956ab2623baa3", func := "alibi/alibkeep.SitesRight", spec := "sitesRight", unfollowed := true, recurses := true, apart := false }
def SitesRightSaid : Prop := sitesRightRow.holds Try.pinned (OpenSpec.ofChange sitesRightSpec)

/-- ITS FALSE NEIGHBOUR: 'it returns false'. Refute it at one input. -/
def sitesRightWrong : ChangeSpec := { name := "sitesRight", fn := fun _ => fun
  | [d1, d2, d3] => { results := [.lit (.bool false)], args := [d1, d2, d3] }
  | _ => none }
def SitesRightWrongFalsely : Prop := sitesRightRow.holds Try.pinned (OpenSpec.ofChange sitesRightWrong)

/-- 'alibkeep.SitesFast': WHATEVER THE INPUT: true; the input reads as it did. -/
def sitesFastSpec : ChangeSpec := { name := "sitesFast", fn := fun _ => fun
  | [] => { results := [.lit (.bool true)], args := [] }
  | _ => none }
def sitesFastRow : OpenClaim := { program := "yteklmleiiiodfaa", sum := "1c90ebacf33eb1bc4729e04b452ecba514dcd8578bbc1bc28b7956ab2623baa3", func := "alibi/alibkeep.SitesFast", spec := "sitesFast", unfollowed := true, recurses := true, apart := false }
def SitesFastSaid : Prop := sitesFastRow.holds Try.pinned (OpenSpec.ofChange sitesFastSpec)

/-- ITS FALSE NEIGHBOUR: 'it returns false'. Refute it at one input. -/
def sitesFastWrong : ChangeSpec := { name := "sitesFast", fn := fun _ => fun
  | [] => { results := [.lit (.bool false)], args := [] }
  | _ => none }
def SitesFastWrongFalsely : Prop := sitesFastRow.holds Try.pinned (OpenSpec.ofChange sitesFastWrong)

/-- 'alibkeep.StepsAlone': WHATEVER THE INPUT: true; the input reads as it did. -/
def stepsAloneSpec : ChangeSpec := { name := "stepsAlone", fn := fun _ => fun
  | [d1, d2, d3, d4] => { results := [.lit (.bool true)], args := [d1, d2, d3, d4] }
  | _ => none }
def stepsAloneRow : OpenClaim := { program := "yteklmleiiiodfaa", sum := "1c90ebacf33eb1bc4729e04b452ecba514dcd8578bbc1bc28b7956ab2623baa3", func := "alibi/alibkeep.StepsAlone", spec := "stepsAlone", unfollowed := true, recurses := true, apart := false }
def StepsAloneSaid : Prop := stepsAloneRow.holds Try.pinned (OpenSpec.ofChange stepsAloneSpec)

/-- ITS FALSE NEIGHBOUR: 'it returns false'. Refute it at one input. -/
def stepsAloneWrong : ChangeSpec := { name := "stepsAlone", fn := fun _ => fun
  | [d1, d2, d3, d4] => { results := [.lit (.bool false)], args := [d1, d2, d3, d4] }
  | _ => none }
def StepsAloneWrongFalsely : Prop := stepsAloneRow.holds Try.pinned (OpenSpec.ofChange stepsAloneWrong)

/-- 'alibkeep.StepsAnew': WHATEVER THE INPUT: true; the input reads as it did. -/
def stepsAnewSpec : ChangeSpec := { name := "stepsAnew", fn := fun _ => fun
  | [d1, d2, d3] => { results := [.lit (.bool true)], args := [d1, d2, d3] }
  | _ => none }
def stepsAnewRow : OpenClaim := { program := "yteklmleiiiodfaa", sum := "1c90ebacf33eb1bc4729e04b452ecba514dcd8578bbc1bc28b7956ab2623baa3", func := "alibi/alibkeep.StepsAnew", spec := "stepsAnew", unfollowed := true, recurses := true, apart := false }
def StepsAnewSaid : Prop := stepsAnewRow.holds Try.pinned (OpenSpec.ofChange stepsAnewSpec)

/-- ITS FALSE NEIGHBOUR: 'it returns false'. Refute it at one input. -/
def stepsAnewWrong : ChangeSpec := { name := "stepsAnew", fn := fun _ => fun
  | [d1, d2, d3] => { results := [.lit (.bool false)], args := [d1, d2, d3] }
  | _ => none }
def StepsAnewWrongFalsely : Prop := stepsAnewRow.holds Try.pinned (OpenSpec.ofChange stepsAnewWrong)

/-- 'alibkeep.StepsRight': WHATEVER THE INPUT: true; the input reads as it did. -/
def stepsRightSpec : ChangeSpec := { name := "stepsRight", fn := fun _ => fun
  | [d1, d2, d3] => { results := [.lit (.bool true)], args := [d1, d2, d3] }
  | _ => none }
def stepsRightRow : OpenClaim := { program := "yteklmleiiiodfaa", sum := "1c90ebacf33eb1bc4729e04b452ecba514dcd8578bbc1bc28b7956ab2623baa3", func := "alibi/alibkeep.StepsRight", spec := "stepsRight", unfollowed := true, recurses := true, apart := false }
def StepsRightSaid : Prop := stepsRightRow.holds Try.pinned (OpenSpec.ofChange stepsRightSpec)

/-- ITS FALSE NEIGHBOUR: 'it returns false'. Refute it at one input. -/
def stepsRightWrong : ChangeSpec := { name := "stepsRight", fn := fun _ => fun
  | [d1, d2, d3] => { results := [.lit (.bool false)], args := [d1, d2, d3] }
  | _ => none }
def StepsRightWrongFalsely : Prop := stepsRightRow.holds Try.pinned (OpenSpec.ofChange stepsRightWrong)

/-- 'alibkeep.StepsLost': WHATEVER THE INPUT: true; the input reads as it did. -/
def stepsLostSpec : ChangeSpec := { name := "stepsLost", fn := fun _ => fun
  | [] => { results := [.lit (.bool true)], args := [] }
  | _ => none }
def stepsLostRow : OpenClaim := { program := "yteklmleiiiodfaa", sum := "1c90ebacf33eb1bc4729e04b452ecba514dcd8578bbc1bc28b7956ab2623baa3", func := "alibi/alibkeep.StepsLost", spec := "stepsLost", unfollowed := true, recurses := true, apart := false }
def StepsLostSaid : Prop := stepsLostRow.holds Try.pinned (OpenSpec.ofChange stepsLostSpec)

/-- ITS FALSE NEIGHBOUR: 'it returns false'. Refute it at one input. -/
def stepsLostWrong : ChangeSpec := { name := "stepsLost", fn := fun _ => fun
  | [] => { results := [.lit (.bool false)], args := [] }
  | _ => none }
def StepsLostWrongFalsely : Prop := stepsLostRow.holds Try.pinned (OpenSpec.ofChange stepsLostWrong)

/-- 'alibkeep.StepsLong': WHATEVER THE INPUT: true; the input reads as it did. -/
def stepsLongSpec : ChangeSpec := { name := "stepsLong", fn := fun _ => fun
  | [d1, d2] => { results := [.lit (.bool true)], args := [d1, d2] }
  | _ => none }
def stepsLongRow : OpenClaim := { program := "yteklmleiiiodfaa", sum := "1c90ebacf33eb1bc4729e04b452ecba514dcd8578bbc1bc28b7956ab2623baa3", func := "alibi/alibkeep.StepsLong", spec := "stepsLong", unfollowed := true, recurses := true, apart := false }
def StepsLongSaid : Prop := stepsLongRow.holds Try.pinned (OpenSpec.ofChange stepsLongSpec)

/-- ITS FALSE NEIGHBOUR: 'it returns false'. Refute it at one input. -/
def stepsLongWrong : ChangeSpec := { name := "stepsLong", fn := fun _ => fun
  | [d1, d2] => { results := [.lit (.bool false)], args := [d1, d2] }
  | _ => none }
def StepsLongWrongFalsely : Prop := stepsLongRow.holds Try.pinned (OpenSpec.ofChange stepsLongWrong)

/-- 'alibkeep.ThreadsTurns': WHATEVER THE INPUT: true; the input reads as it did. -/
def threadsTurnsSpec : ChangeSpec := { name := "threadsTurns", fn := fun _ => fun
  | [d1, d2, d3, d4] => { results := [.lit (.bool true)], args := [d1, d2, d3, d4] }
  | _ => none }
def threadsTurnsRow : OpenClaim := { program := "yteklmleiiiodfaa", sum := "1c90ebacf33eb1bc4729e04b452ecba514dcd8578bbc1bc28b7956ab2623baa3", func := "alibi/alibkeep.ThreadsTurns", spec := "threadsTurns", unfollowed := true, recurses := true, apart := false }
def ThreadsTurnsSaid : Prop := threadsTurnsRow.holds Try.pinned (OpenSpec.ofChange threadsTurnsSpec)

/-- ITS FALSE NEIGHBOUR: 'it returns false'. Refute it at one input. -/
def threadsTurnsWrong : ChangeSpec := { name := "threadsTurns", fn := fun _ => fun
  | [d1, d2, d3, d4] => { results := [.lit (.bool false)], args := [d1, d2, d3, d4] }
  | _ => none }
def ThreadsTurnsWrongFalsely : Prop := threadsTurnsRow.holds Try.pinned (OpenSpec.ofChange threadsTurnsWrong)

/-- 'alibkeep.ThreadsAll': WHATEVER THE INPUT: true; the input reads as it did. -/
def threadsAllSpec : ChangeSpec := { name := "threadsAll", fn := fun _ => fun
  | [d1, d2, d3] => { results := [.lit (.bool true)], args := [d1, d2, d3] }
  | _ => none }
def threadsAllRow : OpenClaim := { program := "yteklmleiiiodfaa", sum := "1c90ebacf33eb1bc4729e04b452ecba514dcd8578bbc1bc28b7956ab2623baa3", func := "alibi/alibkeep.ThreadsAll", spec := "threadsAll", unfollowed := true, recurses := true, apart := false }
def ThreadsAllSaid : Prop := threadsAllRow.holds Try.pinned (OpenSpec.ofChange threadsAllSpec)

/-- ITS FALSE NEIGHBOUR: 'it returns false'. Refute it at one input. -/
def threadsAllWrong : ChangeSpec := { name := "threadsAll", fn := fun _ => fun
  | [d1, d2, d3] => { results := [.lit (.bool false)], args := [d1, d2, d3] }
  | _ => none }
def ThreadsAllWrongFalsely : Prop := threadsAllRow.holds Try.pinned (OpenSpec.ofChange threadsAllWrong)

/-- 'alibkeep.ThreadsRight': WHATEVER THE INPUT: true; the input reads as it did. -/
def threadsRightSpec : ChangeSpec := { name := "threadsRight", fn := fun _ => fun
  | [d1, d2, d3] => { results := [.lit (.bool true)], args := [d1, d2, d3] }
  | _ => none }
def threadsRightRow : OpenClaim := { program := "yteklmleiiiodfaa", sum := "1c90ebacf33eb1bc4729e04b452ecba514dcd8578bbc1bc28b7956ab2623baa3", func := "alibi/alibkeep.ThreadsRight", spec := "threadsRight", unfollowed := true, recurses := true, apart := false }
def ThreadsRightSaid : Prop := threadsRightRow.holds Try.pinned (OpenSpec.ofChange threadsRightSpec)

/-- ITS FALSE NEIGHBOUR: 'it returns false'. Refute it at one input. -/
def threadsRightWrong : ChangeSpec := { name := "threadsRight", fn := fun _ => fun
  | [d1, d2, d3] => { results := [.lit (.bool false)], args := [d1, d2, d3] }
  | _ => none }
def ThreadsRightWrongFalsely : Prop := threadsRightRow.holds Try.pinned (OpenSpec.ofChange threadsRightWrong)

/-- 'alibkeep.RegularLevels': WHATEVER THE INPUT: true; the input reads as it did. -/
def regularLevelsSpec : ChangeSpec := { name := "regularLevels", fn := fun _ => fun
  | [d1, d2] => { results := [.lit (.bool true)], args := [d1, d2] }
  | _ => none }
def regularLevelsRow : OpenClaim := { program := "yteklmleiiiodfaa", sum := "1c90ebacf33eb1bc4729e04b452ecba514dcd8578bbc1bc28b7956ab2623baa3", func := "alibi/alibkeep.RegularLevels", spec := "regularLevels", unfollowed := true, recurses := true, apart := false }
def RegularLevelsSaid : Prop := regularLevelsRow.holds Try.pinned (OpenSpec.ofChange regularLevelsSpec)

/-- ITS FALSE NEIGHBOUR: 'it returns false'. Refute it at one input. -/
def regularLevelsWrong : ChangeSpec := { name := "regularLevels", fn := fun _ => fun
  | [d1, d2] => { results := [.lit (.bool false)], args := [d1, d2] }
  | _ => none }
def RegularLevelsWrongFalsely : Prop := regularLevelsRow.holds Try.pinned (OpenSpec.ofChange regularLevelsWrong)

/-- 'alibkeep.RegularFast': WHATEVER THE INPUT: true; the input reads as it did. -/
def regularFastSpec : ChangeSpec := { name := "regularFast", fn := fun _ => fun
  | [d1, d2, d3, d4] => { results := [.lit (.bool true)], args := [d1, d2, d3, d4] }
  | _ => none }
def regularFastRow : OpenClaim := { program := "yteklmleiiiodfaa", sum := "1c90ebacf33eb1bc4729e04b452ecba514dcd8578bbc1bc28b7956ab2623baa3", func := "alibi/alibkeep.RegularFast", spec := "regularFast", unfollowed := true, recurses := true, apart := false }
def RegularFastSaid : Prop := regularFastRow.holds Try.pinned (OpenSpec.ofChange regularFastSpec)

/-- ITS FALSE NEIGHBOUR: 'it returns false'. Refute it at one input. -/
def regularFastWrong : ChangeSpec := { name := "regularFast", fn := fun _ => fun
  | [d1, d2, d3, d4] => { results := [.lit (.bool false)], args := [d1, d2, d3, d4] }
  | _ => none }
def RegularFastWrongFalsely : Prop := regularFastRow.holds Try.pinned (OpenSpec.ofChange regularFastWrong)

/-- 'alibkeep.RegularTurned': WHATEVER THE INPUT: true; the input reads as it did. -/
def regularTurnedSpec : ChangeSpec := { name := "regularTurned", fn := fun _ => fun
  | [d] => { results := [.lit (.bool true)], args := [d] }
  | _ => none }
def regularTurnedRow : OpenClaim := { program := "yteklmleiiiodfaa", sum := "1c90ebacf33eb1bc4729e04b452ecba514dcd8578bbc1bc28b7956ab2623baa3", func := "alibi/alibkeep.RegularTurned", spec := "regularTurned", unfollowed := true, recurses := true, apart := false }
def RegularTurnedSaid : Prop := regularTurnedRow.holds Try.pinned (OpenSpec.ofChange regularTurnedSpec)

/-- ITS FALSE NEIGHBOUR: 'it returns false'. Refute it at one input. -/
def regularTurnedWrong : ChangeSpec := { name := "regularTurned", fn := fun _ => fun
  | [d] => { results := [.lit (.bool false)], args := [d] }
  | _ => none }
def RegularTurnedWrongFalsely : Prop := regularTurnedRow.holds Try.pinned (OpenSpec.ofChange regularTurnedWrong)

/-- 'alibkeep.RegularAtomic': WHATEVER THE INPUT: true; the input reads as it did. -/
def regularAtomicSpec : ChangeSpec := { name := "regularAtomic", fn := fun _ => fun
  | [d] => { results := [.lit (.bool true)], args := [d] }
  | _ => none }
def regularAtomicRow : OpenClaim := { program := "yteklmleiiiodfaa", sum := "1c90ebacf33eb1bc4729e04b452ecba514dcd8578bbc1bc28b7956ab2623baa3", func := "alibi/alibkeep.RegularAtomic", spec := "regularAtomic", unfollowed := true, recurses := true, apart := false }
def RegularAtomicSaid : Prop := regularAtomicRow.holds Try.pinned (OpenSpec.ofChange regularAtomicSpec)

/-- ITS FALSE NEIGHBOUR: 'it returns false'. Refute it at one input. -/
def regularAtomicWrong : ChangeSpec := { name := "regularAtomic", fn := fun _ => fun
  | [d] => { results := [.lit (.bool false)], args := [d] }
  | _ => none }
def RegularAtomicWrongFalsely : Prop := regularAtomicRow.holds Try.pinned (OpenSpec.ofChange regularAtomicWrong)

/- THE SECOND FORM. 'bulk': how many values and letters a reading holds, each counted each time it is reached (what is shared counts as often as it is met; a slice's spare places count too). A statement '..UptoSaid' is the law's where the arguments, and the package variables that the reading takes, are together of bulk at most 1048576: NARROWER than '..Said'. Prove '..Said' where nothing that the law and all that it calls make is longer than what came in: it says more and counts as full. Else prove '..UptoSaid'. A law counts once. -/
mutual
def uptoBulk {H : Type} : DataW H → Nat
  | .lit (.string bytes) => bytes.length + 1
  | .lit _ => 1
  | .nil => 1
  | .ptr d => uptoBulk d + 1
  | .slice elems spare => uptoBulkAll elems + uptoBulkAll spare + 1
  | .agg parts => uptoBulkAll parts + 1
  | .iface _ d => uptoBulk d + 1
  | .map entries => uptoBulkEntries entries + 1
  | .held _ => 1
def uptoBulkAll {H : Type} : List (DataW H) → Nat
  | [] => 0
  | d :: r => uptoBulk d + uptoBulkAll r
def uptoBulkEntries {H : Type} : List (Lit × DataW H) → Nat
  | [] => 0
  | x :: r => uptoBulkEntry x + uptoBulkEntries r
def uptoBulkEntry {H : Type} : Lit × DataW H → Nat
  | (.string bytes, d) => bytes.length + uptoBulk d + 1
  | (_, d) => uptoBulk d + 1
 end
def uptoSmall : (H : Type) → List (DataW H) → Bool := fun _ ds => decide (uptoBulkAll ds ≤ 1048576)
def OpenSpec.upto (s : _root_.Go.ChangeSpec) : _root_.Go.OpenSpec := { _root_.Go.OpenSpec.ofChange s with cond := some uptoSmall }

/-- 'alibkeep.SitesStop', WHERE WHAT IT READS IS OF BULK AT MOST 1048576: true; the input reads as it did. -/
def sitesStopUptoRow : OpenClaim := { program := "yteklmleiiiodfaa", sum := "1c90ebacf33eb1bc4729e04b452ecba514dcd8578bbc1bc28b7956ab2623baa3", func := "alibi/alibkeep.SitesStop", spec := "sitesStop", unfollowed := true, recurses := true, apart := false, narrowed := true }
def SitesStopUptoSaid : Prop := sitesStopUptoRow.holds Try.pinned (OpenSpec.upto sitesStopSpec)

/-- 'alibkeep.SitesGrow', WHERE WHAT IT READS IS OF BULK AT MOST 1048576: true; the input reads as it did. -/
def sitesGrowUptoRow : OpenClaim := { program := "yteklmleiiiodfaa", sum := "1c90ebacf33eb1bc4729e04b452ecba514dcd8578bbc1bc28b7956ab2623baa3", func := "alibi/alibkeep.SitesGrow", spec := "sitesGrow", unfollowed := true, recurses := true, apart := false, narrowed := true }
def SitesGrowUptoSaid : Prop := sitesGrowUptoRow.holds Try.pinned (OpenSpec.upto sitesGrowSpec)

/-- 'alibkeep.SitesLive', WHERE WHAT IT READS IS OF BULK AT MOST 1048576: true; the input reads as it did. -/
def sitesLiveUptoRow : OpenClaim := { program := "yteklmleiiiodfaa", sum := "1c90ebacf33eb1bc4729e04b452ecba514dcd8578bbc1bc28b7956ab2623baa3", func := "alibi/alibkeep.SitesLive", spec := "sitesLive", unfollowed := true, recurses := true, apart := false, narrowed := true }
def SitesLiveUptoSaid : Prop := sitesLiveUptoRow.holds Try.pinned (OpenSpec.upto sitesLiveSpec)

/-- 'alibkeep.SitesRight', WHERE WHAT IT READS IS OF BULK AT MOST 1048576: true; the input reads as it did. -/
def sitesRightUptoRow : OpenClaim := { program := "yteklmleiiiodfaa", sum := "1c90ebacf33eb1bc4729e04b452ecba514dcd8578bbc1bc28b7956ab2623baa3", func := "alibi/alibkeep.SitesRight", spec := "sitesRight", unfollowed := true, recurses := true, apart := false, narrowed := true }
def SitesRightUptoSaid : Prop := sitesRightUptoRow.holds Try.pinned (OpenSpec.upto sitesRightSpec)

/-- 'alibkeep.SitesFast', WHERE WHAT IT READS IS OF BULK AT MOST 1048576: true; the input reads as it did. -/
def sitesFastUptoRow : OpenClaim := { program := "yteklmleiiiodfaa", sum := "1c90ebacf33eb1bc4729e04b452ecba514dcd8578bbc1bc28b7956ab2623baa3", func := "alibi/alibkeep.SitesFast", spec := "sitesFast", unfollowed := true, recurses := true, apart := false, narrowed := true }
def SitesFastUptoSaid : Prop := sitesFastUptoRow.holds Try.pinned (OpenSpec.upto sitesFastSpec)

/-- 'alibkeep.StepsAlone', WHERE WHAT IT READS IS OF BULK AT MOST 1048576: true; the input reads as it did. -/
def stepsAloneUptoRow : OpenClaim := { program := "yteklmleiiiodfaa", sum := "1c90ebacf33eb1bc4729e04b452ecba514dcd8578bbc1bc28b7956ab2623baa3", func := "alibi/alibkeep.StepsAlone", spec := "stepsAlone", unfollowed := true, recurses := true, apart := false, narrowed := true }
def StepsAloneUptoSaid : Prop := stepsAloneUptoRow.holds Try.pinned (OpenSpec.upto stepsAloneSpec)

/-- 'alibkeep.StepsAnew', WHERE WHAT IT READS IS OF BULK AT MOST 1048576: true; the input reads as it did. -/
def stepsAnewUptoRow : OpenClaim := { program := "yteklmleiiiodfaa", sum := "1c90ebacf33eb1bc4729e04b452ecba514dcd8578bbc1bc28b7956ab2623baa3", func := "alibi/alibkeep.StepsAnew", spec := "stepsAnew", unfollowed := true, recurses := true, apart := false, narrowed := true }
def StepsAnewUptoSaid : Prop := stepsAnewUptoRow.holds Try.pinned (OpenSpec.upto stepsAnewSpec)

/-- 'alibkeep.StepsRight', WHERE WHAT IT READS IS OF BULK AT MOST 1048576: true; the input reads as it did. -/
def stepsRightUptoRow : OpenClaim := { program := "yteklmleiiiodfaa", sum := "1c90ebacf33eb1bc4729e04b452ecba514dcd8578bbc1bc28b7956ab2623baa3", func := "alibi/alibkeep.StepsRight", spec := "stepsRight", unfollowed := true, recurses := true, apart := false, narrowed := true }
def StepsRightUptoSaid : Prop := stepsRightUptoRow.holds Try.pinned (OpenSpec.upto stepsRightSpec)

/-- 'alibkeep.StepsLost', WHERE WHAT IT READS IS OF BULK AT MOST 1048576: true; the input reads as it did. -/
def stepsLostUptoRow : OpenClaim := { program := "yteklmleiiiodfaa", sum := "1c90ebacf33eb1bc4729e04b452ecba514dcd8578bbc1bc28b7956ab2623baa3", func := "alibi/alibkeep.StepsLost", spec := "stepsLost", unfollowed := true, recurses := true, apart := false, narrowed := true }
def StepsLostUptoSaid : Prop := stepsLostUptoRow.holds Try.pinned (OpenSpec.upto stepsLostSpec)

/-- 'alibkeep.StepsLong', WHERE WHAT IT READS IS OF BULK AT MOST 1048576: true; the input reads as it did. -/
def stepsLongUptoRow : OpenClaim := { program := "yteklmleiiiodfaa", sum := "1c90ebacf33eb1bc4729e04b452ecba514dcd8578bbc1bc28b7956ab2623baa3", func := "alibi/alibkeep.StepsLong", spec := "stepsLong", unfollowed := true, recurses := true, apart := false, narrowed := true }
def StepsLongUptoSaid : Prop := stepsLongUptoRow.holds Try.pinned (OpenSpec.upto stepsLongSpec)

/-- 'alibkeep.ThreadsTurns', WHERE WHAT IT READS IS OF BULK AT MOST 1048576: true; the input reads as it did. -/
def threadsTurnsUptoRow : OpenClaim := { program := "yteklmleiiiodfaa", sum := "1c90ebacf33eb1bc4729e04b452ecba514dcd8578bbc1bc28b7956ab2623baa3", func := "alibi/alibkeep.ThreadsTurns", spec := "threadsTurns", unfollowed := true, recurses := true, apart := false, narrowed := true }
def ThreadsTurnsUptoSaid : Prop := threadsTurnsUptoRow.holds Try.pinned (OpenSpec.upto threadsTurnsSpec)

/-- 'alibkeep.ThreadsAll', WHERE WHAT IT READS IS OF BULK AT MOST 1048576: true; the input reads as it did. -/
def threadsAllUptoRow : OpenClaim := { program := "yteklmleiiiodfaa", sum := "1c90ebacf33eb1bc4729e04b452ecba514dcd8578bbc1bc28b7956ab2623baa3", func := "alibi/alibkeep.ThreadsAll", spec := "threadsAll", unfollowed := true, recurses := true, apart := false, narrowed := true }
def ThreadsAllUptoSaid : Prop := threadsAllUptoRow.holds Try.pinned (OpenSpec.upto threadsAllSpec)

/-- 'alibkeep.ThreadsRight', WHERE WHAT IT READS IS OF BULK AT MOST 1048576: true; the input reads as it did. -/
def threadsRightUptoRow : OpenClaim := { program := "yteklmleiiiodfaa", sum := "1c90ebacf33eb1bc4729e04b452ecba514dcd8578bbc1bc28b7956ab2623baa3", func := "alibi/alibkeep.ThreadsRight", spec := "threadsRight", unfollowed := true, recurses := true, apart := false, narrowed := true }
def ThreadsRightUptoSaid : Prop := threadsRightUptoRow.holds Try.pinned (OpenSpec.upto threadsRightSpec)

/-- 'alibkeep.RegularLevels', WHERE WHAT IT READS IS OF BULK AT MOST 1048576: true; the input reads as it did. -/
def regularLevelsUptoRow : OpenClaim := { program := "yteklmleiiiodfaa", sum := "1c90ebacf33eb1bc4729e04b452ecba514dcd8578bbc1bc28b7956ab2623baa3", func := "alibi/alibkeep.RegularLevels", spec := "regularLevels", unfollowed := true, recurses := true, apart := false, narrowed := true }
def RegularLevelsUptoSaid : Prop := regularLevelsUptoRow.holds Try.pinned (OpenSpec.upto regularLevelsSpec)

/-- 'alibkeep.RegularFast', WHERE WHAT IT READS IS OF BULK AT MOST 1048576: true; the input reads as it did. -/
def regularFastUptoRow : OpenClaim := { program := "yteklmleiiiodfaa", sum := "1c90ebacf33eb1bc4729e04b452ecba514dcd8578bbc1bc28b7956ab2623baa3", func := "alibi/alibkeep.RegularFast", spec := "regularFast", unfollowed := true, recurses := true, apart := false, narrowed := true }
def RegularFastUptoSaid : Prop := regularFastUptoRow.holds Try.pinned (OpenSpec.upto regularFastSpec)

/-- 'alibkeep.RegularTurned', WHERE WHAT IT READS IS OF BULK AT MOST 1048576: true; the input reads as it did. -/
def regularTurnedUptoRow : OpenClaim := { program := "yteklmleiiiodfaa", sum := "1c90ebacf33eb1bc4729e04b452ecba514dcd8578bbc1bc28b7956ab2623baa3", func := "alibi/alibkeep.RegularTurned", spec := "regularTurned", unfollowed := true, recurses := true, apart := false, narrowed := true }
def RegularTurnedUptoSaid : Prop := regularTurnedUptoRow.holds Try.pinned (OpenSpec.upto regularTurnedSpec)

/-- 'alibkeep.RegularAtomic', WHERE WHAT IT READS IS OF BULK AT MOST 1048576: true; the input reads as it did. -/
def regularAtomicUptoRow : OpenClaim := { program := "yteklmleiiiodfaa", sum := "1c90ebacf33eb1bc4729e04b452ecba514dcd8578bbc1bc28b7956ab2623baa3", func := "alibi/alibkeep.RegularAtomic", spec := "regularAtomic", unfollowed := true, recurses := true, apart := false, narrowed := true }
def RegularAtomicUptoSaid : Prop := regularAtomicUptoRow.holds Try.pinned (OpenSpec.upto regularAtomicSpec)

end Rows
end Go.Proofs.Yteklmleiiiodfaa
