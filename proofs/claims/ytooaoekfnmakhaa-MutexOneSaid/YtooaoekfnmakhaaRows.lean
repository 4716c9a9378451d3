/-
  No cell of these rows narrows 'for every input' (looked for: loops, veiled, ifaces, maps, wideKeys, modest, calm, conditions, laid).
  DERIVED. THE GIVEN ROWS OF THIS SEAT. 12 by the template 'for every input the law returns true; each argument reads behind the call as it read before'; 0 by the template 'total and deterministic' (their statements: YtooaoekfnmakhaaTotals.lean).
  GIVEN WITH THE SEED: the statements are not yours to turn. If you find one false, say at which input.
  Laid BY PROGRAM, IN A SANDBOX (cutbox-rows.mjs): the forced cells as the released guide's own fill.sh prints them over the translation 2b8e94e73149406e… (all of the seat's roots in one cut). By AI agents, Wed Nov 11 2026. No macro, syntax, notation, axiom, sorry.
-/
import Derived.Test.YtooaoekfnmakhaaChecked
import GoSem.Claim
import GoSem.ClaimJoined
import GoSem.ClaimMapViews
import Derived.JoinedTies
import Derived.KernelRfl
namespace Go.Proofs.Ytooaoekfnmakhaa
/- THE CELL 'sum', in the pinned program and in every row, IS THE sha256 OF THE DUMP (.gsa) THAT YtooaoekfnmakhaaProg.lean LOADS. Nothing in Lean hashes anything: it is a label: what it is worth is what the hold of that sum in a sandbox is worth. -/
noncomputable def Try.pinned : Pinned := { name := "ytooaoekfnmakhaa", sum := "2b8e94e73149406e84a003a7c869503124542f1737c5e9c81a60af0252dac930", checked := Try.checked }
namespace Rows
def none {H : Type} : Left H := { results := [], args := [] }

/-- 'alibkeep.HistoryFront': WHATEVER THE INPUT: true; the input reads as it did. -/
def historyFrontSpec : ChangeSpec := { name := "historyFront", fn := fun _ => fun
  | [d1, d2, d3] => { results := [.lit (.bool true)], args := [d1, d2, d3] }
  | _ => none }
def historyFrontRow : OpenClaim := { program := "ytooaoekfnmakhaa", sum := "2b8e94e73149406e84a003a7c869503124542f1737c5e9c81a60af0252dac930", func := "alibi/alibkeep.HistoryFront", spec := "historyFront", unfollowed := true, recurses := true, apart := false }
def HistoryFrontSaid : Prop := historyFrontRow.holds Try.pinned (OpenSpec.ofChange historyFrontSpec)

/-- ITS FALSE NEIGHBOUR: 'it returns false'. Refute it at one input. -/
def historyFrontWrong : ChangeSpec := { name := "historyFront", fn := fun _ => fun
  | [d1, d2, d3] => { results := [.lit (.bool false)], args := [d1, d2, d3] }
  | _ => none }
def HistoryFrontWrongFalsely : Prop := historyFrontRow.holds Try.pinned (OpenSpec.ofChange historyFrontWrong)

/-- 'alibkeep.HistoryParts': WHATEVER THE INPUT: true; the input reads as it did. -/
def historyPartsSpec : ChangeSpec := { name := "historyParts", fn := fun _ => fun
  | [d1, d2] => { results := [.lit (.bool true)], args := [d1, d2] }
  | _ => none }
def historyPartsRow : OpenClaim := { program := "ytooaoekfnmakhaa", sum := "2b8e94e73149406e84a003a7c869503124542f1737c5e9c81a60af0252dac930", func := "alibi/alibkeep.HistoryParts", spec := "historyParts", unfollowed := true, recurses := true, apart := false }
def HistoryPartsSaid : Prop := historyPartsRow.holds Try.pinned (OpenSpec.ofChange historyPartsSpec)

/-- ITS FALSE NEIGHBOUR: 'it returns false'. Refute it at one input. -/
def historyPartsWrong : ChangeSpec := { name := "historyParts", fn := fun _ => fun
  | [d1, d2] => { results := [.lit (.bool false)], args := [d1, d2] }
  | _ => none }
def HistoryPartsWrongFalsely : Prop := historyPartsRow.holds Try.pinned (OpenSpec.ofChange historyPartsWrong)

/-- 'alibkeep.HistoryBack': WHATEVER THE INPUT: true; the input reads as it did. -/
def historyBackSpec : ChangeSpec := { name := "historyBack", fn := fun _ => fun
  | [d1, d2, d3] => { results := [.lit (.bool true)], args := [d1, d2, d3] }
  | _ => none }
def historyBackRow : OpenClaim := { program := "ytooaoekfnmakhaa", sum := "2b8e94e73149406e84a003a7c869503124542f1737c5e9c81a60af0252dac930", func := "alibi/alibkeep.HistoryBack", spec := "historyBack", unfollowed := true, recurses := true, apart := false }
def HistoryBackSaid : Prop := historyBackRow.holds Try.pinned (OpenSpec.ofChange historyBackSpec)

/-- ITS FALSE NEIGHBOUR: 'it returns false'. Refute it at one input. -/
def historyBackWrong : ChangeSpec := { name := "historyBack", fn := fun _ => fun
  | [d1, d2, d3] => { results := [.lit (.bool false)], args := [d1, d2, d3] }
  | _ => none }
def HistoryBackWrongFalsely : Prop := historyBackRow.holds Try.pinned (OpenSpec.ofChange historyBackWrong)

/-- 'alibkeep.HistorySpans': WHATEVER THE INPUT: true; the input reads as it did. -/
def historySpansSpec : ChangeSpec := { name := "historySpans", fn := fun _ => fun
  | [d1, d2] => { results := [.lit (.bool true)], args := [d1, d2] }
  | _ => none }
def historySpansRow : OpenClaim := { program := "ytooaoekfnmakhaa", sum := "2b8e94e73149406e84a003a7c869503124542f1737c5e9c81a60af0252dac930", func := "alibi/alibkeep.HistorySpans", spec := "historySpans", unfollowed := true, recurses := true, apart := false }
def HistorySpansSaid : Prop := historySpansRow.holds Try.pinned (OpenSpec.ofChange historySpansSpec)

/-- ITS FALSE NEIGHBOUR: 'it returns false'. Refute it at one input. -/
def historySpansWrong : ChangeSpec := { name := "historySpans", fn := fun _ => fun
  | [d1, d2] => { results := [.lit (.bool false)], args := [d1, d2] }
  | _ => none }
def HistorySpansWrongFalsely : Prop := historySpansRow.holds Try.pinned (OpenSpec.ofChange historySpansWrong)

/-- 'alibkeep.ClocksKnown': WHATEVER THE INPUT: true; the input reads as it did. -/
def clocksKnownSpec : ChangeSpec := { name := "clocksKnown", fn := fun _ => fun
  | [d1, d2, d3] => { results := [.lit (.bool true)], args := [d1, d2, d3] }
  | _ => none }
def clocksKnownRow : OpenClaim := { program := "ytooaoekfnmakhaa", sum := "2b8e94e73149406e84a003a7c869503124542f1737c5e9c81a60af0252dac930", func := "alibi/alibkeep.ClocksKnown", spec := "clocksKnown", apart := false }
def ClocksKnownSaid : Prop := clocksKnownRow.holds Try.pinned (OpenSpec.ofChange clocksKnownSpec)

/-- ITS FALSE NEIGHBOUR: 'it returns false'. Refute it at one input. -/
def clocksKnownWrong : ChangeSpec := { name := "clocksKnown", fn := fun _ => fun
  | [d1, d2, d3] => { results := [.lit (.bool false)], args := [d1, d2, d3] }
  | _ => none }
def ClocksKnownWrongFalsely : Prop := clocksKnownRow.holds Try.pinned (OpenSpec.ofChange clocksKnownWrong)

/-- 'alibkeep.ClocksLattice': WHATEVER THE INPUT: true; the input reads as it did. -/
def clocksLatticeSpec : ChangeSpec := { name := "clocksLattice", fn := fun _ => fun
  | [d1, d2, d3] => { results := [.lit (.bool true)], args := [d1, d2, d3] }
  | _ => none }
def clocksLatticeRow : OpenClaim := { program := "ytooaoekfnmakhaa", sum := "2b8e94e73149406e84a003a7c869503124542f1737c5e9c81a60af0252dac930", func := "alibi/alibkeep.ClocksLattice", spec := "clocksLattice", apart := false }
def ClocksLatticeSaid : Prop := clocksLatticeRow.holds Try.pinned (OpenSpec.ofChange clocksLatticeSpec)

/-- ITS FALSE NEIGHBOUR: 'it returns false'. Refute it at one input. -/
def clocksLatticeWrong : ChangeSpec := { name := "clocksLattice", fn := fun _ => fun
  | [d1, d2, d3] => { results := [.lit (.bool false)], args := [d1, d2, d3] }
  | _ => none }
def ClocksLatticeWrongFalsely : Prop := clocksLatticeRow.holds Try.pinned (OpenSpec.ofChange clocksLatticeWrong)

/-- 'alibkeep.ClocksLamport': WHATEVER THE INPUT: true; the input reads as it did. -/
def clocksLamportSpec : ChangeSpec := { name := "clocksLamport", fn := fun _ => fun
  | [d] => { results := [.lit (.bool true)], args := [d] }
  | _ => none }
def clocksLamportRow : OpenClaim := { program := "ytooaoekfnmakhaa", sum := "2b8e94e73149406e84a003a7c869503124542f1737c5e9c81a60af0252dac930", func := "alibi/alibkeep.ClocksLamport", spec := "clocksLamport", apart := false }
def ClocksLamportSaid : Prop := clocksLamportRow.holds Try.pinned (OpenSpec.ofChange clocksLamportSpec)

/-- ITS FALSE NEIGHBOUR: 'it returns false'. Refute it at one input. -/
def clocksLamportWrong : ChangeSpec := { name := "clocksLamport", fn := fun _ => fun
  | [d] => { results := [.lit (.bool false)], args := [d] }
  | _ => none }
def ClocksLamportWrongFalsely : Prop := clocksLamportRow.holds Try.pinned (OpenSpec.ofChange clocksLamportWrong)

/-- 'alibkeep.ClocksMattern': WHATEVER THE INPUT: true; the input reads as it did. -/
def clocksMatternSpec : ChangeSpec := { name := "clocksMattern", fn := fun _ => fun
  | [d] => { results := [.lit (.bool true)], args := [d] }
  | _ => none }
def clocksMatternRow : OpenClaim := { program := "ytooaoekfnmakhaa", sum := "2b8e94e73149406e84a003a7c869503124542f1737c5e9c81a60af0252dac930", func := "alibi/alibkeep.ClocksMattern", spec := "clocksMattern", apart := false }
def ClocksMatternSaid : Prop := clocksMatternRow.holds Try.pinned (OpenSpec.ofChange clocksMatternSpec)

/-- ITS FALSE NEIGHBOUR: 'it returns false'. Refute it at one input. -/
def clocksMatternWrong : ChangeSpec := { name := "clocksMattern", fn := fun _ => fun
  | [d] => { results := [.lit (.bool false)], args := [d] }
  | _ => none }
def ClocksMatternWrongFalsely : Prop := clocksMatternRow.holds Try.pinned (OpenSpec.ofChange clocksMatternWrong)

/-- 'alibkeep.ClocksOrder': WHATEVER THE INPUT: true; the input reads as it did. -/
def clocksOrderSpec : ChangeSpec := { name := "clocksOrder", fn := fun _ => fun
  | [d] => { results := [.lit (.bool true)], args := [d] }
  | _ => none }
def clocksOrderRow : OpenClaim := { program := "ytooaoekfnmakhaa", sum := "2b8e94e73149406e84a003a7c869503124542f1737c5e9c81a60af0252dac930", func := "alibi/alibkeep.ClocksOrder", spec := "clocksOrder", apart := false }
def ClocksOrderSaid : Prop := clocksOrderRow.holds Try.pinned (OpenSpec.ofChange clocksOrderSpec)

/-- ITS FALSE NEIGHBOUR: 'it returns false'. Refute it at one input. -/
def clocksOrderWrong : ChangeSpec := { name := "clocksOrder", fn := fun _ => fun
  | [d] => { results := [.lit (.bool false)], args := [d] }
  | _ => none }
def ClocksOrderWrongFalsely : Prop := clocksOrderRow.holds Try.pinned (OpenSpec.ofChange clocksOrderWrong)

/-- 'alibkeep.MutexOne': WHATEVER THE INPUT: true; the input reads as it did. -/
def mutexOneSpec : ChangeSpec := { name := "mutexOne", fn := fun _ => fun
  | [d1, d2, d3, d4] => { results := [.lit (.bool true)], args := [d1, d2, d3, d4] }
  | _ => none }
def mutexOneRow : OpenClaim := { program := "ytooaoekfnmakhaa", sum := "2b8e94e73149406e84a003a7c869503124542f1737c5e9c81a60af0252dac930", func := "alibi/alibkeep.MutexOne", spec := "mutexOne", apart := false }
def MutexOneSaid : Prop := mutexOneRow.holds Try.pinned (OpenSpec.ofChange mutexOneSpec)

/-- ITS FALSE NEIGHBOUR: 'it returns false'. Refute it at one input. -/
def mutexOneWrong : ChangeSpec := { name := "mutexOne", fn := fun _ => fun
  | [d1, d2, d3, d4] => { results := [.lit (.bool false)], args := [d1, d2, d3, d4] }
  | _ => none }
def MutexOneWrongFalsely : Prop := mutexOneRow.holds Try.pinned (OpenSpec.ofChange mutexOneWrong)

/-- 'alibkeep.MutexNaive': WHATEVER THE INPUT: true; the input reads as it did. -/
def mutexNaiveSpec : ChangeSpec := { name := "mutexNaive", fn := fun _ => fun
  | [] => { results := [.lit (.bool true)], args := [] }
  | _ => none }
def mutexNaiveRow : OpenClaim := { program := "ytooaoekfnmakhaa", sum := "2b8e94e73149406e84a003a7c869503124542f1737c5e9c81a60af0252dac930", func := "alibi/alibkeep.MutexNaive", spec := "mutexNaive", apart := false }
def MutexNaiveSaid : Prop := mutexNaiveRow.holds Try.pinned (OpenSpec.ofChange mutexNaiveSpec)

/-- ITS FALSE NEIGHBOUR: 'it returns false'. Refute it at one input. -/
def mutexNaiveWrong : ChangeSpec := { name := "mutexNaive", fn := fun _ => fun
  | [] => { results := [.lit (.bool false)], args := [] }
  | _ => none }
def MutexNaiveWrongFalsely : Prop := mutexNaiveRow.holds Try.pinned (OpenSpec.ofChange mutexNaiveWrong)

/-- 'alibkeep.MutexTurn': WHATEVER THE INPUT: true; the input reads as it did. -/
def mutexTurnSpec : ChangeSpec := { name := "mutexTurn", fn := fun _ => fun
  | [d1, d2] => { results := [.lit (.bool true)], args := [d1, d2] }
  | _ => none }
def mutexTurnRow : OpenClaim := { program := "ytooaoekfnmakhaa", sum := "2b8e94e73149406e84a003a7c869503124542f1737c5e9c81a60af0252dac930", func := "alibi/alibkeep.MutexTurn", spec := "mutexTurn", apart := false }
def MutexTurnSaid : Prop := mutexTurnRow.holds Try.pinned (OpenSpec.ofChange mutexTurnSpec)

/-- ITS FALSE NEIGHBOUR: 'it returns false'. Refute it at one input. -/
def mutexTurnWrong : ChangeSpec := { name := "mutexTurn", fn := fun _ => fun
  | [d1, d2] => { results := [.lit (.bool false)], args := [d1, d2] }
  | _ => none }
def MutexTurnWrongFalsely : Prop := mutexTurnRow.holds Try.pinned (OpenSpec.ofChange mutexTurnWrong)

/- THE SECOND FORM. 'bulk': how many values and letters a reading holds, each counted each time it is reached (what is shared counts as often as it is met; a slice's spare places count too). A statement '..UptoSaid' is the law's where the arguments, and the package variables that the reading takes, are together of bulk at most 1048576: NARROWER than '..Said'. Prove '..Said' where nothing that the law and all that it calls make is longer than what came in: it says more and counts as full. Else prove '..UptoSaid'. A law counts once. -/
mutual
def uptoBulk {H : Type} : DataW H → Nat
  | .lit (.string bytes) => bytes.length + 1
  | .lit _ => 1
  | .nil => 1
  | .ptr d => uptoBulk d + 1
  | .slice elems spare => uptoBulkAll elems + uptoBulkAll spare + 1
  | .agg parts => uptoBulkAll parts + 1
  | .iface _ d => uptoBulk d + 1
  | .map entries => uptoBulkEntries entries + 1
  | .held _ => 1
def uptoBulkAll {H : Type} : List (DataW H) → Nat
  | [] => 0
  | d :: r => uptoBulk d + uptoBulkAll r
def uptoBulkEntries {H : Type} : List (Lit × DataW H) → Nat
  | [] => 0
  | x :: r => uptoBulkEntry x + uptoBulkEntries r
def uptoBulkEntry {H : Type} : Lit × DataW H → Nat
  | (.string bytes, d) => bytes.length + uptoBulk d + 1
  | (_, d) => uptoBulk d + 1
 end
def uptoSmall : (H : Type) → List (DataW H) → Bool := fun _ ds => decide (uptoBulkAll ds ≤ 1048576)
def OpenSpec.upto (s : _root_.Go.ChangeSpec) : _root_.Go.OpenSpec := { _root_.Go.OpenSpec.ofChange s with cond := some uptoSmall }

/-- 'alibkeep.HistoryFront', WHERE WHAT IT READS IS OF BULK AT MOST 1048576: true; the input reads as it did. -/
def historyFrontUptoRow : OpenClaim := { program := "ytooaoekfnmakhaa", sum := "2b8e94e73149406e84a003a7c869503124542f1737c5e9c81a60af0252dac930", func := "alibi/alibkeep.HistoryFront", spec := "historyFront", unfollowed := true, recurses := true, apart := false, narrowed := true }
def HistoryFrontUptoSaid : Prop := historyFrontUptoRow.holds Try.pinned (OpenSpec.upto historyFrontSpec)

/-- 'alibkeep.HistoryParts', WHERE WHAT IT READS IS OF BULK AT MOST 1048576: true; the input reads as it did. -/
def historyPartsUptoRow : OpenClaim := { program := "ytooaoekfnmakhaa", sum := "2b8e94e73149406e84a003a7c869503124542f1737c5e9c81a60af0252dac930", func := "alibi/alibkeep.HistoryParts", spec := "historyParts", unfollowed := true, recurses := true, apart := false, narrowed := true }
def HistoryPartsUptoSaid : Prop := historyPartsUptoRow.holds Try.pinned (OpenSpec.upto historyPartsSpec)

/-- 'alibkeep.HistoryBack', WHERE WHAT IT READS IS OF BULK AT MOST 1048576: true; the input reads as it did. -/
def historyBackUptoRow : OpenClaim := { program := "ytooaoekfnmakhaa", sum := "2b8e94e73149406e84a003a7c869503124542f1737c5e9c81a60af0252dac930", func := "alibi/alibkeep.HistoryBack", spec := "historyBack", unfollowed := true, recurses := true, apart := false, narrowed := true }
def HistoryBackUptoSaid : Prop := historyBackUptoRow.holds Try.pinned (OpenSpec.upto historyBackSpec)

/-- 'alibkeep.HistorySpans', WHERE WHAT IT READS IS OF BULK AT MOST 1048576: true; the input reads as it did. -/
def historySpansUptoRow : OpenClaim := { program := "ytooaoekfnmakhaa", sum := "2b8e94e73149406e84a003a7c869503124542f1737c5e9c81a60af0252dac930", func := "alibi/alibkeep.HistorySpans", spec := "historySpans", unfollowed := true, recurses := true, apart := false, narrowed := true }
def HistorySpansUptoSaid : Prop := historySpansUptoRow.holds Try.pinned (OpenSpec.upto historySpansSpec)

/-- 'alibkeep.ClocksKnown', WHERE WHAT IT READS IS OF BULK AT MOST 1048576: true; the input reads as it did. -/
def clocksKnownUptoRow : OpenClaim := { program := "ytooaoekfnmakhaa", sum := "2b8e94e73149406e84a003a7c869503124542f1737c5e9c81a60af0252dac930", func := "alibi/alibkeep.ClocksKnown", spec := "clocksKnown", apart := false, narrowed := true }
def ClocksKnownUptoSaid : Prop := clocksKnownUptoRow.holds Try.pinned (OpenSpec.upto clocksKnownSpec)

/-- 'alibkeep.ClocksLattice', WHERE WHAT IT READS IS OF BULK AT MOST 1048576: true; the input reads as it did. -/
def clocksLatticeUptoRow : OpenClaim := { program := "ytooaoekfnmakhaa", sum := "2b8e94e73149406e84a003a7c869503124542f1737c5e9c81a60af0252dac930", func := "alibi/alibkeep.ClocksLattice", spec := "clocksLattice", apart := false, narrowed := true }
def ClocksLatticeUptoSaid : Prop := clocksLatticeUptoRow.holds Try.pinned (OpenSpec.upto clocksLatticeSpec)

/-- 'alibkeep.ClocksLamport', WHERE WHAT IT READS IS OF BULK AT MOST 1048576: true; the input reads as it did. -/
def clocksLamportUptoRow : OpenClaim := { program := "ytooaoekfnmakhaa", sum := "2b8e94e73149406e84a003a7c869503124542f1737c5e9c81a60af0252dac930", func := "alibi/alibkeep.ClocksLamport", spec := "clocksLamport", apart := false, narrowed := true }
def ClocksLamportUptoSaid : Prop := clocksLamportUptoRow.holds Try.pinned (OpenSpec.upto clocksLamportSpec)

/-- 'alibkeep.ClocksMattern', WHERE WHAT IT READS IS OF BULK AT MOST 1048576: true; the input reads as it did. -/
def clocksMatternUptoRow : OpenClaim := { program := "ytooaoekfnmakhaa", sum := "2b8e94e73149406e84a003a7c869503124542f1737c5e9c81a60af0252dac930", func := "alibi/alibkeep.ClocksMattern", spec := "clocksMattern", apart := false, narrowed := true }
def ClocksMatternUptoSaid : Prop := clocksMatternUptoRow.holds Try.pinned (OpenSpec.upto clocksMatternSpec)

/-- 'alibkeep.ClocksOrder', WHERE WHAT IT READS IS OF BULK AT MOST 1048576: true; the input reads as it did. -/
def clocksOrderUptoRow : OpenClaim := { program := "ytooaoekfnmakhaa", sum := "2b8e94e73149406e84a003a7c869503124542f1737c5e9c81a60af0252dac930", func := "alibi/alibkeep.ClocksOrder", spec := "clocksOrder", apart := false, narrowed := true }
def ClocksOrderUptoSaid : Prop := clocksOrderUptoRow.holds Try.pinned (OpenSpec.upto clocksOrderSpec)

/-- 'alibkeep.MutexOne', WHERE WHAT IT READS IS OF BULK AT MOST 1048576: true; the input reads as it did. -/
def mutexOneUptoRow : OpenClaim := { program := "ytooaoekfnmakhaa", sum := "2b8e94e73149406e84a003a7c869503124542f1737c5e9c81a60af0252dac930", func := "alibi/alibkeep.MutexOne", spec := "mutexOne", apart := false, narrowed := true }
def MutexOneUptoSaid : Prop := mutexOneUptoRow.holds Try.pinned (OpenSpec.upto mutexOneSpec)

/-- 'alibkeep.MutexNaive', WHERE WHAT IT READS IS OF BULK AT MOST 1048576: true; the input reads as it did. -/
def mutexNaiveUptoRow : OpenClaim := { program := "ytooaoekfnmakhaa", sum := "2b8e94e73149406e84a003a7c869503124542f1737c5e9c81a60af0252dac930", func := "alibi/alibkeep.MutexNaive", spec := "mutexNaive", apart := false, narrowed := true }
def MutexNaiveUptoSaid : Prop := mutexNaiveUptoRow.holds Try.pinned (OpenSpec.upto mutexNaiveSpec)

/-- 'alibkeep.MutexTurn', WHERE WHAT IT READS IS OF BULK AT MOST 1048576: true; the input reads as it did. -/
def mutexTurnUptoRow : OpenClaim := { program := "ytooaoekfnmakhaa", sum := "2b8e94e73149406e84a003a7c869503124542f1737c5e9c81a60af0252dac930", func := "alibi/alibkeep.MutexTurn", spec := "mutexTurn", apart := false, narrowed := true }
def MutexTurnUptoSaid : Prop := mutexTurnUptoRow.holds Try.pinned (OpenSpec.upto mutexTurnSpec)

end Rows
end Go.Proofs.Ytooaoekfnmakhaa
