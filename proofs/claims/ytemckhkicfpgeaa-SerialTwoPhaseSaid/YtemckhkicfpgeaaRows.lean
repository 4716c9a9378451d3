/-
  No cell of these rows narrows 'for every input' (looked for: loops, veiled, ifaces, maps, wideKeys, modest, calm, conditions, laid).
  DERIVED. THE GIVEN ROWS OF THIS SEAT. 12 by the template 'for every input the law returns true; each argument reads behind the call as it read before'; 0 by the template 'total and deterministic' (their statements: YtemckhkicfpgeaaTotals.lean).
  GIVEN WITH THE SEED: the statements are not yours to turn. If you find one false, say at which input.
  Laid BY PROGRAM, IN A SANDBOX (cutbox-rows.mjs): the forced cells as the released guide's own fill.sh prints them over the translation 43c1b3a89749be24… (all of the seat's roots in one cut). By AI agents, Wed Nov 11 2026. No macro, syntax, notation, axiom, sorry.
-/
import Derived.Test.YtemckhkicfpgeaaChecked
import GoSem.Claim
import GoSem.ClaimJoined
import GoSem.ClaimMapViews
import Derived.JoinedTies
import Derived.KernelRfl
namespace Go.Proofs.Ytemckhkicfpgeaa
/- THE CELL 'sum', in the pinned program and in every row, IS THE sha256 OF THE DUMP (.gsa) THAT YtemckhkicfpgeaaProg.lean LOADS. Nothing in Lean hashes anything: it is a label: what it is worth is what the hold of that sum in a sandbox is worth. -/
noncomputable def Try.pinned : Pinned := { name := "ytemckhkicfpgeaa", sum := "43c1b3a89749be2496a17e9ee2403ace38c71587d377895ad6cf44697e2a1e55", checked := Try.checked }
namespace Rows
def none {H : Type} : Left H := { results := [], args := [] }

/-- 'alibkeep.OrderClosed': WHATEVER THE INPUT: true; the input reads as it did. -/
def orderClosedSpec : ChangeSpec := { name := "orderClosed", fn := fun _ => fun
  | [d] => { results := [.lit (.bool true)], args := [d] }
  | _ => none }
def orderClosedRow : OpenClaim := { program := "ytemckhkicfpgeaa", sum := "43c1b3a89749be2496a17e9ee2403ace38c71587d377895ad6cf44697e2a1e55", func := "alibi/alibkeep.OrderClosed", spec := "orderClosed", recurses := true, apart := false }
def OrderClosedSaid : Prop := orderClosedRow.holds Try.pinned (OpenSpec.ofChange orderClosedSpec)

/-- ITS FALSE NEIGHBOUR: 'it returns false'. Refute it at one input. -/
def orderClosedWrong : ChangeSpec := { name := "orderClosed", fn := fun _ => fun
  | [d] => { results := [.lit (.bool false)], args := [d] }
  | _ => none }
def OrderClosedWrongFalsely : Prop := orderClosedRow.holds Try.pinned (OpenSpec.ofChange orderClosedWrong)

/-- 'alibkeep.OrderSplits': WHATEVER THE INPUT: true; the input reads as it did. -/
def orderSplitsSpec : ChangeSpec := { name := "orderSplits", fn := fun _ => fun
  | [d1, d2, d3] => { results := [.lit (.bool true)], args := [d1, d2, d3] }
  | _ => none }
def orderSplitsRow : OpenClaim := { program := "ytemckhkicfpgeaa", sum := "43c1b3a89749be2496a17e9ee2403ace38c71587d377895ad6cf44697e2a1e55", func := "alibi/alibkeep.OrderSplits", spec := "orderSplits", recurses := true, apart := false }
def OrderSplitsSaid : Prop := orderSplitsRow.holds Try.pinned (OpenSpec.ofChange orderSplitsSpec)

/-- ITS FALSE NEIGHBOUR: 'it returns false'. Refute it at one input. -/
def orderSplitsWrong : ChangeSpec := { name := "orderSplits", fn := fun _ => fun
  | [d1, d2, d3] => { results := [.lit (.bool false)], args := [d1, d2, d3] }
  | _ => none }
def OrderSplitsWrongFalsely : Prop := orderSplitsRow.holds Try.pinned (OpenSpec.ofChange orderSplitsWrong)

/-- 'alibkeep.OrderDilworth': WHATEVER THE INPUT: true; the input reads as it did. -/
def orderDilworthSpec : ChangeSpec := { name := "orderDilworth", fn := fun _ => fun
  | [d] => { results := [.lit (.bool true)], args := [d] }
  | _ => none }
def orderDilworthRow : OpenClaim := { program := "ytemckhkicfpgeaa", sum := "43c1b3a89749be2496a17e9ee2403ace38c71587d377895ad6cf44697e2a1e55", func := "alibi/alibkeep.OrderDilworth", spec := "orderDilworth", recurses := true, apart := false }
def OrderDilworthSaid : Prop := orderDilworthRow.holds Try.pinned (OpenSpec.ofChange orderDilworthSpec)

/-- ITS FALSE NEIGHBOUR: 'it returns false'. Refute it at one input. -/
def orderDilworthWrong : ChangeSpec := { name := "orderDilworth", fn := fun _ => fun
  | [d] => { results := [.lit (.bool false)], args := [d] }
  | _ => none }
def OrderDilworthWrongFalsely : Prop := orderDilworthRow.holds Try.pinned (OpenSpec.ofChange orderDilworthWrong)

/-- 'alibkeep.OrderProduct': WHATEVER THE INPUT: true; the input reads as it did. -/
def orderProductSpec : ChangeSpec := { name := "orderProduct", fn := fun _ => fun
  | [d] => { results := [.lit (.bool true)], args := [d] }
  | _ => none }
def orderProductRow : OpenClaim := { program := "ytemckhkicfpgeaa", sum := "43c1b3a89749be2496a17e9ee2403ace38c71587d377895ad6cf44697e2a1e55", func := "alibi/alibkeep.OrderProduct", spec := "orderProduct", recurses := true, apart := false }
def OrderProductSaid : Prop := orderProductRow.holds Try.pinned (OpenSpec.ofChange orderProductSpec)

/-- ITS FALSE NEIGHBOUR: 'it returns false'. Refute it at one input. -/
def orderProductWrong : ChangeSpec := { name := "orderProduct", fn := fun _ => fun
  | [d] => { results := [.lit (.bool false)], args := [d] }
  | _ => none }
def OrderProductWrongFalsely : Prop := orderProductRow.holds Try.pinned (OpenSpec.ofChange orderProductWrong)

/-- 'alibkeep.OrderMirsky': WHATEVER THE INPUT: true; the input reads as it did. -/
def orderMirskySpec : ChangeSpec := { name := "orderMirsky", fn := fun _ => fun
  | [d] => { results := [.lit (.bool true)], args := [d] }
  | _ => none }
def orderMirskyRow : OpenClaim := { program := "ytemckhkicfpgeaa", sum := "43c1b3a89749be2496a17e9ee2403ace38c71587d377895ad6cf44697e2a1e55", func := "alibi/alibkeep.OrderMirsky", spec := "orderMirsky", recurses := true, apart := false }
def OrderMirskySaid : Prop := orderMirskyRow.holds Try.pinned (OpenSpec.ofChange orderMirskySpec)

/-- ITS FALSE NEIGHBOUR: 'it returns false'. Refute it at one input. -/
def orderMirskyWrong : ChangeSpec := { name := "orderMirsky", fn := fun _ => fun
  | [d] => { results := [.lit (.bool false)], args := [d] }
  | _ => none }
def OrderMirskyWrongFalsely : Prop := orderMirskyRow.holds Try.pinned (OpenSpec.ofChange orderMirskyWrong)

/-- 'alibkeep.OrderSzpilrajn': WHATEVER THE INPUT: true; the input reads as it did. -/
def orderSzpilrajnSpec : ChangeSpec := { name := "orderSzpilrajn", fn := fun _ => fun
  | [d1, d2, d3] => { results := [.lit (.bool true)], args := [d1, d2, d3] }
  | _ => none }
def orderSzpilrajnRow : OpenClaim := { program := "ytemckhkicfpgeaa", sum := "43c1b3a89749be2496a17e9ee2403ace38c71587d377895ad6cf44697e2a1e55", func := "alibi/alibkeep.OrderSzpilrajn", spec := "orderSzpilrajn", recurses := true, apart := false }
def OrderSzpilrajnSaid : Prop := orderSzpilrajnRow.holds Try.pinned (OpenSpec.ofChange orderSzpilrajnSpec)

/-- ITS FALSE NEIGHBOUR: 'it returns false'. Refute it at one input. -/
def orderSzpilrajnWrong : ChangeSpec := { name := "orderSzpilrajn", fn := fun _ => fun
  | [d1, d2, d3] => { results := [.lit (.bool false)], args := [d1, d2, d3] }
  | _ => none }
def OrderSzpilrajnWrongFalsely : Prop := orderSzpilrajnRow.holds Try.pinned (OpenSpec.ofChange orderSzpilrajnWrong)

/-- 'alibkeep.SpansLong': WHATEVER THE INPUT: true; the input reads as it did. -/
def spansLongSpec : ChangeSpec := { name := "spansLong", fn := fun _ => fun
  | [d1, d2, d3, d4] => { results := [.lit (.bool true)], args := [d1, d2, d3, d4] }
  | _ => none }
def spansLongRow : OpenClaim := { program := "ytemckhkicfpgeaa", sum := "43c1b3a89749be2496a17e9ee2403ace38c71587d377895ad6cf44697e2a1e55", func := "alibi/alibkeep.SpansLong", spec := "spansLong", unfollowed := true, recurses := true, apart := false }
def SpansLongSaid : Prop := spansLongRow.holds Try.pinned (OpenSpec.ofChange spansLongSpec)

/-- ITS FALSE NEIGHBOUR: 'it returns false'. Refute it at one input. -/
def spansLongWrong : ChangeSpec := { name := "spansLong", fn := fun _ => fun
  | [d1, d2, d3, d4] => { results := [.lit (.bool false)], args := [d1, d2, d3, d4] }
  | _ => none }
def SpansLongWrongFalsely : Prop := spansLongRow.holds Try.pinned (OpenSpec.ofChange spansLongWrong)

/-- 'alibkeep.SpansFishburn': WHATEVER THE INPUT: true; the input reads as it did. -/
def spansFishburnSpec : ChangeSpec := { name := "spansFishburn", fn := fun _ => fun
  | [d1, d2] => { results := [.lit (.bool true)], args := [d1, d2] }
  | _ => none }
def spansFishburnRow : OpenClaim := { program := "ytemckhkicfpgeaa", sum := "43c1b3a89749be2496a17e9ee2403ace38c71587d377895ad6cf44697e2a1e55", func := "alibi/alibkeep.SpansFishburn", spec := "spansFishburn", unfollowed := true, recurses := true, apart := false }
def SpansFishburnSaid : Prop := spansFishburnRow.holds Try.pinned (OpenSpec.ofChange spansFishburnSpec)

/-- ITS FALSE NEIGHBOUR: 'it returns false'. Refute it at one input. -/
def spansFishburnWrong : ChangeSpec := { name := "spansFishburn", fn := fun _ => fun
  | [d1, d2] => { results := [.lit (.bool false)], args := [d1, d2] }
  | _ => none }
def SpansFishburnWrongFalsely : Prop := spansFishburnRow.holds Try.pinned (OpenSpec.ofChange spansFishburnWrong)

/-- 'alibkeep.SpansHelly': WHATEVER THE INPUT: true; the input reads as it did. -/
def spansHellySpec : ChangeSpec := { name := "spansHelly", fn := fun _ => fun
  | [d] => { results := [.lit (.bool true)], args := [d] }
  | _ => none }
def spansHellyRow : OpenClaim := { program := "ytemckhkicfpgeaa", sum := "43c1b3a89749be2496a17e9ee2403ace38c71587d377895ad6cf44697e2a1e55", func := "alibi/alibkeep.SpansHelly", spec := "spansHelly", unfollowed := true, recurses := true, apart := false }
def SpansHellySaid : Prop := spansHellyRow.holds Try.pinned (OpenSpec.ofChange spansHellySpec)

/-- ITS FALSE NEIGHBOUR: 'it returns false'. Refute it at one input. -/
def spansHellyWrong : ChangeSpec := { name := "spansHelly", fn := fun _ => fun
  | [d] => { results := [.lit (.bool false)], args := [d] }
  | _ => none }
def SpansHellyWrongFalsely : Prop := spansHellyRow.holds Try.pinned (OpenSpec.ofChange spansHellyWrong)

/-- 'alibkeep.SerialTwoPhase': WHATEVER THE INPUT: true; the input reads as it did. -/
def serialTwoPhaseSpec : ChangeSpec := { name := "serialTwoPhase", fn := fun _ => fun
  | [d] => { results := [.lit (.bool true)], args := [d] }
  | _ => none }
def serialTwoPhaseRow : OpenClaim := { program := "ytemckhkicfpgeaa", sum := "43c1b3a89749be2496a17e9ee2403ace38c71587d377895ad6cf44697e2a1e55", func := "alibi/alibkeep.SerialTwoPhase", spec := "serialTwoPhase", apart := false }
def SerialTwoPhaseSaid : Prop := serialTwoPhaseRow.holds Try.pinned (OpenSpec.ofChange serialTwoPhaseSpec)

/-- ITS FALSE NEIGHBOUR: 'it returns false'. Refute it at one input. -/
def serialTwoPhaseWrong : ChangeSpec := { name := "serialTwoPhase", fn := fun _ => fun
  | [d] => { results := [.lit (.bool false)], args := [d] }
  | _ => none }
def SerialTwoPhaseWrongFalsely : Prop := serialTwoPhaseRow.holds Try.pinned (OpenSpec.ofChange serialTwoPhaseWrong)

/-- 'alibkeep.SerialFront': WHATEVER THE INPUT: true; the input reads as it did. -/
def serialFrontSpec : ChangeSpec := { name := "serialFront", fn := fun _ => fun
  | [d1, d2] => { results := [.lit (.bool true)], args := [d1, d2] }
  | _ => none }
def serialFrontRow : OpenClaim := { program := "ytemckhkicfpgeaa", sum := "43c1b3a89749be2496a17e9ee2403ace38c71587d377895ad6cf44697e2a1e55", func := "alibi/alibkeep.SerialFront", spec := "serialFront", apart := false }
def SerialFrontSaid : Prop := serialFrontRow.holds Try.pinned (OpenSpec.ofChange serialFrontSpec)

/-- ITS FALSE NEIGHBOUR: 'it returns false'. Refute it at one input. -/
def serialFrontWrong : ChangeSpec := { name := "serialFront", fn := fun _ => fun
  | [d1, d2] => { results := [.lit (.bool false)], args := [d1, d2] }
  | _ => none }
def SerialFrontWrongFalsely : Prop := serialFrontRow.holds Try.pinned (OpenSpec.ofChange serialFrontWrong)

/-- 'alibkeep.SerialSwap': WHATEVER THE INPUT: true; the input reads as it did. -/
def serialSwapSpec : ChangeSpec := { name := "serialSwap", fn := fun _ => fun
  | [d1, d2] => { results := [.lit (.bool true)], args := [d1, d2] }
  | _ => none }
def serialSwapRow : OpenClaim := { program := "ytemckhkicfpgeaa", sum := "43c1b3a89749be2496a17e9ee2403ace38c71587d377895ad6cf44697e2a1e55", func := "alibi/alibkeep.SerialSwap", spec := "serialSwap", apart := false }
def SerialSwapSaid : Prop := serialSwapRow.holds Try.pinned (OpenSpec.ofChange serialSwapSpec)

/-- ITS FALSE NEIGHBOUR: 'it returns false'. Refute it at one input. -/
def serialSwapWrong : ChangeSpec := { name := "serialSwap", fn := fun _ => fun
  | [d1, d2] => { results := [.lit (.bool false)], args := [d1, d2] }
  | _ => none }
def SerialSwapWrongFalsely : Prop := serialSwapRow.holds Try.pinned (OpenSpec.ofChange serialSwapWrong)

/- THE SECOND FORM. 'bulk': how many values and letters a reading holds, each counted each time it is reached (what is shared counts as often as it is met; a slice's spare places count too). A statement '..UptoSaid' is the law's where the arguments, and the package variables that the reading takes, are together of bulk at most 1048576: NARROWER than '..Said'. Prove '..Said' where nothing that the law and all that it calls make is longer than what came in: it says more and counts as full. Else prove '..UptoSaid'. A law counts once. -/
mutual
def uptoBulk {H : Type} : DataW H → Nat
  | .lit (.string bytes) => bytes.length + 1
  | .lit _ => 1
  | .nil => 1
  | .ptr d => uptoBulk d + 1
  | .slice elems spare => uptoBulkAll elems + uptoBulkAll spare + 1
  | .agg parts => uptoBulkAll parts + 1
  | .iface _ d => uptoBulk d + 1
  | .map entries => uptoBulkEntries entries + 1
  | .held _ => 1
def uptoBulkAll {H : Type} : List (DataW H) → Nat
  | [] => 0
  | d :: r => uptoBulk d + uptoBulkAll r
def uptoBulkEntries {H : Type} : List (Lit × DataW H) → Nat
  | [] => 0
  | x :: r => uptoBulkEntry x + uptoBulkEntries r
def uptoBulkEntry {H : Type} : Lit × DataW H → Nat
  | (.string bytes, d) => bytes.length + uptoBulk d + 1
  | (_, d) => uptoBulk d + 1
 end
def uptoSmall : (H : Type) → List (DataW H) → Bool := fun _ ds => decide (uptoBulkAll ds ≤ 1048576)
def OpenSpec.upto (s : _root_.Go.ChangeSpec) : _root_.Go.OpenSpec := { _root_.Go.OpenSpec.ofChange s with cond := some uptoSmall }

/-- 'alibkeep.OrderClosed', WHERE WHAT IT READS IS OF BULK AT MOST 1048576: true; the input reads as it did. -/
def orderClosedUptoRow : OpenClaim := { program := "ytemckhkicfpgeaa", sum := "43c1b3a89749be2496a17e9ee2403ace38c71587d377895ad6cf44697e2a1e55", func := "alibi/alibkeep.OrderClosed", spec := "orderClosed", recurses := true, apart := false, narrowed := true }
def OrderClosedUptoSaid : Prop := orderClosedUptoRow.holds Try.pinned (OpenSpec.upto orderClosedSpec)

/-- 'alibkeep.OrderSplits', WHERE WHAT IT READS IS OF BULK AT MOST 1048576: true; the input reads as it did. -/
def orderSplitsUptoRow : OpenClaim := { program := "ytemckhkicfpgeaa", sum := "43c1b3a89749be2496a17e9ee2403ace38c71587d377895ad6cf44697e2a1e55", func := "alibi/alibkeep.OrderSplits", spec := "orderSplits", recurses := true, apart := false, narrowed := true }
def OrderSplitsUptoSaid : Prop := orderSplitsUptoRow.holds Try.pinned (OpenSpec.upto orderSplitsSpec)

/-- 'alibkeep.OrderDilworth', WHERE WHAT IT READS IS OF BULK AT MOST 1048576: true; the input reads as it did. -/
def orderDilworthUptoRow : OpenClaim := { program := "ytemckhkicfpgeaa", sum := "43c1b3a89749be2496a17e9ee2403ace38c71587d377895ad6cf44697e2a1e55", func := "alibi/alibkeep.OrderDilworth", spec := "orderDilworth", recurses := true, apart := false, narrowed := true }
def OrderDilworthUptoSaid : Prop := orderDilworthUptoRow.holds Try.pinned (OpenSpec.upto orderDilworthSpec)

/-- 'alibkeep.OrderProduct', WHERE WHAT IT READS IS OF BULK AT MOST 1048576: true; the input reads as it did. -/
def orderProductUptoRow : OpenClaim := { program := "ytemckhkicfpgeaa", sum := "43c1b3a89749be2496a17e9ee2403ace38c71587d377895ad6cf44697e2a1e55", func := "alibi/alibkeep.OrderProduct", spec := "orderProduct", recurses := true, apart := false, narrowed := true }
def OrderProductUptoSaid : Prop := orderProductUptoRow.holds Try.pinned (OpenSpec.upto orderProductSpec)

/-- 'alibkeep.OrderMirsky', WHERE WHAT IT READS IS OF BULK AT MOST 1048576: true; the input reads as it did. -/
def orderMirskyUptoRow : OpenClaim := { program := "ytemckhkicfpgeaa", sum := "43c1b3a89749be2496a17e9ee2403ace38c71587d377895ad6cf44697e2a1e55", func := "alibi/alibkeep.OrderMirsky", spec := "orderMirsky", recurses := true, apart := false, narrowed := true }
def OrderMirskyUptoSaid : Prop := orderMirskyUptoRow.holds Try.pinned (OpenSpec.upto orderMirskySpec)

/-- 'alibkeep.OrderSzpilrajn', WHERE WHAT IT READS IS OF BULK AT MOST 1048576: true; the input reads as it did. -/
def orderSzpilrajnUptoRow : OpenClaim := { program := "ytemckhkicfpgeaa", sum := "43c1b3a89749be2496a17e9ee2403ace38c71587d377895ad6cf44697e2a1e55", func := "alibi/alibkeep.OrderSzpilrajn", spec := "orderSzpilrajn", recurses := true, apart := false, narrowed := true }
def OrderSzpilrajnUptoSaid : Prop := orderSzpilrajnUptoRow.holds Try.pinned (OpenSpec.upto orderSzpilrajnSpec)

/-- 'alibkeep.SpansLong', WHERE WHAT IT READS IS OF BULK AT MOST 1048576: true; the input reads as it did. -/
def spansLongUptoRow : OpenClaim := { program := "ytemckhkicfpgeaa", sum := "43c1b3a89749be2496a17e9ee2403ace38c71587d377895ad6cf44697e2a1e55", func := "alibi/alibkeep.SpansLong", spec := "spansLong", unfollowed := true, recurses := true, apart := false, narrowed := true }
def SpansLongUptoSaid : Prop := spansLongUptoRow.holds Try.pinned (OpenSpec.upto spansLongSpec)

/-- 'alibkeep.SpansFishburn', WHERE WHAT IT READS IS OF BULK AT MOST 1048576: true; the input reads as it did. -/
def spansFishburnUptoRow : OpenClaim := { program := "ytemckhkicfpgeaa", sum := "43c1b3a89749be2496a17e9ee2403ace38c71587d377895ad6cf44697e2a1e55", func := "alibi/alibkeep.SpansFishburn", spec := "spansFishburn", unfollowed := true, recurses := true, apart := false, narrowed := true }
def SpansFishburnUptoSaid : Prop := spansFishburnUptoRow.holds Try.pinned (OpenSpec.upto spansFishburnSpec)

/-- 'alibkeep.SpansHelly', WHERE WHAT IT READS IS OF BULK AT MOST 1048576: true; the input reads as it did. -/
def spansHellyUptoRow : OpenClaim := { program := "ytemckhkicfpgeaa", sum := "43c1b3a89749be2496a17e9ee2403ace38c71587d377895ad6cf44697e2a1e55", func := "alibi/alibkeep.SpansHelly", spec := "spansHelly", unfollowed := true, recurses := true, apart := false, narrowed := true }
def SpansHellyUptoSaid : Prop := spansHellyUptoRow.holds Try.pinned (OpenSpec.upto spansHellySpec)

/-- 'alibkeep.SerialTwoPhase', WHERE WHAT IT READS IS OF BULK AT MOST 1048576: true; the input reads as it did. -/
def serialTwoPhaseUptoRow : OpenClaim := { program := "ytemckhkicfpgeaa", sum := "43c1b3a89749be2496a17e9ee2403ace38c71587d377895ad6cf44697e2a1e55", func := "alibi/alibkeep.SerialTwoPhase", spec := "serialTwoPhase", apart := false, narrowed := true }
def SerialTwoPhaseUptoSaid : Prop := serialTwoPhaseUptoRow.holds Try.pinned (OpenSpec.upto serialTwoPhaseSpec)

/-- 'alibkeep.SerialFront', WHERE WHAT IT READS IS OF BULK AT MOST 1048576: true; the input reads as it did. -/
def serialFrontUptoRow : OpenClaim := { program := "ytemckhkicfpgeaa", sum := "43c1b3a89749be2496a17e9ee2403ace38c71587d377895ad6cf44697e2a1e55", func := "alibi/alibkeep.SerialFront", spec := "serialFront", apart := false, narrowed := true }
def SerialFrontUptoSaid : Prop := serialFrontUptoRow.holds Try.pinned (OpenSpec.upto serialFrontSpec)

/-- 'alibkeep.SerialSwap', WHERE WHAT IT READS IS OF BULK AT MOST 1048576: true; the input reads as it did. -/
def serialSwapUptoRow : OpenClaim := { program := "ytemckhkicfpgeaa", sum := "43c1b3a89749be2496a17e9ee2403ace38c71587d377895ad6cf44697e2a1e55", func := "alibi/alibkeep.SerialSwap", spec := "serialSwap", apart := false, narrowed := true }
def SerialSwapUptoSaid : Prop := serialSwapUptoRow.holds Try.pinned (OpenSpec.upto serialSwapSpec)

end Rows
end Go.Proofs.Ytemckhkicfpgeaa
