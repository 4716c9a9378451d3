/-
  No cell of these rows narrows 'for every input' (looked for: loops, veiled, ifaces, maps, wideKeys, modest, calm, conditions, laid).
  DERIVED. THE GIVEN ROWS OF THIS SEAT. 14 by the template 'for every input the law returns true; each argument reads behind the call as it read before'; 0 by the template 'total and deterministic' (their statements: YtolneilkgjglkaaTotals.lean).
  GIVEN WITH THE SEED: the statements are not yours to turn. If you find one false, say at which input.
  Laid BY PROGRAM, IN A SANDBOX (cutbox-rows.mjs): the forced cells as the released guide's own fill.sh prints them over the translation 9b1503518aac5d2a… (all of the seat's roots in one cut). By AI agents, Wed Nov 11 2026. No macro, syntax, notation, axiom, sorry.
-/
import Derived.Test.YtolneilkgjglkaaChecked
import GoSem.Claim
import GoSem.ClaimJoined
import GoSem.ClaimMapViews
import Derived.JoinedTies
import Derived.KernelRfl
namespace Go.Proofs.Ytolneilkgjglkaa
/- THE CELL 'sum', in the pinned program and in every row, IS THE sha256 OF THE DUMP (.gsa) THAT YtolneilkgjglkaaProg.lean LOADS. Nothing in Lean hashes anything: it is a label: what it is worth is what the hold of that sum in a sandbox is worth. -/
noncomputable def Try.pinned : Pinned := { name := "ytolneilkgjglkaa", sum := "9b1503518aac5d2a402fb57e9204d920bc53a20e8736d639b642879668afb5e8", checked := Try.checked }
namespace Rows
def none {H : Type} : Left H := { results := [], args := [] }

/-- 'alibkeep.TicketsOnce': WHATEVER THE INPUT: true; the input reads as it did. -/
def ticketsOnceSpec : ChangeSpec := { name := "ticketsOnce", fn := fun _ => fun
  | [d] => { results := [.lit (.bool true)], args := [d] }
  | _ => none }
def ticketsOnceRow : OpenClaim := { program := "ytolneilkgjglkaa", sum := "9b1503518aac5d2a402fb57e9204d920bc53a20e8736d639b642879668afb5e8", func := "alibi/alibkeep.TicketsOnce", spec := "ticketsOnce", unfollowed := true, recurses := true, apart := false }
def TicketsOnceSaid : Prop := ticketsOnceRow.holds Try.pinned (OpenSpec.ofChange ticketsOnceSpec)

/-- ITS FALSE NEIGHBOUR: 'it returns false'. Refute it at one input. -/
def ticketsOnceWrong : ChangeSpec := { name := "ticketsOnce", fn := fun _ => fun
  | [d] => { results := [.lit (.bool false)], args := [d] }
  | _ => none }
def TicketsOnceWrongFalsely : Prop := ticketsOnceRow.holds Try.pinned (OpenSpec.ofChange ticketsOnceWrong)

/-- 'alibkeep.TicketsFront': WHATEVER THE INPUT: true; the input reads as it did. -/
def ticketsFrontSpec : ChangeSpec := { name := "ticketsFront", fn := fun _ => fun
  | [d1, d2, d3] => { results := [.lit (.bool true)], args := [d1, d2, d3] }
  | _ => none }
def ticketsFrontRow : OpenClaim := { program := "ytolneilkgjglkaa", sum := "9b1503518aac5d2a402fb57e9204d920bc53a20e8736d639b642879668afb5e8", func := "alibi/alibkeep.TicketsFront", spec := "ticketsFront", unfollowed := true, recurses := true, apart := false }
def TicketsFrontSaid : Prop := ticketsFrontRow.holds Try.pinned (OpenSpec.ofChange ticketsFrontSpec)

/-- ITS FALSE NEIGHBOUR: 'it returns false'. Refute it at one input. -/
def ticketsFrontWrong : ChangeSpec := { name := "ticketsFront", fn := fun _ => fun
  | [d1, d2, d3] => { results := [.lit (.bool false)], args := [d1, d2, d3] }
  | _ => none }
def TicketsFrontWrongFalsely : Prop := ticketsFrontRow.holds Try.pinned (OpenSpec.ofChange ticketsFrontWrong)

/-- 'alibkeep.RowsFront': WHATEVER THE INPUT: true; the input reads as it did. -/
def rowsFrontSpec : ChangeSpec := { name := "rowsFront", fn := fun _ => fun
  | [d1, d2] => { results := [.lit (.bool true)], args := [d1, d2] }
  | _ => none }
def rowsFrontRow : OpenClaim := { program := "ytolneilkgjglkaa", sum := "9b1503518aac5d2a402fb57e9204d920bc53a20e8736d639b642879668afb5e8", func := "alibi/alibkeep.RowsFront", spec := "rowsFront", unfollowed := true, recurses := true, apart := false }
def RowsFrontSaid : Prop := rowsFrontRow.holds Try.pinned (OpenSpec.ofChange rowsFrontSpec)

/-- ITS FALSE NEIGHBOUR: 'it returns false'. Refute it at one input. -/
def rowsFrontWrong : ChangeSpec := { name := "rowsFront", fn := fun _ => fun
  | [d1, d2] => { results := [.lit (.bool false)], args := [d1, d2] }
  | _ => none }
def RowsFrontWrongFalsely : Prop := rowsFrontRow.holds Try.pinned (OpenSpec.ofChange rowsFrontWrong)

/-- 'alibkeep.ZonesShown': WHATEVER THE INPUT: true; the input reads as it did. -/
def zonesShownSpec : ChangeSpec := { name := "zonesShown", fn := fun _ => fun
  | [d] => { results := [.lit (.bool true)], args := [d] }
  | _ => none }
def zonesShownRow : OpenClaim := { program := "ytolneilkgjglkaa", sum := "9b1503518aac5d2a402fb57e9204d920bc53a20e8736d639b642879668afb5e8", func := "alibi/alibkeep.ZonesShown", spec := "zonesShown", unfollowed := true, recurses := true, apart := false }
def ZonesShownSaid : Prop := zonesShownRow.holds Try.pinned (OpenSpec.ofChange zonesShownSpec)

/-- ITS FALSE NEIGHBOUR: 'it returns false'. Refute it at one input. -/
def zonesShownWrong : ChangeSpec := { name := "zonesShown", fn := fun _ => fun
  | [d] => { results := [.lit (.bool false)], args := [d] }
  | _ => none }
def ZonesShownWrongFalsely : Prop := zonesShownRow.holds Try.pinned (OpenSpec.ofChange zonesShownWrong)

/-- 'alibkeep.ZonesFront': WHATEVER THE INPUT: true; the input reads as it did. -/
def zonesFrontSpec : ChangeSpec := { name := "zonesFront", fn := fun _ => fun
  | [d1, d2] => { results := [.lit (.bool true)], args := [d1, d2] }
  | _ => none }
def zonesFrontRow : OpenClaim := { program := "ytolneilkgjglkaa", sum := "9b1503518aac5d2a402fb57e9204d920bc53a20e8736d639b642879668afb5e8", func := "alibi/alibkeep.ZonesFront", spec := "zonesFront", unfollowed := true, recurses := true, apart := false }
def ZonesFrontSaid : Prop := zonesFrontRow.holds Try.pinned (OpenSpec.ofChange zonesFrontSpec)

/-- ITS FALSE NEIGHBOUR: 'it returns false'. Refute it at one input. -/
def zonesFrontWrong : ChangeSpec := { name := "zonesFront", fn := fun _ => fun
  | [d1, d2] => { results := [.lit (.bool false)], args := [d1, d2] }
  | _ => none }
def ZonesFrontWrongFalsely : Prop := zonesFrontRow.holds Try.pinned (OpenSpec.ofChange zonesFrontWrong)

/-- 'alibkeep.RowsOnly': WHATEVER THE INPUT: true; the input reads as it did. -/
def rowsOnlySpec : ChangeSpec := { name := "rowsOnly", fn := fun _ => fun
  | [d1, d2] => { results := [.lit (.bool true)], args := [d1, d2] }
  | _ => none }
def rowsOnlyRow : OpenClaim := { program := "ytolneilkgjglkaa", sum := "9b1503518aac5d2a402fb57e9204d920bc53a20e8736d639b642879668afb5e8", func := "alibi/alibkeep.RowsOnly", spec := "rowsOnly", unfollowed := true, recurses := true, apart := false }
def RowsOnlySaid : Prop := rowsOnlyRow.holds Try.pinned (OpenSpec.ofChange rowsOnlySpec)

/-- ITS FALSE NEIGHBOUR: 'it returns false'. Refute it at one input. -/
def rowsOnlyWrong : ChangeSpec := { name := "rowsOnly", fn := fun _ => fun
  | [d1, d2] => { results := [.lit (.bool false)], args := [d1, d2] }
  | _ => none }
def RowsOnlyWrongFalsely : Prop := rowsOnlyRow.holds Try.pinned (OpenSpec.ofChange rowsOnlyWrong)

/-- 'alibkeep.RowsPairs': WHATEVER THE INPUT: true; the input reads as it did. -/
def rowsPairsSpec : ChangeSpec := { name := "rowsPairs", fn := fun _ => fun
  | [d] => { results := [.lit (.bool true)], args := [d] }
  | _ => none }
def rowsPairsRow : OpenClaim := { program := "ytolneilkgjglkaa", sum := "9b1503518aac5d2a402fb57e9204d920bc53a20e8736d639b642879668afb5e8", func := "alibi/alibkeep.RowsPairs", spec := "rowsPairs", unfollowed := true, recurses := true, apart := false }
def RowsPairsSaid : Prop := rowsPairsRow.holds Try.pinned (OpenSpec.ofChange rowsPairsSpec)

/-- ITS FALSE NEIGHBOUR: 'it returns false'. Refute it at one input. -/
def rowsPairsWrong : ChangeSpec := { name := "rowsPairs", fn := fun _ => fun
  | [d] => { results := [.lit (.bool false)], args := [d] }
  | _ => none }
def RowsPairsWrongFalsely : Prop := rowsPairsRow.holds Try.pinned (OpenSpec.ofChange rowsPairsWrong)

/-- 'alibkeep.ZonesNames': WHATEVER THE INPUT: true; the input reads as it did. -/
def zonesNamesSpec : ChangeSpec := { name := "zonesNames", fn := fun _ => fun
  | [d1, d2] => { results := [.lit (.bool true)], args := [d1, d2] }
  | _ => none }
def zonesNamesRow : OpenClaim := { program := "ytolneilkgjglkaa", sum := "9b1503518aac5d2a402fb57e9204d920bc53a20e8736d639b642879668afb5e8", func := "alibi/alibkeep.ZonesNames", spec := "zonesNames", unfollowed := true, recurses := true, apart := false }
def ZonesNamesSaid : Prop := zonesNamesRow.holds Try.pinned (OpenSpec.ofChange zonesNamesSpec)

/-- ITS FALSE NEIGHBOUR: 'it returns false'. Refute it at one input. -/
def zonesNamesWrong : ChangeSpec := { name := "zonesNames", fn := fun _ => fun
  | [d1, d2] => { results := [.lit (.bool false)], args := [d1, d2] }
  | _ => none }
def ZonesNamesWrongFalsely : Prop := zonesNamesRow.holds Try.pinned (OpenSpec.ofChange zonesNamesWrong)

/-- 'alibkeep.BagsSearch': WHATEVER THE INPUT: true; the input reads as it did. -/
def bagsSearchSpec : ChangeSpec := { name := "bagsSearch", fn := fun _ => fun
  | [d] => { results := [.lit (.bool true)], args := [d] }
  | _ => none }
def bagsSearchRow : OpenClaim := { program := "ytolneilkgjglkaa", sum := "9b1503518aac5d2a402fb57e9204d920bc53a20e8736d639b642879668afb5e8", func := "alibi/alibkeep.BagsSearch", spec := "bagsSearch", unfollowed := true, recurses := true, apart := false }
def BagsSearchSaid : Prop := bagsSearchRow.holds Try.pinned (OpenSpec.ofChange bagsSearchSpec)

/-- ITS FALSE NEIGHBOUR: 'it returns false'. Refute it at one input. -/
def bagsSearchWrong : ChangeSpec := { name := "bagsSearch", fn := fun _ => fun
  | [d] => { results := [.lit (.bool false)], args := [d] }
  | _ => none }
def BagsSearchWrongFalsely : Prop := bagsSearchRow.holds Try.pinned (OpenSpec.ofChange bagsSearchWrong)

/-- 'alibkeep.BagsNames': WHATEVER THE INPUT: true; the input reads as it did. -/
def bagsNamesSpec : ChangeSpec := { name := "bagsNames", fn := fun _ => fun
  | [d1, d2] => { results := [.lit (.bool true)], args := [d1, d2] }
  | _ => none }
def bagsNamesRow : OpenClaim := { program := "ytolneilkgjglkaa", sum := "9b1503518aac5d2a402fb57e9204d920bc53a20e8736d639b642879668afb5e8", func := "alibi/alibkeep.BagsNames", spec := "bagsNames", unfollowed := true, recurses := true, apart := false }
def BagsNamesSaid : Prop := bagsNamesRow.holds Try.pinned (OpenSpec.ofChange bagsNamesSpec)

/-- ITS FALSE NEIGHBOUR: 'it returns false'. Refute it at one input. -/
def bagsNamesWrong : ChangeSpec := { name := "bagsNames", fn := fun _ => fun
  | [d1, d2] => { results := [.lit (.bool false)], args := [d1, d2] }
  | _ => none }
def BagsNamesWrongFalsely : Prop := bagsNamesRow.holds Try.pinned (OpenSpec.ofChange bagsNamesWrong)

/-- 'alibkeep.BagsOwn': WHATEVER THE INPUT: true; the input reads as it did. -/
def bagsOwnSpec : ChangeSpec := { name := "bagsOwn", fn := fun _ => fun
  | [d1, d2] => { results := [.lit (.bool true)], args := [d1, d2] }
  | _ => none }
def bagsOwnRow : OpenClaim := { program := "ytolneilkgjglkaa", sum := "9b1503518aac5d2a402fb57e9204d920bc53a20e8736d639b642879668afb5e8", func := "alibi/alibkeep.BagsOwn", spec := "bagsOwn", unfollowed := true, recurses := true, apart := false }
def BagsOwnSaid : Prop := bagsOwnRow.holds Try.pinned (OpenSpec.ofChange bagsOwnSpec)

/-- ITS FALSE NEIGHBOUR: 'it returns false'. Refute it at one input. -/
def bagsOwnWrong : ChangeSpec := { name := "bagsOwn", fn := fun _ => fun
  | [d1, d2] => { results := [.lit (.bool false)], args := [d1, d2] }
  | _ => none }
def BagsOwnWrongFalsely : Prop := bagsOwnRow.holds Try.pinned (OpenSpec.ofChange bagsOwnWrong)

/-- 'alibkeep.RowsSearch': WHATEVER THE INPUT: true; the input reads as it did. -/
def rowsSearchSpec : ChangeSpec := { name := "rowsSearch", fn := fun _ => fun
  | [d] => { results := [.lit (.bool true)], args := [d] }
  | _ => none }
def rowsSearchRow : OpenClaim := { program := "ytolneilkgjglkaa", sum := "9b1503518aac5d2a402fb57e9204d920bc53a20e8736d639b642879668afb5e8", func := "alibi/alibkeep.RowsSearch", spec := "rowsSearch", unfollowed := true, recurses := true, apart := false }
def RowsSearchSaid : Prop := rowsSearchRow.holds Try.pinned (OpenSpec.ofChange rowsSearchSpec)

/-- ITS FALSE NEIGHBOUR: 'it returns false'. Refute it at one input. -/
def rowsSearchWrong : ChangeSpec := { name := "rowsSearch", fn := fun _ => fun
  | [d] => { results := [.lit (.bool false)], args := [d] }
  | _ => none }
def RowsSearchWrongFalsely : Prop := rowsSearchRow.holds Try.pinned (OpenSpec.ofChange rowsSearchWrong)

/-- 'alibkeep.ZonesSearch': WHATEVER THE INPUT: true; the input reads as it did. -/
def zonesSearchSpec : ChangeSpec := { name := "zonesSearch", fn := fun _ => fun
  | [d] => { results := [.lit (.bool true)], args := [d] }
  | _ => none }
def zonesSearchRow : OpenClaim := { program := "ytolneilkgjglkaa", sum := "9b1503518aac5d2a402fb57e9204d920bc53a20e8736d639b642879668afb5e8", func := "alibi/alibkeep.ZonesSearch", spec := "zonesSearch", unfollowed := true, recurses := true, apart := false }
def ZonesSearchSaid : Prop := zonesSearchRow.holds Try.pinned (OpenSpec.ofChange zonesSearchSpec)

/-- ITS FALSE NEIGHBOUR: 'it returns false'. Refute it at one input. -/
def zonesSearchWrong : ChangeSpec := { name := "zonesSearch", fn := fun _ => fun
  | [d] => { results := [.lit (.bool false)], args := [d] }
  | _ => none }
def ZonesSearchWrongFalsely : Prop := zonesSearchRow.holds Try.pinned (OpenSpec.ofChange zonesSearchWrong)

/-- 'alibkeep.TicketsSearch': WHATEVER THE INPUT: true; the input reads as it did. -/
def ticketsSearchSpec : ChangeSpec := { name := "ticketsSearch", fn := fun _ => fun
  | [d] => { results := [.lit (.bool true)], args := [d] }
  | _ => none }
def ticketsSearchRow : OpenClaim := { program := "ytolneilkgjglkaa", sum := "9b1503518aac5d2a402fb57e9204d920bc53a20e8736d639b642879668afb5e8", func := "alibi/alibkeep.TicketsSearch", spec := "ticketsSearch", unfollowed := true, recurses := true, apart := false }
def TicketsSearchSaid : Prop := ticketsSearchRow.holds Try.pinned (OpenSpec.ofChange ticketsSearchSpec)

/-- ITS FALSE NEIGHBOUR: 'it returns false'. Refute it at one input. -/
def ticketsSearchWrong : ChangeSpec := { name := "ticketsSearch", fn := fun _ => fun
  | [d] => { results := [.lit (.bool false)], args := [d] }
  | _ => none }
def TicketsSearchWrongFalsely : Prop := ticketsSearchRow.holds Try.pinned (OpenSpec.ofChange ticketsSearchWrong)

/- THE SECOND FORM. 'bulk': how many values and letters a reading holds, each counted each time it is reached (what is shared counts as often as it is met; a slice's spare places count too). A statement '..UptoSaid' is the law's where the arguments, and the package variables that the reading takes, are together of bulk at most 1048576: NARROWER than '..Said'. Prove '..Said' where nothing that the law and all that it calls make is longer than what came in: it says more and counts as full. Else prove '..UptoSaid'. A law counts once. -/
mutual
def uptoBulk {H : Type} : DataW H → Nat
  | .lit (.string bytes) => bytes.length + 1
  | .lit _ => 1
  | .nil => 1
  | .ptr d => uptoBulk d + 1
  | .slice elems spare => uptoBulkAll elems + uptoBulkAll spare + 1
  | .agg parts => uptoBulkAll parts + 1
  | .iface _ d => uptoBulk d + 1
  | .map entries => uptoBulkEntries entries + 1
  | .held _ => 1
def uptoBulkAll {H : Type} : List (DataW H) → Nat
  | [] => 0
  | d :: r => uptoBulk d + uptoBulkAll r
def uptoBulkEntries {H : Type} : List (Lit × DataW H) → Nat
  | [] => 0
  | x :: r => uptoBulkEntry x + uptoBulkEntries r
def uptoBulkEntry {H : Type} : Lit × DataW H → Nat
  | (.string bytes, d) => bytes.length + uptoBulk d + 1
  | (_, d) => uptoBulk d + 1
 end
def uptoSmall : (H : Type) → List (DataW H) → Bool := fun _ ds => decide (uptoBulkAll ds ≤ 1048576)
def OpenSpec.upto (s : _root_.Go.ChangeSpec) : _root_.Go.OpenSpec := { _root_.Go.OpenSpec.ofChange s with cond := some uptoSmall }

/-- 'alibkeep.TicketsOnce', WHERE WHAT IT READS IS OF BULK AT MOST 1048576: true; the input reads as it did. -/
def ticketsOnceUptoRow : OpenClaim := { program := "ytolneilkgjglkaa", sum := "9b1503518aac5d2a402fb57e9204d920bc53a20e8736d639b642879668afb5e8", func := "alibi/alibkeep.TicketsOnce", spec := "ticketsOnce", unfollowed := true, recurses := true, apart := false, narrowed := true }
def TicketsOnceUptoSaid : Prop := ticketsOnceUptoRow.holds Try.pinned (OpenSpec.upto ticketsOnceSpec)

/-- 'alibkeep.TicketsFront', WHERE WHAT IT READS IS OF BULK AT MOST 1048576: true; the input reads as it did. -/
def ticketsFrontUptoRow : OpenClaim := { program := "ytolneilkgjglkaa", sum := "9b1503518aac5d2a402fb57e9204d920bc53a20e8736d639b642879668afb5e8", func := "alibi/alibkeep.TicketsFront", spec := "ticketsFront", unfollowed := true, recurses := true, apart := false, narrowed := true }
def TicketsFrontUptoSaid : Prop := ticketsFrontUptoRow.holds Try.pinned (OpenSpec.upto ticketsFrontSpec)

/-- 'alibkeep.RowsFront', WHERE WHAT IT READS IS OF BULK AT MOST 1048576: true; the input reads as it did. -/
def rowsFrontUptoRow : OpenClaim := { program := "ytolneilkgjglkaa", sum := "9b1503518aac5d2a402fb57e9204d920bc53a20e8736d639b642879668afb5e8", func := "alibi/alibkeep.RowsFront", spec := "rowsFront", unfollowed := true, recurses := true, apart := false, narrowed := true }
def RowsFrontUptoSaid : Prop := rowsFrontUptoRow.holds Try.pinned (OpenSpec.upto rowsFrontSpec)

/-- 'alibkeep.ZonesShown', WHERE WHAT IT READS IS OF BULK AT MOST 1048576: true; the input reads as it did. -/
def zonesShownUptoRow : OpenClaim := { program := "ytolneilkgjglkaa", sum := "9b1503518aac5d2a402fb57e9204d920bc53a20e8736d639b642879668afb5e8", func := "alibi/alibkeep.ZonesShown", spec := "zonesShown", unfollowed := true, recurses := true, apart := false, narrowed := true }
def ZonesShownUptoSaid : Prop := zonesShownUptoRow.holds Try.pinned (OpenSpec.upto zonesShownSpec)

/-- 'alibkeep.ZonesFront', WHERE WHAT IT READS IS OF BULK AT MOST 1048576: true; the input reads as it did. -/
def zonesFrontUptoRow : OpenClaim := { program := "ytolneilkgjglkaa", sum := "9b1503518aac5d2a402fb57e9204d920bc53a20e8736d639b642879668afb5e8", func := "alibi/alibkeep.ZonesFront", spec := "zonesFront", unfollowed := true, recurses := true, apart := false, narrowed := true }
def ZonesFrontUptoSaid : Prop := zonesFrontUptoRow.holds Try.pinned (OpenSpec.upto zonesFrontSpec)

/-- 'alibkeep.RowsOnly', WHERE WHAT IT READS IS OF BULK AT MOST 1048576: true; the input reads as it did. -/
def rowsOnlyUptoRow : OpenClaim := { program := "ytolneilkgjglkaa", sum := "9b1503518aac5d2a402fb57e9204d920bc53a20e8736d639b642879668afb5e8", func := "alibi/alibkeep.RowsOnly", spec := "rowsOnly", unfollowed := true, recurses := true, apart := false, narrowed := true }
def RowsOnlyUptoSaid : Prop := rowsOnlyUptoRow.holds Try.pinned (OpenSpec.upto rowsOnlySpec)

/-- 'alibkeep.RowsPairs', WHERE WHAT IT READS IS OF BULK AT MOST 1048576: true; the input reads as it did. -/
def rowsPairsUptoRow : OpenClaim := { program := "ytolneilkgjglkaa", sum := "9b1503518aac5d2a402fb57e9204d920bc53a20e8736d639b642879668afb5e8", func := "alibi/alibkeep.RowsPairs", spec := "rowsPairs", unfollowed := true, recurses := true, apart := false, narrowed := true }
def RowsPairsUptoSaid : Prop := rowsPairsUptoRow.holds Try.pinned (OpenSpec.upto rowsPairsSpec)

/-- 'alibkeep.ZonesNames', WHERE WHAT IT READS IS OF BULK AT MOST 1048576: true; the input reads as it did. -/
def zonesNamesUptoRow : OpenClaim := { program := "ytolneilkgjglkaa", sum := "9b1503518aac5d2a402fb57e9204d920bc53a20e8736d639b642879668afb5e8", func := "alibi/alibkeep.ZonesNames", spec := "zonesNames", unfollowed := true, recurses := true, apart := false, narrowed := true }
def ZonesNamesUptoSaid : Prop := zonesNamesUptoRow.holds Try.pinned (OpenSpec.upto zonesNamesSpec)

/-- 'alibkeep.BagsSearch', WHERE WHAT IT READS IS OF BULK AT MOST 1048576: true; the input reads as it did. -/
def bagsSearchUptoRow : OpenClaim := { program := "ytolneilkgjglkaa", sum := "9b1503518aac5d2a402fb57e9204d920bc53a20e8736d639b642879668afb5e8", func := "alibi/alibkeep.BagsSearch", spec := "bagsSearch", unfollowed := true, recurses := true, apart := false, narrowed := true }
def BagsSearchUptoSaid : Prop := bagsSearchUptoRow.holds Try.pinned (OpenSpec.upto bagsSearchSpec)

/-- 'alibkeep.BagsNames', WHERE WHAT IT READS IS OF BULK AT MOST 1048576: true; the input reads as it did. -/
def bagsNamesUptoRow : OpenClaim := { program := "ytolneilkgjglkaa", sum := "9b1503518aac5d2a402fb57e9204d920bc53a20e8736d639b642879668afb5e8", func := "alibi/alibkeep.BagsNames", spec := "bagsNames", unfollowed := true, recurses := true, apart := false, narrowed := true }
def BagsNamesUptoSaid : Prop := bagsNamesUptoRow.holds Try.pinned (OpenSpec.upto bagsNamesSpec)

/-- 'alibkeep.BagsOwn', WHERE WHAT IT READS IS OF BULK AT MOST 1048576: true; the input reads as it did. -/
def bagsOwnUptoRow : OpenClaim := { program := "ytolneilkgjglkaa", sum := "9b1503518aac5d2a402fb57e9204d920bc53a20e8736d639b642879668afb5e8", func := "alibi/alibkeep.BagsOwn", spec := "bagsOwn", unfollowed := true, recurses := true, apart := false, narrowed := true }
def BagsOwnUptoSaid : Prop := bagsOwnUptoRow.holds Try.pinned (OpenSpec.upto bagsOwnSpec)

/-- 'alibkeep.RowsSearch', WHERE WHAT IT READS IS OF BULK AT MOST 1048576: true; the input reads as it did. -/
def rowsSearchUptoRow : OpenClaim := { program := "ytolneilkgjglkaa", sum := "9b1503518aac5d2a402fb57e9204d920bc53a20e8736d639b642879668afb5e8", func := "alibi/alibkeep.RowsSearch", spec := "rowsSearch", unfollowed := true, recurses := true, apart := false, narrowed := true }
def RowsSearchUptoSaid : Prop := rowsSearchUptoRow.holds Try.pinned (OpenSpec.upto rowsSearchSpec)

/-- 'alibkeep.ZonesSearch', WHERE WHAT IT READS IS OF BULK AT MOST 1048576: true; the input reads as it did. -/
def zonesSearchUptoRow : OpenClaim := { program := "ytolneilkgjglkaa", sum := "9b1503518aac5d2a402fb57e9204d920bc53a20e8736d639b642879668afb5e8", func := "alibi/alibkeep.ZonesSearch", spec := "zonesSearch", unfollowed := true, recurses := true, apart := false, narrowed := true }
def ZonesSearchUptoSaid : Prop := zonesSearchUptoRow.holds Try.pinned (OpenSpec.upto zonesSearchSpec)

/-- 'alibkeep.TicketsSearch', WHERE WHAT IT READS IS OF BULK AT MOST 1048576: true; the input reads as it did. -/
def ticketsSearchUptoRow : OpenClaim := { program := "ytolneilkgjglkaa", sum := "9b1503518aac5d2a402fb57e9204d920bc53a20e8736d639b642879668afb5e8", func := "alibi/alibkeep.TicketsSearch", spec := "ticketsSearch", unfollowed := true, recurses := true, apart := false, narrowed := true }
def TicketsSearchUptoSaid : Prop := ticketsSearchUptoRow.holds Try.pinned (OpenSpec.upto ticketsSearchSpec)

end Rows
end Go.Proofs.Ytolneilkgjglkaa
