/-
  DERIVED. GIVEN WITH THE SEED: THE CARDS: each row of YtjdkkabcenohcaaDoorRows.lean that lists a variable, with what it lists TIED to the program's text (the seventh form; the later family's looks); each row that meets fmt, with fmt's text TOLD by the authors' own Lean function (tested against real Go, not proved from fmt's source: count such statements apart). THE CARD IS WHAT COUNTS. Prove the row's statement (the work); the ties are given (YtjdkkabcenohcaaDoorTie.lean); close each card by the builder's one call (the guide's Derived/Test/ToyasCard.lean, 'card_holds'). Laid BY PROGRAM, IN A SANDBOX (cutbox-door.mjs). By AI agents, Wed Nov 11 2026. No macro, syntax, notation, axiom, sorry.
-/
import Derived.Test.YtjdkkabcenohcaaDoorRows
import GoSem.ClaimSeven
namespace Go.Proofs.YtjdkkabcenohcaaDoor
namespace Rows

/-- THE TIED CARD OF 'alibkeep.TextBack'. -/
def textBackCard : Claim7 := { stood := { row := textBackRow, standIns := [], harness := (true, "3e70cfc45ca1374a551bd00cb06621e11f8c09702b1fa7f85c206061da6cf500"), looks := true }, kinds := [], alts := [], laidByText := true, laidKinds := [.data, .data, .data, .data, .sentinel, .sentinel, .pinned], laidTests := true, laidLooks := .later }
def TextBackCardSaid : Prop := Claim7.holds Tryd.pinned (.plain (OpenSpec.ofChange textBackSpec)) textBackCard

/-- THE TIED CARD OF 'alibkeep.TextLines'. -/
def textLinesCard : Claim7 := { stood := { row := textLinesRow, standIns := [], harness := (true, "3e70cfc45ca1374a551bd00cb06621e11f8c09702b1fa7f85c206061da6cf500"), looks := true }, kinds := [], alts := [], laidByText := true, laidKinds := [.data, .data, .data, .data, .sentinel, .sentinel, .pinned], laidTests := true, laidLooks := .later }
def TextLinesCardSaid : Prop := Claim7.holds Tryd.pinned (.plain (OpenSpec.ofChange textLinesSpec)) textLinesCard

/-- THE TIED CARD OF 'alibkeep.TextFront'. -/
def textFrontCard : Claim7 := { stood := { row := textFrontRow, standIns := [], harness := (true, "3e70cfc45ca1374a551bd00cb06621e11f8c09702b1fa7f85c206061da6cf500"), looks := true }, kinds := [], alts := [], laidByText := true, laidKinds := [.data, .data, .data, .data, .sentinel, .sentinel, .pinned], laidTests := true, laidLooks := .later }
def TextFrontCardSaid : Prop := Claim7.holds Tryd.pinned (.plain (OpenSpec.ofChange textFrontSpec)) textFrontCard

/-- THE SECOND FORM's CARD OF 'alibkeep.TextBack'. -/
def textBackUptoCard : Claim7 := { stood := { row := textBackUptoRow, standIns := [], harness := (true, "3e70cfc45ca1374a551bd00cb06621e11f8c09702b1fa7f85c206061da6cf500"), looks := true }, kinds := [], alts := [], laidByText := true, laidKinds := [.data, .data, .data, .data, .sentinel, .sentinel, .pinned], laidTests := true, laidLooks := .later }
def TextBackUptoCardSaid : Prop := Claim7.holds Tryd.pinned (.plain (OpenSpec.upto textBackSpec)) textBackUptoCard

/-- THE SECOND FORM's CARD OF 'alibkeep.TextLines'. -/
def textLinesUptoCard : Claim7 := { stood := { row := textLinesUptoRow, standIns := [], harness := (true, "3e70cfc45ca1374a551bd00cb06621e11f8c09702b1fa7f85c206061da6cf500"), looks := true }, kinds := [], alts := [], laidByText := true, laidKinds := [.data, .data, .data, .data, .sentinel, .sentinel, .pinned], laidTests := true, laidLooks := .later }
def TextLinesUptoCardSaid : Prop := Claim7.holds Tryd.pinned (.plain (OpenSpec.upto textLinesSpec)) textLinesUptoCard

/-- THE SECOND FORM's CARD OF 'alibkeep.TextFront'. -/
def textFrontUptoCard : Claim7 := { stood := { row := textFrontUptoRow, standIns := [], harness := (true, "3e70cfc45ca1374a551bd00cb06621e11f8c09702b1fa7f85c206061da6cf500"), looks := true }, kinds := [], alts := [], laidByText := true, laidKinds := [.data, .data, .data, .data, .sentinel, .sentinel, .pinned], laidTests := true, laidLooks := .later }
def TextFrontUptoCardSaid : Prop := Claim7.holds Tryd.pinned (.plain (OpenSpec.upto textFrontSpec)) textFrontUptoCard
end Rows
end Go.Proofs.YtjdkkabcenohcaaDoor
