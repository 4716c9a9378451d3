/-
  DERIVED. GIVEN WITH THE SEED: THE CARDS: each row of YtjdkkabcenohcaaGreatDoorRows.lean that lists a variable, with what it lists TIED to the program's text (the seventh form; the later family's looks); each row that meets fmt, with fmt's text TOLD by the authors' own Lean function (tested against real Go, not proved from fmt's source: count such statements apart). THE CARD IS WHAT COUNTS. Prove the row's statement (the work); the ties are given (YtjdkkabcenohcaaGreatDoorTie.lean); close each card by the builder's one call (the guide's Derived/Test/ToyasCard.lean, 'card_holds'). Laid BY PROGRAM, IN A SANDBOX (cutbox-door.mjs). By AI agents, Wed Nov 11 2026. No macro, syntax, notation, axiom, sorry.
-/
import Derived.Test.YtjdkkabcenohcaaGreatDoorRows
import GoSem.ClaimSeven
namespace Go.Proofs.YtjdkkabcenohcaaGreatDoor
namespace Rows

/-- THE TIED CARD OF 'alibkeep.VerdictLines'. -/
def verdictLinesCard : Claim7 := { stood := { row := verdictLinesRow, standIns := [], harness := (true, "0f6d6c1a63b4ee1a04362a6ab6a0abadddae7008ac37735853a847d6664e0434"), looks := true }, kinds := [], alts := [], laidByText := true, laidKinds := [.data, .data, .data, .data, .sentinel, .sentinel, .pinned], laidTests := true, laidLooks := .later }
def VerdictLinesCardSaid : Prop := Claim7.holds Tryz.pinned (.plain (OpenSpec.ofChange verdictLinesSpec)) verdictLinesCard

/-- THE TIED CARD OF 'alibkeep.VerdictAgree'. -/
def verdictAgreeCard : Claim7 := { stood := { row := verdictAgreeRow, standIns := [], harness := (true, "0f6d6c1a63b4ee1a04362a6ab6a0abadddae7008ac37735853a847d6664e0434"), looks := true }, kinds := [], alts := [], laidByText := true, laidKinds := [.data, .data, .data, .data, .sentinel, .sentinel, .pinned], laidTests := true, laidLooks := .later }
def VerdictAgreeCardSaid : Prop := Claim7.holds Tryz.pinned (.plain (OpenSpec.ofChange verdictAgreeSpec)) verdictAgreeCard

/-- THE TIED CARD OF 'alibkeep.VerdictWeaker'. -/
def verdictWeakerCard : Claim7 := { stood := { row := verdictWeakerRow, standIns := [], harness := (true, "0f6d6c1a63b4ee1a04362a6ab6a0abadddae7008ac37735853a847d6664e0434"), looks := true }, kinds := [], alts := [], laidByText := true, laidKinds := [.data, .data, .data, .data, .sentinel, .sentinel, .pinned], laidTests := true, laidLooks := .later }
def VerdictWeakerCardSaid : Prop := Claim7.holds Tryz.pinned (.plain (OpenSpec.ofChange verdictWeakerSpec)) verdictWeakerCard

/-- THE TIED CARD OF 'alibtop.TopThreads'. -/
def topThreadsCard : Claim7 := { stood := { row := topThreadsRow, standIns := [], harness := (true, "0f6d6c1a63b4ee1a04362a6ab6a0abadddae7008ac37735853a847d6664e0434"), looks := true }, kinds := [], alts := [], laidByText := true, laidKinds := [.data, .data, .data, .data, .sentinel, .sentinel, .pinned], laidTests := true, laidLooks := .later }
def TopThreadsCardSaid : Prop := Claim7.holds Tryz.pinned (.plain (OpenSpec.ofChange topThreadsSpec)) topThreadsCard

/-- THE TIED CARD OF 'alibtop.TopSteps'. -/
def topStepsCard : Claim7 := { stood := { row := topStepsRow, standIns := [], harness := (true, "0f6d6c1a63b4ee1a04362a6ab6a0abadddae7008ac37735853a847d6664e0434"), looks := true }, kinds := [], alts := [], laidByText := true, laidKinds := [.data, .data, .data, .data, .sentinel, .sentinel, .pinned], laidTests := true, laidLooks := .later }
def TopStepsCardSaid : Prop := Claim7.holds Tryz.pinned (.plain (OpenSpec.ofChange topStepsSpec)) topStepsCard

/-- THE TIED CARD OF 'alibtop.TopSites'. -/
def topSitesCard : Claim7 := { stood := { row := topSitesRow, standIns := [], harness := (true, "0f6d6c1a63b4ee1a04362a6ab6a0abadddae7008ac37735853a847d6664e0434"), looks := true }, kinds := [], alts := [], laidByText := true, laidKinds := [.data, .data, .data, .data, .sentinel, .sentinel, .pinned], laidTests := true, laidLooks := .later }
def TopSitesCardSaid : Prop := Claim7.holds Tryz.pinned (.plain (OpenSpec.ofChange topSitesSpec)) topSitesCard

/-- THE SECOND FORM's CARD OF 'alibkeep.VerdictLines'. -/
def verdictLinesUptoCard : Claim7 := { stood := { row := verdictLinesUptoRow, standIns := [], harness := (true, "0f6d6c1a63b4ee1a04362a6ab6a0abadddae7008ac37735853a847d6664e0434"), looks := true }, kinds := [], alts := [], laidByText := true, laidKinds := [.data, .data, .data, .data, .sentinel, .sentinel, .pinned], laidTests := true, laidLooks := .later }
def VerdictLinesUptoCardSaid : Prop := Claim7.holds Tryz.pinned (.plain (OpenSpec.upto verdictLinesSpec)) verdictLinesUptoCard

/-- THE SECOND FORM's CARD OF 'alibkeep.VerdictAgree'. -/
def verdictAgreeUptoCard : Claim7 := { stood := { row := verdictAgreeUptoRow, standIns := [], harness := (true, "0f6d6c1a63b4ee1a04362a6ab6a0abadddae7008ac37735853a847d6664e0434"), looks := true }, kinds := [], alts := [], laidByText := true, laidKinds := [.data, .data, .data, .data, .sentinel, .sentinel, .pinned], laidTests := true, laidLooks := .later }
def VerdictAgreeUptoCardSaid : Prop := Claim7.holds Tryz.pinned (.plain (OpenSpec.upto verdictAgreeSpec)) verdictAgreeUptoCard

/-- THE SECOND FORM's CARD OF 'alibkeep.VerdictWeaker'. -/
def verdictWeakerUptoCard : Claim7 := { stood := { row := verdictWeakerUptoRow, standIns := [], harness := (true, "0f6d6c1a63b4ee1a04362a6ab6a0abadddae7008ac37735853a847d6664e0434"), looks := true }, kinds := [], alts := [], laidByText := true, laidKinds := [.data, .data, .data, .data, .sentinel, .sentinel, .pinned], laidTests := true, laidLooks := .later }
def VerdictWeakerUptoCardSaid : Prop := Claim7.holds Tryz.pinned (.plain (OpenSpec.upto verdictWeakerSpec)) verdictWeakerUptoCard

/-- THE SECOND FORM's CARD OF 'alibtop.TopThreads'. -/
def topThreadsUptoCard : Claim7 := { stood := { row := topThreadsUptoRow, standIns := [], harness := (true, "0f6d6c1a63b4ee1a04362a6ab6a0abadddae7008ac37735853a847d6664e0434"), looks := true }, kinds := [], alts := [], laidByText := true, laidKinds := [.data, .data, .data, .data, .sentinel, .sentinel, .pinned], laidTests := true, laidLooks := .later }
def TopThreadsUptoCardSaid : Prop := Claim7.holds Tryz.pinned (.plain (OpenSpec.upto topThreadsSpec)) topThreadsUptoCard

/-- THE SECOND FORM's CARD OF 'alibtop.TopSteps'. -/
def topStepsUptoCard : Claim7 := { stood := { row := topStepsUptoRow, standIns := [], harness := (true, "0f6d6c1a63b4ee1a04362a6ab6a0abadddae7008ac37735853a847d6664e0434"), looks := true }, kinds := [], alts := [], laidByText := true, laidKinds := [.data, .data, .data, .data, .sentinel, .sentinel, .pinned], laidTests := true, laidLooks := .later }
def TopStepsUptoCardSaid : Prop := Claim7.holds Tryz.pinned (.plain (OpenSpec.upto topStepsSpec)) topStepsUptoCard

/-- THE SECOND FORM's CARD OF 'alibtop.TopSites'. -/
def topSitesUptoCard : Claim7 := { stood := { row := topSitesUptoRow, standIns := [], harness := (true, "0f6d6c1a63b4ee1a04362a6ab6a0abadddae7008ac37735853a847d6664e0434"), looks := true }, kinds := [], alts := [], laidByText := true, laidKinds := [.data, .data, .data, .data, .sentinel, .sentinel, .pinned], laidTests := true, laidLooks := .later }
def TopSitesUptoCardSaid : Prop := Claim7.holds Tryz.pinned (.plain (OpenSpec.upto topSitesSpec)) topSitesUptoCard
end Rows
end Go.Proofs.YtjdkkabcenohcaaGreatDoor
